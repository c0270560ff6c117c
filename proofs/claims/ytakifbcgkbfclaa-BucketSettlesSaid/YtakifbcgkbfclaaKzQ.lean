/-
  Slices made: make, literals.
-/
import Derived.Test.YtakifbcgkbfclaaKzP
import Derived.Laws.MakeOwn
set_option linter.unusedVariables false
set_option linter.unusedSimpArgs false
namespace Go.Kz
variable {R : Type}

theorem seg_flatten : (css : List (List Value)) → (n : Nat) → (∀ cs ∈ css, cs.length = n) → (i : Nat) → (h : i < css.length) → seg css.flatten (i * n) n = css.get ⟨i, h⟩
  | cs :: css, n, hl, 0, _ => by
    have h0 := hl cs (by simp)
    simp only [List.flatten_cons, Nat.zero_mul, List.get]
    rw [seg_append_left _ _ _ _ (by omega), ← h0, seg_all]
  | cs :: css, n, hl, i + 1, h => by
    have h0 := hl cs (by simp)
    simp only [List.flatten_cons]
    rw [Nat.add_mul, Nat.one_mul, Nat.add_comm (i * n) n, seg_append_right' _ _ _ _ _ h0.symm]
    have := seg_flatten css n (fun cs hcs => hl cs (by simp [hcs])) i (by simpa using h)
    simpa using this
theorem length_flatten : (css : List (List Value)) → (n : Nat) → (∀ cs ∈ css, cs.length = n) → css.flatten.length = css.length * n
  | [], n, _ => by simp
  | cs :: css, n, hl => by
    have h0 := hl cs (by simp)
    have := length_flatten css n (fun cs hcs => hl cs (by simp [hcs]))
    simp only [List.flatten_cons, List.length_append, this, h0, List.length_cons, Nat.add_mul]; omega

theorem madeCells_list (z : Array Value) (n : Nat) (hz : 0 < z.size) : (madeCells z (n * z.size)).toList = (List.replicate n z.toList).flatten := by
  have hlen : (List.replicate n z.toList).flatten.length = n * z.size := by rw [length_flatten_replicate, Array.length_toList]
  apply List.ext_getElem
  · rw [hlen, Array.length_toList, size_madeCells]
  · intro i h1 h2
    rw [hlen] at h2
    have hi : i / z.size < n := Nat.div_lt_of_lt_mul (by rw [Nat.mul_comm]; exact h2)
    have hm := Nat.mod_lt i hz
    have hs := seg_flatten_replicate n z.toList (i / z.size) hi
    rw [Array.length_toList] at hs
    have hdm := Nat.div_add_mod i z.size
    have e : (List.replicate n z.toList).flatten[i]? = z.toList[i % z.size]? := by
      have := congrArg (fun l => l[i % z.size]?) hs
      simp only [seg, List.getElem?_take, List.getElem?_drop, hm, if_true] at this
      rw [Nat.mul_comm (i / z.size) z.size, hdm] at this
      exact this
    have e2 : (madeCells z (n * z.size)).toList[i] = z[i % z.size] := by
      simp [madeCells, hm]
    have h3 : i < (List.replicate n z.toList).flatten.length := by rw [hlen]; exact h2
    rw [List.getElem?_eq_getElem h3] at e
    rw [e2]
    have h4 : i % z.size < z.toList.length := by rw [Array.length_toList]; exact hm
    rw [List.getElem?_eq_getElem h4] at e
    simp only [Option.some.injEq] at e
    rw [e]; simp

theorem tyFor_ok {P : Program} {c : Ctx} (htt : TtOK P c.tt) {d : Option Nat} {t : TypeId} {o : Bool} {u : Ty} (h : tyFor c d t = some (.sl o u)) :
    ∃ E v, P.underlying t = some (.slice E) ∧ TyOK P v E ∧ v.ro = u.ro := by
  unfold tyFor at h
  split at h
  · rename_i u' hd
    split at h
    · rename_i v hv
      split at h
      · rename_i hs _
        simp only [Option.some.injEq] at h
        subst h
        have hT := htt _ _ hv
        have he := hs.down
        cases v with
        | sl o' v =>
          simp only [TyOK] at hT
          obtain ⟨⟨E, h1, h2⟩, _⟩ := hT
          simp only [Ty.ro, Ty.sl.injEq, true_and] at he
          exact ⟨E, v, h1, h2, he.symm⟩
        | _ => simp [Ty.ro] at he
      · simp at h
    · simp at h
  · have hT := htt _ _ h
    simp only [TyOK] at hT
    obtain ⟨⟨E, h1, h2⟩, _⟩ := hT
    exact ⟨E, u, h1, h2, rfl⟩

theorem zeroCells_ro : (t : Ty) → zeroCells t.ro = zeroCells t
  | .int _ => rfl
  | .bool => rfl
  | .str => rfl
  | .unit => rfl
  | .pair a b => by simp only [Ty.ro, zeroCells, zeroCells_ro a, zeroCells_ro b]
  | .arr _ t => by simp only [Ty.ro, zeroCells, zeroCells_ro t]
  | .sl _ _ => rfl
  | .ptr _ => rfl
  | .fn _ _ => rfl
theorem InfoOK.congr {P : Program} {T : TypeId} {u v : Ty} (h : InfoOK P T v) (e : v.ro = u.ro) : InfoOK P T u := by
  obtain ⟨i, z, h1, h2, h3, h4, h5, h6⟩ := h.info
  have hs : v.size = u.size := by rw [← Ty.size_ro v, ← Ty.size_ro u, e]
  have hz : zeroCells v = zeroCells u := by rw [← zeroCells_ro v, ← zeroCells_ro u, e]
  exact ⟨⟨i, z, h1, h2.trans hs, h3, h4, h5.trans hz, h6⟩⟩

section
variable {P : Program} {o : Oper} {a : Act} {w : World} {K : Act → World → Prop} {Q : Exit → Act → World → Prop} {c : Ctx} {σ : St} {g : Ghost} {k : St → Option R} {r : R} {base : Nat} {mo : Bool}

/-- A row in a new block. -/
theorem row_new {u : Ty} {l : List u.den} {cells : Array Value} {e : TypeId} {cap : Nat} (ht : ∀ b, g.tag b ≠ .alien → b < w.heap.size) (hu : u.isRo = true)
    (hc : l.length ≤ cap) (hm : cap ≤ maxLen) (hs : cap * u.size ≤ cells.size)
    (hel : ∀ (i : Nat) (h : i < l.length), Rep w g none u (l.get ⟨i, h⟩) (seg cells.toList (i * u.size) u.size)) (objs : Objs) (ep : Nat) :
    ObjOK (w.alloc (.cells cells e)) (newG g w.heap.size base (.row base []) (.slice (some ⟨w.heap.size, 0, none⟩) l.length cap)) objs base (.row u l ep) := by
  refine ⟨hu, some ⟨w.heap.size, 0, none⟩, cap, by simp [newG], by simp [newG], hc, hm, .inr ⟨w.heap.size, 0, cells, e, rfl, by simp [newG], heap_alloc_new w _, by omega, fun i hi => ?_⟩⟩
  rw [Nat.zero_add]
  exact Rep.anyOwn hu ((hel i hi).kept (newG_ro ht _))

theorem VOK_ref_new {objs : Objs} {u : Ty} {l : List u.den} {v : Value} {b0 : Nat} (ho : objs base = some (.row u l 0)) (hone : v.oneCell' = true) :
    VOK w (newG g b0 base (.row base []) v) objs (.ref base [] 0) v := by
  simp only [VOK]
  refine ⟨_, ⟨v, rfl, hone, fun t l' e hx => ?_⟩, rfl⟩
  rw [ho] at hx
  simp only [Option.some.injEq, Obj.row.injEq] at hx
  obtain ⟨_, _, rfl⟩ := hx
  exact ⟨Nat.le_refl _, fun _ => by simp [newG]⟩

theorem makeSlice_run {t E : TypeId} {u : Ty} {z : u.den} (hund : P.underlying t = some (.slice E)) (hinf : InfoOK P E u) (hu : u.isRo = true) (hz : u.zero = some z) (ht : ∀ b, g.tag b ≠ .alien → b < w.heap.size)
    (kl kc : IntKind) (l m : Int) (hl0 : 0 ≤ l) (hlm : l ≤ m) (hroom : m ≤ 4294967296) (objs : Objs) :
    ∃ cells, (Instr.makeSlice t (.int kl l) (.int kc m)).run P w = .ok (.slice (some ⟨w.heap.size, 0, none⟩) l.toNat m.toNat) (w.alloc (.cells cells E)) ∧
      ObjOK (w.alloc (.cells cells E)) (newG g w.heap.size base (.row base []) (.slice (some ⟨w.heap.size, 0, none⟩) l.toNat m.toNat)) objs base (.row u (List.replicate l.toNat z) 0) := by
  obtain ⟨i, zv, hi1, hi2, hi3, hi4, hi5, hi6⟩ := hinf.info
  have hbytes : (i.bytes : Int) * m ≤ 281474976710656 := by
    have h1 : (i.bytes : Int) ≤ 32768 := by omega
    have h2 : (i.bytes : Int) * m ≤ 32768 * m := Int.mul_le_mul_of_nonneg_right h1 (by omega)
    omega
  have hrun := run_make (P := P) w t E i zv hund hi1 hi4 kl kc l m hl0 hlm hbytes (by omega)
  have hzs : zv.cells.size = u.size := by rw [← Array.length_toList, hi5, zeroCells_len]
  have hcells : (madeCells zv.cells (m.toNat * i.size)).toList = (List.replicate m.toNat (zeroCells u)).flatten := by
    rw [hi2, ← hzs, madeCells_list _ _ (by rw [hzs, ← hi2]; exact hi6), hi5]
  have hlen : (List.replicate l.toNat z).length = l.toNat := by simp
  have hobj : ObjOK (w.alloc (.cells (madeCells zv.cells (m.toNat * i.size)) E)) (newG g w.heap.size base (.row base []) (.slice (some ⟨w.heap.size, 0, none⟩) (List.replicate l.toNat z).length m.toNat)) objs base (.row u (List.replicate l.toNat z) 0) := by
    refine row_new ht hu ?_ ?_ ?_ (fun j hj => ?_) _ _
    · rw [hlen]; omega
    · unfold maxLen; omega
    · rw [size_madeCells, hi2]; exact Nat.le_refl _
    · rw [hcells]
      have hj' : j < l.toNat := by rw [← hlen]; exact hj
      have := seg_flatten_replicate m.toNat (zeroCells u) j (by omega)
      rw [zeroCells_len] at this
      rw [this]
      simp only [List.get_eq_getElem, List.getElem_replicate]
      exact zero_rep hu hz
  rw [hlen] at hobj
  exact ⟨_, hrun, hobj⟩

theorem rowTy_sl {u : Ty} (h : rowTy u = true) : ∃ v, u = .sl true v := by
  unfold rowTy at h
  split at h
  · exact ⟨_, rfl⟩
  · simp at h
/-- A row of rows, each of them nil. -/
theorem makeSlice_nest {t E : TypeId} {v : Ty} (hund : P.underlying t = some (.slice E)) (hinf : InfoOK P E (.sl true v))
    (kl kc : IntKind) (l m : Int) (hl0 : 0 ≤ l) (hlm : l ≤ m) (hroom : m ≤ 4294967296) (objs : Objs) :
    ∃ cells, (Instr.makeSlice t (.int kl l) (.int kc m)).run P w = .ok (.slice (some ⟨w.heap.size, 0, none⟩) l.toNat m.toNat) (w.alloc (.cells cells E)) ∧
      ObjOK (w.alloc (.cells cells E)) (newG g w.heap.size base (.row base []) (.slice (some ⟨w.heap.size, 0, none⟩) l.toNat m.toNat)) objs base (.nest (.sl true v) (List.replicate l.toNat ([] : List v.den)) 0 0 none) := by
  obtain ⟨i, zv, hi1, hi2, hi3, hi4, hi5, hi6⟩ := hinf.info
  have hbytes : (i.bytes : Int) * m ≤ 281474976710656 := by
    have h1 : (i.bytes : Int) ≤ 32768 := by omega
    have h2 : (i.bytes : Int) * m ≤ 32768 * m := Int.mul_le_mul_of_nonneg_right h1 (by omega)
    omega
  have hrun := run_make (P := P) w t E i zv hund hi1 hi4 kl kc l m hl0 hlm hbytes (by omega)
  have hzs : zv.cells.size = 1 := by rw [← Array.length_toList, hi5]; rfl
  have hi2' : i.size = 1 := hi2
  have hcells : (madeCells zv.cells (m.toNat * i.size)).toList = (List.replicate m.toNat (zeroCells (.sl true v))).flatten := by
    rw [hi2', ← hzs, madeCells_list _ _ (by rw [hzs]; omega), hi5]
  have hlen : (List.replicate l.toNat ([] : List v.den)).length = l.toNat := by simp
  refine ⟨_, hrun, ?_⟩
  show Rep _ _ (some (base, [])) (.sl true (.sl true v)) (List.replicate l.toNat ([] : List v.den)) _
  refine ⟨some ⟨w.heap.size, 0, none⟩, m.toNat, by rw [hlen]; simp [newG], by rw [hlen]; simp [newG], by rw [hlen]; omega, by unfold maxLen; omega, .inr ⟨w.heap.size, 0, _, E, rfl, by simp [newG], heap_alloc_new w _, ?_, fun j hj => ?_⟩⟩
  · rw [size_madeCells, hi2']; simp [Ty.size]
  · have hj' : j < l.toNat := by rw [← hlen]; exact hj
    rw [hcells]
    have := seg_flatten_replicate m.toNat (zeroCells (.sl true v)) j (by omega)
    rw [zeroCells_len] at this
    rw [Nat.zero_add, this]
    have hget : (List.replicate l.toNat ([] : List v.den)).get ⟨j, hj⟩ = [] := by simp
    show Rep _ _ (some (base, [] ++ [Step.idx (j : Int)])) (.sl true v) ((List.replicate l.toNat ([] : List v.den)).get ⟨j, hj⟩) _
    rw [hget]
    exact ⟨none, 0, rfl, by simp [newG], Nat.le_refl _, Nat.zero_le _, .inl ⟨rfl, rfl, rfl⟩⟩
theorem VOK_nest_new {objs : Objs} {u : Ty} {l : List u.den} {v : Value} {b0 : Nat} (ho : objs base = some (.nest u l 0 0 none)) (hone : v.oneCell' = true) :
    VOK w (newG g b0 base (.row base []) v) objs (.nv false base [] 0) v := by
  simp only [VOK]
  refine ⟨_, ⟨v, rfl, hone, fun t l' e i h hx => ?_⟩, rfl⟩
  rw [ho] at hx
  simp only [Option.some.injEq, Obj.nest.injEq] at hx
  obtain ⟨_, _, rfl, rfl, _⟩ := hx
  exact ⟨Nat.le_refl _, fun _ => ⟨fun _ => by simp [newG], fun h => (by simp at h)⟩⟩

theorem op_makeSlice (htt : TtOK P c.tt) {t : TypeId} {x y : Operand} (ho : o.op = .makeSlice t x y) (hst : StOK c.ntmps g w a σ) (hf : Fresh g σ base) (h : opK0 c σ base o k = some r) (hK : Post c.ntmps k r g w σ base mo K) : o.wp P a w K Q := by
  simp only [opK0, ho] at h
  split at h
  · rename_i ow u htu
    split at h
    · rename_i z kl l kc m hz hx hy
      cases hu : u.isRo with
      | false =>
        rw [hu] at h
        simp only [cond_false] at h
        cases hr : rowTy u with
        | false => rw [hr] at h; simp at h
        | true =>
          rw [hr] at h
          simp only [cond_true] at h
          obtain ⟨v', rfl⟩ := rowTy_sl hr
          obtain ⟨hb, h⟩ := chk_some h
          simp only [Bool.and_eq_true, decide_eq_true_eq] at hb
          obtain ⟨⟨hl0, hlm⟩, hroom⟩ := hb
          obtain ⟨E, v, hund, hv, hvu⟩ := tyFor_ok htt htu
          have hinf : InfoOK P E (.sl true v') := hv.info.congr hvu
          obtain ⟨vx, _⟩ := VOK_int (ev_ok hst hx).1
          obtain ⟨vy, _⟩ := VOK_int (ev_ok hst hy).1
          · simp only [Ty.zero, Option.some.injEq] at hz
            subst hz
            obtain ⟨cells, hrun, hobj⟩ := makeSlice_nest (P := P) (base := base) (w := w) (g := g) hund hinf kl kc l m hl0 hlm hroom (σ.setObj base (.nest (.sl true v') (List.replicate l.toNat ([] : List v'.den)) 0 0 none)).objs
            refine wp_new (tg := .row base []) hst hf (.inr ⟨[], rfl⟩) ?_ rfl hobj (fun y hy => by simp at hy) (VOK_nest_new (u := .sl true v') (l := List.replicate (Int.toNat l) ([] : List v'.den)) (by simp [St.setObj, upd_same]) rfl) h hK
            simp only [execOp, ho, vx, vy]
            simp [hrun]
      | true =>
        rw [hu] at h
        simp only [cond_true] at h
        obtain ⟨hb, h⟩ := chk_some h
        simp only [Bool.and_eq_true, decide_eq_true_eq] at hb
        obtain ⟨⟨hl0, hlm⟩, hroom⟩ := hb
        obtain ⟨E, v, hund, hv, hvu⟩ := tyFor_ok htt htu
        have hinf : InfoOK P E u := hv.info.congr hvu
        obtain ⟨vx, _⟩ := VOK_int (ev_ok hst hx).1
        obtain ⟨vy, _⟩ := VOK_int (ev_ok hst hy).1
        obtain ⟨cells, hrun, hobj⟩ := makeSlice_run (P := P) (base := base) hund hinf hu hz hst.heap.tags kl kc l m hl0 hlm hroom (σ.setObj base (.row u (List.replicate l.toNat z) 0)).objs
        refine wp_new (tg := .row base []) hst hf (.inr ⟨[], rfl⟩) ?_ rfl hobj (fun y hy => by simp at hy) (VOK_ref_new (u := u) (l := List.replicate (Int.toNat l) z) (by simp [St.setObj, upd_same]) rfl) h hK
        simp only [execOp, ho, vx, vy]
        simp [hrun]
    · simp at h
  · simp at h

theorem fold_set (off : Nat) : (l : List Value) → (j0 : Nat) → (cells : Array Value) → off + j0 + l.length ≤ cells.size →
    ((l.zipIdx j0).foldl (fun cs (x : Value × Nat) => cs.setIfInBounds (off + x.2) x.1) cells).toList = splice cells.toList (off + j0) l
  | [], j0, cells, _ => by simp [splice]
  | x :: l, j0, cells, h => by
    simp only [List.length_cons] at h
    simp only [List.zipIdx_cons, List.foldl_cons]
    rw [fold_set off l (j0 + 1) _ (by rw [Array.size_setIfInBounds]; omega)]
    simp only [splice, Array.toList_setIfInBounds, List.length_cons]
    have e1 : (cells.toList.set (off + j0) x).take (off + (j0 + 1)) = cells.toList.take (off + j0) ++ [x] := by
      rw [← Nat.add_assoc, List.take_succ_eq_append_getElem (by simp; omega)]
      simp [List.take_set_of_le]
    have e2 : (cells.toList.set (off + j0) x).drop (off + (j0 + 1) + l.length) = cells.toList.drop (off + j0 + (l.length + 1)) := by
      rw [List.drop_set_of_lt (by omega)]
      congr 1; omega
    rw [e1, e2]
    simp

theorem fill_ok {size : Nat} : (vs : List Value) → (j : Nat) → (cells : Array Value) → (∀ v ∈ vs, v.cells.size = size) → (j + vs.length) * size ≤ cells.size →
    ∃ cells', Instr.fill (fun i => some (i * size, size)) cells (numbered j vs) = some cells' ∧
      cells'.toList = cells.toList.take (j * size) ++ (vs.map (·.cells.toList)).flatten ++ cells.toList.drop ((j + vs.length) * size)
  | [], j, cells, _, h => ⟨cells, rfl, by simp⟩
  | v :: vs, j, cells, hv, h => by
    have h0 := hv v (by simp)
    simp only [List.length_cons] at h
    have hmul : (j + (vs.length + 1)) * size = j * size + size + vs.length * size := by rw [Nat.add_mul, Nat.add_mul]; omega
    have hmul2 : (j + 1 + vs.length) * size = j * size + size + vs.length * size := by rw [Nat.add_mul, Nat.add_mul]; omega
    have hfold := fold_set (j * size) v.cells.toList 0 cells (by rw [Array.length_toList, h0]; omega)
    let cells2 : Array Value := (v.cells.toList.zipIdx 0).foldl (fun cs (x : Value × Nat) => cs.setIfInBounds (j * size + x.2) x.1) cells
    have hc2 : cells2.toList = splice cells.toList (j * size) v.cells.toList := hfold
    have hsz2 : cells2.size = cells.size := by
      rw [← Array.length_toList, hc2, splice_length _ _ _ (by rw [Array.length_toList, Array.length_toList, h0]; omega), Array.length_toList]
    obtain ⟨cells', h1, h2⟩ := fill_ok vs (j + 1) cells2 (fun u hu => hv u (by simp [hu])) (by rw [hsz2, hmul2]; omega)
    refine ⟨cells', ?_, ?_⟩
    · simp only [numbered, Instr.fill]
      rw [if_neg (by simp [h0]; omega)]
      rw [← h1]
      congr 1
      show v.cells.zipIdx.foldl _ cells = cells2
      rw [← Array.foldl_toList, Array.toList_zipIdx]
    · rw [h2, hc2]
      have hvl : v.cells.toList.length = size := by rw [Array.length_toList, h0]
      have e1 : (splice cells.toList (j * size) v.cells.toList).take ((j + 1) * size) = cells.toList.take (j * size) ++ v.cells.toList := by
        simp only [splice]
        rw [List.take_append_of_le_length (by simp [hvl]; rw [Nat.add_mul]; omega)]
        rw [List.take_of_length_le (by simp [hvl]; rw [Nat.add_mul]; omega)]
      have e2 : (splice cells.toList (j * size) v.cells.toList).drop ((j + 1 + vs.length) * size) = cells.toList.drop ((j + (vs.length + 1)) * size) := by
        obtain ⟨q, hq⟩ : ∃ q, (j + 1 + vs.length) * size = (j * size + size) + q := ⟨vs.length * size, hmul2⟩
        have hq2 : (j + (vs.length + 1)) * size = j * size + size + q := by rw [hmul]; rw [hmul2] at hq; omega
        rw [hq, hq2]
        simp only [splice]
        rw [List.drop_append, List.drop_eq_nil_of_le (by simp [hvl]; omega), List.nil_append, List.drop_drop]
        congr 1
        simp [hvl]; omega
      rw [e1, e2]
      simp [List.append_assoc]

/-- The operands of a literal. -/
theorem parts_ok {u : Ty} (hu : u.isRo = true) : {l : List (Nat × Operand)} → {σ : St} → {g : Ghost} → {k : List u.den → St → Option R} → {r : R} → {n : Nat} →
    StOK n g w a σ → parts σ u l k = some r →
    ∃ ds σ' g' css, k ds σ' = some r ∧ σ'.slots = σ.slots ∧ σ'.next = σ.next ∧ Shrunk g σ.objs g' σ'.objs ∧ ds.length = l.length ∧
      l.map (fun x => (a.eval x.2).cells.toList) = css ∧ (∀ cs ∈ css, cs.length = u.size) ∧
      ∀ (i : Nat) (h : i < ds.length) (h' : i < css.length), Rep w g' none u (ds.get ⟨i, h⟩) (css.get ⟨i, h'⟩)
  | [], σ, g, k, r, n, hst, h => ⟨[], σ, g, [], h, rfl, rfl, .refl _ _, rfl, rfl, by simp, fun i h => by simp at h⟩
  | (j, x) :: l, σ, g, k, r, n, hst, h => by
    simp only [parts] at h
    split at h
    · rename_i av hav
      obtain ⟨ex, ef⟩ := ev_ok hst hav
      cases hb : av.val with
      | false => rw [hb] at h; simp at h
      | true =>
        rw [hb] at h
        simp only [cond_true] at h
        obtain ⟨cs, hok, hmk, hcells⟩ := VOK_valueCells hb ex
        obtain ⟨d, σ1, g1, hk, h1, h2, h3, hrep⟩ := give_ok 20 hst.heap hok hu h
        obtain ⟨ds, σ2, g2, css, hk2, h4, h5, h6, h7, h8, h9, h10⟩ := parts_ok hu (h3.st h1 hst) hk
        refine ⟨d :: ds, σ2, g2, cs :: css, hk2, h4.trans h1, h5.trans h2, h3.trans h6, by simp [h7], ?_, ?_, ?_⟩
        · simp only [List.map_cons, hcells, h8]
        · intro c hc
          rcases List.mem_cons.1 hc with rfl | hc
          · exact hrep.len
          · exact h9 c hc
        · intro i hi hi'
          cases i with
          | zero => exact hrep.kept (h6.ro w)
          | succ i => exact h10 i (by simpa using hi) (by simpa using hi')
    · simp at h

theorem inOrder_numbered : {l : List (Nat × Operand)} → {j : Nat} → inOrder j l = true → (f : Operand → Value) → l.map (fun x => (x.1, f x.2)) = numbered j (l.map fun x => f x.2)
  | [], _, _, _ => rfl
  | (i, x) :: l, j, h, f => by
    simp only [inOrder, Bool.and_eq_true] at h
    have he := Nat.eq_of_beq_eq_true h.1
    simp only [List.map_cons, numbered, inOrder_numbered h.2 f, he]

theorem op_buildSlice (htt : TtOK P c.tt) {t : TypeId} {len : Nat} {ps : Array (Nat × Operand)} (ho : o.op = .buildSlice t len ps) (hst : StOK c.ntmps g w a σ) (hf : Fresh g σ base) (h : opK0 c σ base o k = some r) (hK : Post c.ntmps k r g w σ base mo K) : o.wp P a w K Q := by
  simp only [opK0, ho] at h
  split at h
  · rename_i ow u htu
    cases hb : (u.isRo && inOrder 0 ps.toList && Nat.beq ps.toList.length len && Nat.ble (len * u.size) 100000) with
    | false => rw [hb] at h; simp at h
    | true =>
      rw [hb] at h
      simp only [cond_true] at h
      simp only [Bool.and_eq_true] at hb
      obtain ⟨⟨⟨hu, hin⟩, hlen⟩, hbig⟩ := hb
      have hlen := Nat.eq_of_beq_eq_true hlen
      have hbig := Nat.le_of_ble_eq_true hbig
      obtain ⟨E, v, hund, hv, hvu⟩ := tyFor_ok htt htu
      have hinf : InfoOK P E u := hv.info.congr hvu
      obtain ⟨i, zv, hi1, hi2, hi3, hi4, hi5, hi6⟩ := hinf.info
      obtain ⟨ds, σ1, g1, css, hk, h1, h2, h3, h4, h5, h6, h7⟩ := parts_ok hu hst h
      have hst1 := h3.st h1 hst
      have hf1 := h3.fresh h1 hf
      let vs : List Value := ps.toList.map fun x => a.eval x.2
      have hvs : ∀ v ∈ vs, v.cells.size = u.size := by
        intro v hv
        obtain ⟨x, hx, rfl⟩ := List.mem_map.1 hv
        rw [← Array.length_toList]
        exact h6 _ (by rw [← h5]; exact List.mem_map.2 ⟨x, hx, rfl⟩)
      have hvl : vs.length = len := by simp [vs]; rw [← hlen]; simp
      let zeros : Array Value := (Array.range (len * i.size)).map (zv.cells[· % zv.cells.size]!)
      let zeros0 : Array Value := (Array.range (len * i.size)).map ((#[] : Array Value)[· % (#[] : Array Value).size]!)
      have hzsz : zeros.size = len * u.size := by simp [zeros, hi2]
      obtain ⟨cells, hfill, hcl⟩ := fill_ok vs 0 zeros hvs (by rw [hzsz, Nat.zero_add, hvl]; exact Nat.le_refl _)
      have hcl' : cells.toList = css.flatten := by
        rw [hcl]
        simp only [Nat.zero_mul, List.take_zero, List.nil_append, Nat.zero_add, hvl]
        rw [List.drop_eq_nil_of_le (by rw [Array.length_toList, hzsz]; exact Nat.le_refl _), List.append_nil]
        rw [← h5]
        simp [vs]
        rfl
      have hcssl : css.length = len := by rw [← h5]; simp [← hlen]
      have hnum : ps.toList.map (fun x => (x.1, a.eval x.2)) = numbered 0 vs := inOrder_numbered hin a.eval
      have hrun : (Instr.buildSlice t len (ps.map fun x => (x.1, a.eval x.2))).run P w = .ok (.slice (some ⟨w.heap.size, 0, none⟩) len len) (w.alloc (.cells cells E)) := by
        have hnb : ¬ (2 ^ 24 < len * i.size) := by rw [hi2]; omega
        unfold Instr.buildSlice
        simp only [Sem.run_bind, run_underlying hund, Result.andThen_ok]
        by_cases hz : len * i.size = 0
        · have hl0 : len = 0 := by
            rcases Nat.mul_eq_zero.1 hz with h0 | h0
            · exact h0
            · omega
          have hps : ps = #[] := by apply Array.toList_inj.1; exact List.eq_nil_of_length_eq_zero (hlen.trans hl0)
          have hc0 : cells.toList = [] := by
            rw [hcl', List.eq_nil_of_length_eq_zero (hcssl.trans hl0)]; rfl
          have hc0' : cells = #[] := by apply Array.toList_inj.1; rw [hc0]
          simp [Go.sizeOf, typeInfo, hi1, hl0, hps, Instr.fill, newRow, hc0', Array.range_zero']
        · have hfill' := hfill
          simp only [zeros] at hfill'
          rw [← hi2] at hfill'
          simp [Go.sizeOf, typeInfo, hi1, hnb, hz, zeroValue, hi4, hnum, hfill', newRow]
      have hobj : ObjOK (w.alloc (.cells cells E)) (newG g1 w.heap.size base (.row base []) (.slice (some ⟨w.heap.size, 0, none⟩) ds.length len)) (σ1.setObj base (.row u ds 0)).objs base (.row u ds 0) := by
        refine row_new hst1.heap.tags hu ?_ ?_ ?_ (fun j hj => ?_) _ _
        · rw [h4, hlen]; exact Nat.le_refl _
        · have : len * 1 ≤ len * u.size := Nat.mul_le_mul_left _ (by omega)
          unfold maxLen; omega
        · rw [← Array.length_toList, hcl', length_flatten css u.size h6, hcssl]; exact Nat.le_refl _
        · rw [hcl', seg_flatten css u.size h6 j (by rw [hcssl, ← hlen, ← h4]; exact hj)]
          exact h7 j hj _
      have hdl : ds.length = len := h4.trans hlen
      rw [hdl] at hobj
      have hK1 : Post c.ntmps k r g1 w σ1 base mo K := by
        intro σ' g' a' w' hk' hst' hext hfr hnext hag
        exact hK σ' g' a' w' hk' hst' (h3.ext.trans hext) (fun m hm hfm => hfr m hm (h3.fresh h1 hfm)) (hnext.trans h2) hag
      cases hfz : froz c o.dst with
      | true =>
        rw [hfz] at hk
        simp only [cond_true] at hk
        obtain ⟨_, a', cap', hcs', _, hlc', hcm', hrow'⟩ := hobj
        have hrep : Rep (w.alloc (.cells cells E)) (newG g1 w.heap.size base .ro (.slice (some ⟨w.heap.size, 0, none⟩) len len)) none (.sl false u) ds [.slice (some ⟨w.heap.size, 0, none⟩) len len] := by
          refine ⟨some ⟨w.heap.size, 0, none⟩, len, by rw [hdl], by rw [hdl]; exact Nat.le_refl _, ?_, fun hne => ⟨w.heap.size, 0, cells, E, (0, 0), rfl, by simp [newG], heap_alloc_new w _, ?_, fun j hj => ?_⟩⟩
          · have : len * 1 ≤ len * u.size := Nat.mul_le_mul_left _ (by omega)
            unfold maxLen; omega
          · rw [hdl, ← Array.length_toList, hcl', length_flatten css u.size h6, hcssl, Nat.zero_add]; exact Nat.le_refl _
          · rw [Nat.zero_add, hcl', seg_flatten css u.size h6 j (by rw [hcssl, ← hdl]; exact hj)]
            exact (h7 j hj _).kept (newG_ro hst1.heap.tags _)
        refine wp_newRo (v' := .slice (some ⟨w.heap.size, 0, none⟩) len len) (t := .sl false u) hst1 hf1 ?_ (by simpa [Ty.isRo] using hu) hrep rfl hk hK1
        simp only [execOp, ho]
        simp [hrun]
      | false =>
      rw [hfz] at hk
      simp only [cond_false] at hk
      refine wp_new (tg := .row base []) hst1 hf1 (.inr ⟨[], rfl⟩) ?_ rfl hobj (fun y hy => by simp at hy) (VOK_ref_new (u := u) (l := ds) (by simp [St.setObj, upd_same]) rfl) hk hK1
      simp only [execOp, ho]
      simp [hrun]
  · simp at h

end
end Go.Kz
