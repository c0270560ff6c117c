/-
  New memory.
-/
import Derived.Test.YtakifbcgkbfclaaKzO
set_option linter.unusedVariables false
set_option linter.unusedSimpArgs false
namespace Go.Kz
variable {R : Type}

def newG (g : Ghost) (b0 m : Nat) (tg : Tag) (v : Value) : Ghost where
  tag := fun b => if b = b0 then tg else g.tag b
  sv := fun i p => if i = m then (if p = [] then v else .slice none 0 0) else g.sv i p
  blk := fun i => if i = m then b0 else g.blk i

section
variable {w : World} {g : Ghost} {σ : St} {o : Obj} {m : Nat} {tg : Tag} {v : Value}

theorem newG_ro (ht : ∀ b, g.tag b ≠ .alien → b < w.heap.size) (ob : Go.Obj) : RoKept w g (w.alloc ob) (newG g w.heap.size m tg v) :=
  ⟨fun b hb => by
    have := ht b (by rw [hb]; simp)
    exact ⟨by simp only [newG]; rw [if_neg (by omega)]; exact hb, heap_alloc_old w ob this⟩⟩
theorem newG_same (ht : ∀ b, g.tag b ≠ .alien → b < w.heap.size) (ob : Go.Obj) {id : Nat} (hid : id ≠ m) : Same w g (w.alloc ob) (newG g w.heap.size m tg v) id := by
  refine ⟨⟨fun q => by simp [newG, hid], fun q b hb => ?_⟩, by simp [newG, hid], fun hb => ?_⟩
  · have := ht b (by rw [hb]; simp)
    exact ⟨by simp only [newG]; rw [if_neg (by omega)]; exact hb, heap_alloc_old w ob this⟩
  · have := ht (g.blk id) (by rw [hb]; simp)
    exact ⟨by simp only [newG]; rw [if_neg (by omega)]; exact hb, heap_alloc_old w ob this⟩
theorem newG_ext (ht : ∀ b, g.tag b ≠ .alien → b < w.heap.size) (ob : Go.Obj) : Ext w g (w.alloc ob) (newG g w.heap.size m tg v) := by
  refine ⟨rfl, rfl, rfl, by simp, fun b hb _ => ⟨heap_alloc_old w ob hb, ?_⟩⟩
  simp only [newG]; rw [if_neg (by omega)]

theorem upd_same {α : Type} (f : Nat → Option α) (i : Nat) (x : Option α) : upd f i x i = x := by simp [upd]
theorem upd_other {α : Type} (f : Nat → Option α) {i j : Nat} (x : Option α) (h : j ≠ i) : upd f i x j = f j := by
  simp only [upd]
  cases hb : Nat.beq j i with
  | true => exact absurd (Nat.eq_of_beq_eq_true hb) h
  | false => rfl

theorem newG_kept (hh : HeapOK w g σ.objs) (ob : Go.Obj) {id : Nat} (hid : id ≠ m) : IdKept g (newG g w.heap.size m tg v) id (σ.objs id) ((σ.setObj m o).objs id) := by
  simp only [St.setObj]
  rw [upd_other _ _ hid]
  exact IdKept.same (newG_same hh.tags ob hid)

/-- A new block, a new object. -/
theorem StOK.new {n : Nat} {a : Act} (hst : StOK n g w a σ) (hf : Fresh g σ m) (ob : Go.Obj) (htg : tg ≠ .alien)
    (hobj : ObjOK (w.alloc ob) (newG g w.heap.size m tg v) (σ.setObj m o).objs m o) : StOK n (newG g w.heap.size m tg v) (w.alloc ob) a (σ.setObj m o) := by
  refine ⟨fun i av hi => ?_, ⟨fun id x hx => ?_, fun b hb => ?_⟩, hst.size, hst.defers⟩
  · obtain ⟨u, hu, hok⟩ := hst.slots i av hi
    refine ⟨u, hu, VOK.frame (newG_ro hst.heap.tags ob) (fun id hid => newG_kept hst.heap ob ?_) hok⟩
    intro he; subst he; exact hf.slots i av hi hid
  · by_cases hid : id = m
    · subst hid
      simp only [St.setObj, upd_same, Option.some.injEq] at hx
      subst hx
      exact hobj
    · have hx' : σ.objs id = some x := by simpa [St.setObj, upd_other _ _ hid] using hx
      refine ObjOK.frame (newG_ro hst.heap.tags ob) (newG_same hst.heap.tags ob hid) (fun y hy id' hid' => newG_kept hst.heap ob ?_) (hst.heap.objs id x hx')
      intro he; subst he; subst hy
      exact hf.cells id y hx' hid'
  · simp only [newG] at hb
    split at hb
    · rename_i he; subst he; simp
    · have := hst.heap.tags b hb; simp; omega

theorem Fresh.new {m' : Nat} (hm : m' ≠ m) (hrow : ∀ p, tg ≠ .row m' p) (hbox : tg ≠ .box m') (ho : ∀ y, o = .cell y → m' ∉ y.ids) (hf : Fresh g σ m') : Fresh (newG g w.heap.size m tg v) (σ.setObj m o) m' := by
  refine ⟨by simp only [St.setObj]; rw [upd_other _ _ hm]; exact hf.objs, fun b p hb => ?_, fun b hb => ?_, hf.slots, fun id av hi => ?_⟩
  · simp only [newG] at hb
    split at hb
    · exact hrow p hb
    · exact hf.row b p hb
  · simp only [newG] at hb
    split at hb
    · exact hbox hb
    · exact hf.box b hb
  · by_cases hid : id = m
    · subst hid
      simp only [St.setObj, upd_same, Option.some.injEq] at hi
      exact ho av hi
    · simp only [St.setObj] at hi
      rw [upd_other _ _ hid] at hi
      exact hf.cells id av hi
end

theorem seg_flatten_replicate (n : Nat) (cs : List Value) (i : Nat) (h : i < n) : seg (List.replicate n cs).flatten (i * cs.length) cs.length = cs := by
  induction n generalizing i with
  | zero => omega
  | succ n ih =>
    simp only [List.replicate_succ, List.flatten_cons]
    cases i with
    | zero =>
      simp only [Nat.zero_mul]
      rw [seg_append_left _ _ _ _ (by omega), seg_all]
    | succ i =>
      rw [Nat.add_mul, Nat.one_mul, Nat.add_comm]
      rw [seg_append_right' _ _ _ _ _ rfl]
      exact ih i (by omega)
theorem length_flatten_replicate (n : Nat) (cs : List Value) : (List.replicate n cs).flatten.length = n * cs.length := by
  induction n with
  | zero => simp
  | succ n ih => simp only [List.replicate_succ, List.flatten_cons, List.length_append, ih, Nat.add_mul]; omega

theorem zeroCells_len : (t : Ty) → (zeroCells t).length = t.size
  | .int _ => rfl
  | .bool => rfl
  | .str => rfl
  | .unit => rfl
  | .pair a b => by simp only [zeroCells, List.length_append, Ty.size, zeroCells_len a, zeroCells_len b]
  | .arr n t => by rw [zeroCells, length_flatten_replicate, zeroCells_len t]; rfl
  | .sl _ _ => rfl
  | .ptr _ => rfl
  | .fn _ _ => rfl

theorem zero_rep {w : World} {g : Ghost} : {t : Ty} → {d : t.den} → t.isRo = true → t.zero = some d → Rep w g none t d (zeroCells t)
  | .int k, d, _, h => by
    simp only [Ty.zero, Option.some.injEq] at h
    subst h
    refine ⟨rfl, ?_⟩
    cases k <;> simp [IntKind.min, IntKind.max, IntKind.bits, IntKind.signed]
  | .bool, d, _, h => by simp only [Ty.zero, Option.some.injEq] at h; subst h; rfl
  | .str, d, _, h => by
    simp only [Ty.zero, Option.some.injEq] at h
    subst h
    exact ⟨ByteArray.empty, rfl, rfl, Nat.zero_le _⟩
  | .unit, d, _, h => rfl
  | .pair a b, d, hr, h => by
    simp only [Ty.zero] at h
    simp only [Ty.isRo, Bool.and_eq_true] at hr
    split at h
    · rename_i x y hx hy
      simp only [Option.some.injEq] at h
      subst h
      exact ⟨_, _, rfl, zero_rep hr.1 hx, zero_rep hr.2 hy⟩
    · simp at h
  | .arr n t, d, hr, h => by
    simp only [Ty.zero] at h
    split at h
    · rename_i x hx
      simp only [Option.some.injEq] at h
      subst h
      have hrep := zero_rep (w := w) (g := g) (by simpa [Ty.isRo] using hr) hx
      refine ⟨by simp, by rw [zeroCells, length_flatten_replicate, zeroCells_len], fun i hi => ?_⟩
      have hi' : i < n := by simpa using hi
      simp only [List.get_eq_getElem, List.getElem_replicate, zeroCells]
      have := seg_flatten_replicate n (zeroCells t) i hi'
      rw [zeroCells_len] at this
      rw [this]; exact hrep
    · simp at h
  | .sl false t, d, _, h => by
    simp only [Ty.zero, Option.some.injEq] at h
    subst h
    exact ⟨none, 0, rfl, Nat.le_refl _, Nat.zero_le _, fun hn => absurd rfl hn⟩
  | .sl true t, d, hr, h => by simp [Ty.isRo] at hr
  | .ptr _, _, _, h => by simp [Ty.zero] at h
  | .fn _ _, _, _, h => by simp [Ty.zero] at h

theorem noSl_isRo : {t : Ty} → t.noSl = true → t.isRo = true
  | .int _, _ => rfl
  | .bool, _ => rfl
  | .str, _ => rfl
  | .unit, _ => rfl
  | .pair a b, h => by simp only [Ty.noSl, Bool.and_eq_true] at h; simp [Ty.isRo, noSl_isRo h.1, noSl_isRo h.2]
  | .arr _ t, h => by simp only [Ty.noSl] at h; simp only [Ty.isRo]; exact noSl_isRo h
  | .sl _ _, h => by simp [Ty.noSl] at h
  | .ptr _, h => by simp [Ty.noSl] at h
  | .fn _ _, h => by simp [Ty.noSl] at h

theorem zeroA_pair (a b : Ty) : zeroA (.pair a b) = (match Ty.zero (.pair a b), (Ty.pair a b).noSl with
    | some z, true => some (.data (.pair a b) z)
    | _, _ => (zeroC (.pair a b)).map .agg) := rfl
theorem zeroC_pair (a b : Ty) : zeroC (.pair a b) = (match zeroA a, zeroC b with
    | some x, some y => some (.pr x y)
    | _, _ => none) := rfl
theorem zeroA_arr (n : Nat) (t : Ty) : zeroA (.arr n t) = (match Ty.zero (.arr n t), (Ty.arr n t).noSl with
    | some z, true => some (.data (.arr n t) z)
    | _, _ => none) := by
  unfold zeroA zeroAC
  simp only
  split <;> split <;> simp_all

mutual
theorem zeroA_ok {w : World} {g : Ghost} {objs : Objs} : {u : Ty} → {z : AVal} → zeroA u = some z → z.sk = u.sk ∧ z.ids = [] ∧ AOK w g objs z (zeroCells u) ∧ z.val = true
  | .sl o t, z, h => by
    simp only [zeroA, zeroAC, Option.some.injEq] at h
    subst h
    exact ⟨rfl, rfl, rfl, rfl⟩
  | .pair a b, z, h => by
    rw [zeroA_pair] at h
    split at h
    · rename_i d h1 h2
      simp only [Option.some.injEq] at h
      subst h
      have hr := noSl_isRo h2
      exact ⟨rfl, rfl, ⟨hr, zero_rep hr h1⟩, rfl⟩
    · simp only [Option.map_eq_some_iff] at h
      obtain ⟨x, hx, rfl⟩ := h
      obtain ⟨h1, h2, h3, h4⟩ := zeroC_ok (w := w) (g := g) (objs := objs) hx
      exact ⟨h1, h2, h3, h4⟩
  | .int k, z, h => by
    simp only [zeroA, zeroAC, Ty.zero, Ty.noSl, Option.some.injEq] at h
    subst h
    exact ⟨rfl, rfl, ⟨rfl, zero_rep rfl rfl⟩, rfl⟩
  | .bool, z, h => by
    simp only [zeroA, zeroAC, Ty.zero, Ty.noSl, Option.some.injEq] at h
    subst h
    exact ⟨rfl, rfl, ⟨rfl, zero_rep rfl rfl⟩, rfl⟩
  | .str, z, h => by
    simp only [zeroA, zeroAC, Ty.zero, Ty.noSl, Option.some.injEq] at h
    subst h
    exact ⟨rfl, rfl, ⟨rfl, zero_rep rfl rfl⟩, rfl⟩
  | .unit, z, h => by
    simp only [zeroA, zeroAC, Ty.zero, Ty.noSl, Option.some.injEq] at h
    subst h
    exact ⟨rfl, rfl, ⟨rfl, zero_rep rfl rfl⟩, rfl⟩
  | .arr n t, z, h => by
    rw [zeroA_arr] at h
    split at h
    · rename_i d h1 h2
      simp only [Option.some.injEq] at h
      subst h
      have hr := noSl_isRo h2
      exact ⟨rfl, rfl, ⟨hr, zero_rep hr h1⟩, rfl⟩
    · simp at h
  | .ptr t, z, h => by simp [zeroA, zeroAC, Ty.zero] at h
  | .fn f t, z, h => by simp [zeroA, zeroAC, Ty.zero] at h
theorem zeroC_ok {w : World} {g : Ghost} {objs : Objs} : {u : Ty} → {z : AVal} → zeroC u = some z → z.sk = u.sk ∧ z.ids = [] ∧ AOK w g objs z (zeroCells u) ∧ (AVal.agg z).val = true
  | .pair a b, z, h => by
    rw [zeroC_pair] at h
    split at h
    · rename_i x y hx hy
      simp only [Option.some.injEq] at h
      subst h
      obtain ⟨h1, h2, h3, _⟩ := zeroA_ok (w := w) (g := g) (objs := objs) hx
      obtain ⟨k1, k2, k3, _⟩ := zeroC_ok (w := w) (g := g) (objs := objs) hy
      exact ⟨by simp [AVal.sk, Ty.sk, h1, k1], by simp [AVal.ids, h2, k2], ⟨_, _, rfl, h3, k3⟩, rfl⟩
    · simp at h
  | .unit, z, h => by
    simp only [zeroC, zeroAC, Option.some.injEq] at h
    subst h
    exact ⟨rfl, rfl, rfl, rfl⟩
  | .int _, _, h => by simp [zeroC, zeroAC] at h
  | .bool, _, h => by simp [zeroC, zeroAC] at h
  | .str, _, h => by simp [zeroC, zeroAC] at h
  | .arr _ _, _, h => by simp [zeroC, zeroAC] at h
  | .sl _ _, _, h => by simp [zeroC, zeroAC] at h
  | .ptr _, _, h => by simp [zeroC, zeroAC] at h
  | .fn _ _, _, h => by simp [zeroC, zeroAC] at h
end

section
variable {P : Program} {o : Oper} {a : Act} {w : World} {K : Act → World → Prop} {Q : Exit → Act → World → Prop} {c : Ctx} {σ : St} {g : Ghost} {k : St → Option R} {r : R} {base : Nat} {mo : Bool}

/-- An operation that makes one block and gives its address (or a slice over it). -/
theorem wp_new {ob : Go.Obj} {obj : Obj} {tg : Tag} {v v' : Value} {av : AVal} (hst : StOK c.ntmps g w a σ) (hf : Fresh g σ base) (htg : tg = .box base ∨ ∃ p, tg = .row base p)
    (hrun : (execOp a.eval o).run P w = .ok (.value v') (w.alloc ob)) (hids : av.ids = [base])
    (hobj : ObjOK (w.alloc ob) (newG g w.heap.size base tg v) (σ.setObj base obj).objs base obj)
    (hcell : ∀ y, obj = .cell y → ∀ m, Fresh g σ m → m ∉ y.ids)
    (hv : VOK (w.alloc ob) (newG g w.heap.size base tg v) (σ.setObj base obj).objs av v')
    (h : (σ.putK c o.dst av fun σ => k (σ.setObj base obj)) = some r) (hK : Post c.ntmps k r g w σ base mo K) : o.wp P a w K Q := by
  have hne : tg ≠ .alien := by rcases htg with rfl | ⟨p, rfl⟩ <;> simp
  have hst' := hst.new hf ob hne hobj
  have hfr : ∀ m, (m < base ∨ base + 8 ≤ m) → Fresh g σ m → Fresh (newG g w.heap.size base tg v) (σ.setObj base obj) m := by
    intro m hm hfm
    have hmb : m ≠ base := by omega
    refine Fresh.new hmb (fun p => ?_) ?_ (fun y hy => hcell y hy m hfm) hfm
    · rcases htg with rfl | ⟨p', rfl⟩ <;> simp; exact fun h => absurd h.symm hmb
    · rcases htg with rfl | ⟨p', rfl⟩ <;> simp; exact fun h => hmb h.symm
  unfold Oper.wp
  rw [hrun, Oper.upon_value]
  rcases putK_some h with ⟨hd, hk⟩ | ⟨i, hd, hi, hk⟩
  · rw [hd]
    exact hK _ _ _ _ hk hst' (newG_ext hst.heap.tags ob) hfr rfl (fun _ b hb => heap_alloc_old w ob hb)
  · rw [hd]
    refine hK _ _ _ _ hk (show StOK c.ntmps _ _ _ ((σ.setObj base obj).set i av) from hst'.put hi hv) (newG_ext hst.heap.tags ob) (fun m hm hfm => ?_) rfl (fun _ b hb => heap_alloc_old w ob hb)
    exact (hfr m hm hfm).set i (by rw [hids]; simp; omega)

/-- New memory that is read-only from the first. -/
theorem wp_newRo {ob : Go.Obj} {t : Ty} {d : t.den} {v' : Value} {cs : List Value} {vx : Value} (hst : StOK c.ntmps g w a σ) (hf : Fresh g σ base)
    (hrun : (execOp a.eval o).run P w = .ok (.value v') (w.alloc ob)) (hro : t.isRo = true) (hrep : Rep (w.alloc ob) (newG g w.heap.size base .ro vx) none t d cs) (hv : v' = mkV t.sk.isAgg cs)
    (h : σ.putK c o.dst (.data t d) k = some r) (hK : Post c.ntmps k r g w σ base mo K) : o.wp P a w K Q := by
  have ht := hst.heap.tags
  have hsame : ∀ i, i ≠ base → IdKept g (newG g w.heap.size base .ro vx) i (σ.objs i) (σ.objs i) := fun i hi => IdKept.same (newG_same ht ob hi)
  have hst' : StOK c.ntmps (newG g w.heap.size base .ro vx) (w.alloc ob) a σ := by
    refine ⟨fun i av hi => ?_, ⟨fun id x hx => ?_, fun b hb => ?_⟩, hst.size, hst.defers⟩
    · obtain ⟨u, hu, hok⟩ := hst.slots i av hi
      refine ⟨u, hu, VOK.frame (newG_ro ht ob) (fun id hid => hsame id ?_) hok⟩
      intro he; subst he; exact hf.slots i av hi hid
    · have hid : id ≠ base := by intro he; subst he; have := hf.objs; rw [hx] at this; simp at this
      refine ObjOK.frame (newG_ro ht ob) (newG_same ht ob hid) (fun y hy id' hid' => hsame id' ?_) (hst.heap.objs id x hx)
      intro he; subst he; subst hy
      exact hf.cells id y hx hid'
    · simp only [newG] at hb
      split at hb
      · rename_i he; subst he; simp
      · have := ht b hb; simp; omega
  have hfr : ∀ m, (m < base ∨ base + 8 ≤ m) → Fresh g σ m → Fresh (newG g w.heap.size base .ro vx) σ m := by
    intro m hm hfm
    refine ⟨hfm.objs, fun b p hb => ?_, fun b hb => ?_, hfm.slots, hfm.cells⟩
    · simp only [newG] at hb
      split at hb
      · simp at hb
      · exact hfm.row b p hb
    · simp only [newG] at hb
      split at hb
      · simp at hb
      · exact hfm.box b hb
  have hvok : VOK (w.alloc ob) (newG g w.heap.size base .ro vx) σ.objs (.data t d) v' := by
    simp only [VOK]
    exact ⟨cs, ⟨hro, hrep⟩, hv⟩
  unfold Oper.wp
  rw [hrun, Oper.upon_value]
  rcases putK_some h with ⟨hd, hk⟩ | ⟨i, hd, hi, hk⟩
  · rw [hd]
    exact hK _ _ _ _ hk hst' (newG_ext ht ob) hfr rfl (fun _ b hb => heap_alloc_old w ob hb)
  · rw [hd]
    exact hK _ _ _ _ hk (hst'.put hi hvok) (newG_ext ht ob) (fun m hm hfm => (hfr m hm hfm).set i (by simp [AVal.ids])) rfl (fun _ b hb => heap_alloc_old w ob hb)

theorem op_alloc (htt : TtOK P c.tt) {t : TypeId} (ho : o.op = .alloc t) (hst : StOK c.ntmps g w a σ) (hf : Fresh g σ base) (h : opK0 c σ base o k = some r) (hK : Post c.ntmps k r g w σ base mo K) : o.wp P a w K Q := by
  simp only [opK0, ho] at h
  split at h
  · rename_i z hz
    simp only [Option.bind_eq_some_iff] at hz
    obtain ⟨u, hu, hz⟩ := hz
    have hT := htt _ _ hu
    obtain ⟨i, zv, hi1, hi2, _, hi4, hi5, _⟩ := hT.info.info
    let g' := newG g w.heap.size base (.box base) undef
    let ob : Go.Obj := .cells zv.cells t
    have hz' := zeroA_ok (w := w.alloc ob) (g := g') (objs := (σ.setObj base (.cell z)).objs) hz
    refine wp_new (ob := ob) (obj := .cell z) (tg := .box base) (v := undef) (v' := .pointer (some ⟨w.heap.size, 0, none⟩)) hst hf (.inl rfl) ?_ rfl ?_ ?_ ?_ h hK
    · simp only [execOp, ho]
      simp [Instr.alloc, zeroValue, typeInfo, hi1, hi4, newVar, newRow]
      rfl
    · refine ⟨zv.cells, t, ?_, ?_, ?_⟩
      · have hb : (newG g w.heap.size base (.box base) undef).blk base = w.heap.size := by simp [newG]
        rw [hb]; exact heap_alloc_new w _
      · simp [newG]
      · rw [hi5]; exact hz'.2.2.1
    · intro y hy m _
      simp only [Obj.cell.injEq] at hy
      subst hy
      rw [hz'.2.1]; simp
    · simp only [VOK]
      refine ⟨_, ⟨_, rfl, rfl, fun x _ => ?_⟩, rfl⟩
      refine ⟨0, x.sk, by simp [Sk.off], ?_⟩
      simp [newG]
  · simp at h

theorem op_box {t : TypeId} {x : Operand} (ho : o.op = .box t x) (hst : StOK c.ntmps g w a σ) (hf : Fresh g σ base) (h : opK0 c σ base o k = some r) (hK : Post c.ntmps k r g w σ base mo K) : o.wp P a w K Q := by
  simp only [opK0, ho] at h
  split at h
  · rename_i av hav
    obtain ⟨ex, ef⟩ := ev_ok hst hav
    cases hb : av.val with
    | false => rw [hb] at h; simp at h
    | true =>
      rw [hb] at h
      simp only [cond_true] at h
      obtain ⟨cs, hok, hmk, hcells⟩ := VOK_valueCells hb ex
      let ob : Go.Obj := .cells (a.eval x).cells t
      refine wp_new (ob := ob) (obj := .cell av) (tg := .box base) (v := undef) (v' := .pointer (some ⟨w.heap.size, 0, none⟩)) hst hf (.inl rfl) ?_ rfl ?_ ?_ ?_ h hK
      · simp only [execOp, ho]
        simp [Instr.box, newVar, newRow]
        rfl
      · refine ⟨(a.eval x).cells, t, ?_, ?_, ?_⟩
        · have hb : (newG g w.heap.size base (.box base) undef).blk base = w.heap.size := by simp [newG]
          rw [hb]; exact heap_alloc_new w _
        · simp [newG]
        · rw [hcells]
          refine AOK.frame (newG_ro hst.heap.tags ob) (fun id hid => newG_kept hst.heap ob ?_) hok
          intro he; subst he; exact ef _ hf hid
      · intro y hy m hm
        simp only [Obj.cell.injEq] at hy
        subst hy
        exact ef m hm
      · simp only [VOK]
        refine ⟨_, ⟨_, rfl, rfl, fun y _ => ?_⟩, rfl⟩
        refine ⟨0, y.sk, by simp [Sk.off], ?_⟩
        simp [newG]
  · simp at h

end
end Go.Kz
