/-
  Results of calls carried over.
-/
import Derived.Test.YtakifbcgkbfclaaKzV
set_option linter.unusedVariables false
set_option linter.unusedSimpArgs false
namespace Go.Kz
variable {R : Type}

abbrev chain := exposeRes.chain

theorem chain_objs : (ts : List Ty) → (d : resDen ts) → (n m : Nat) → (chain ts d n).2 = (chain ts d m).2
  | [], _, _, _ => rfl
  | [t], d, n, m => (expose_objs t d n m).1
  | t :: u :: ts, (d, ds), n, m => by
    simp only [chain, exposeRes.chain]
    rw [(expose_objs t d n m).1]
    congr 1
    exact chain_objs (u :: ts) ds _ _
theorem chain_rows : (ts : List Ty) → (d : resDen ts) → (n : Nat) → ∀ o ∈ (chain ts d n).2, ∃ u l, o = Obj.row u l 0 ∧ (flats ts = true → u.noSl = true)
  | [], _, _, o, ho => by simp [chain, exposeRes.chain] at ho
  | [t], d, n, o, ho => by
    obtain ⟨u, l, h1, h2⟩ := (expose_rows t d n).1 o ho
    exact ⟨u, l, h1, fun h => h2 (by simp only [flats, Bool.and_eq_true] at h; exact h.1)⟩
  | t :: u :: ts, (d, ds), n, o, ho => by
    simp only [chain, exposeRes.chain, List.mem_append] at ho
    rcases ho with ho | ho
    · obtain ⟨u', l, h1, h2⟩ := (expose_rows t d n).1 o ho
      exact ⟨u', l, h1, fun h => h2 (by simp only [flats, Bool.and_eq_true] at h; exact h.1)⟩
    · obtain ⟨u', l, h1, h2⟩ := chain_rows (u :: ts) ds _ o ho
      exact ⟨u', l, h1, fun h => h2 (by rw [flats, Bool.and_eq_true] at h; exact h.2)⟩
theorem chain_vsok {w : World} {gc g : Ghost} {n len : Nat} {oc o : Objs} (hs : Shift gc g n len oc o) : (ts : List Ty) → (d : resDen ts) → (m : Nat) → (∀ t ∈ ts, Carry w gc g t) →
    ∀ vs, m + (chain ts d m).2.length ≤ len → VsOK w gc oc (chain ts d m).1 vs → VsOK w g o (chain ts d (n + m)).1 vs
  | [], _, _, _, vs, _, h => by simpa [chain, exposeRes.chain, VsOK] using h
  | [t], d, m, hc, vs, hl, h => by
    simp only [chain, exposeRes.chain, VsOK] at hl h ⊢
    obtain ⟨v, r, hv, h1, h2⟩ := h
    exact ⟨v, r, hv, expose_vok hs t d m (hc t (by simp)) hl h1, h2⟩
  | t :: u :: ts, (d, ds), m, hc, vs, hl, h => by
    simp only [chain, exposeRes.chain, VsOK, List.length_append] at hl h ⊢
    obtain ⟨v, r, hv, h1, h2⟩ := h
    refine ⟨v, r, hv, expose_vok hs t d m (hc t (by simp)) (by omega) h1, ?_⟩
    have e : (expose t d (n + m)).2.length = (expose t d m).2.length := by rw [(expose_objs t d (n + m) m).1]
    rw [e, Nat.add_assoc]
    exact chain_vsok hs (u :: ts) ds _ (fun t ht => hc t (by simp at ht ⊢; exact .inr ht)) r (by rw [← Nat.add_assoc] at hl; exact hl) h2
theorem chain_ids : (ts : List Ty) → (d : resDen ts) → (n : Nat) → ∀ i ∈ (chain ts d n).1.ids, n ≤ i ∧ i < n + (chain ts d n).2.length
  | [], _, _, i, hi => by simp [chain, exposeRes.chain, AVal.ids] at hi
  | [t], d, n, i, hi => by
    simp only [chain, exposeRes.chain, AVal.ids, List.append_nil] at hi ⊢
    exact (expose_ids t d n).1 i hi
  | t :: u :: ts, (d, ds), n, i, hi => by
    simp only [chain, exposeRes.chain, AVal.ids, List.mem_append, List.length_append] at hi ⊢
    rcases hi with hi | hi
    · have := (expose_ids t d n).1 i hi; omega
    · have := chain_ids (u :: ts) ds _ i hi
      simp only [chain] at this
      omega

theorem res_objs : (ts : List Ty) → (d : resDen ts) → (n m : Nat) → (exposeRes ts d n).2 = (exposeRes ts d m).2
  | [], _, _, _ => rfl
  | [t], d, n, m => (expose_objs t d n m).1
  | t :: u :: ts, (d, ds), n, m => by
    simp only [exposeRes]
    rw [(expose_objs t d n m).1]
    congr 1
    exact chain_objs (u :: ts) ds _ _
theorem res_rows : (ts : List Ty) → (d : resDen ts) → (n : Nat) → ∀ o ∈ (exposeRes ts d n).2, ∃ u l, o = Obj.row u l 0 ∧ (flats ts = true → u.noSl = true)
  | [], _, _, o, ho => by simp [exposeRes] at ho
  | [t], d, n, o, ho => chain_rows [t] d n o ho
  | t :: u :: ts, (d, ds), n, o, ho => chain_rows (t :: u :: ts) (d, ds) n o ho
theorem res_ids : (ts : List Ty) → (d : resDen ts) → (n : Nat) → ∀ i ∈ (exposeRes ts d n).1.ids, n ≤ i ∧ i < n + (exposeRes ts d n).2.length
  | [], _, _, i, hi => by simp [exposeRes, AVal.ids] at hi
  | [t], d, n, i, hi => (expose_ids t d n).1 i hi
  | t :: u :: ts, (d, ds), n, i, hi => chain_ids (t :: u :: ts) (d, ds) n i hi
theorem res_vok {w : World} {gc g : Ghost} {n len : Nat} {oc o : Objs} (hs : Shift gc g n len oc o) : (ts : List Ty) → (d : resDen ts) → (∀ t ∈ ts, Carry w gc g t) →
    ∀ v, (exposeRes ts d 0).2.length ≤ len → VOK w gc oc (exposeRes ts d 0).1 v → VOK w g o (exposeRes ts d n).1 v
  | [], _, _, v, _, h => by
    simp only [exposeRes, VOK, VsOK] at h ⊢; exact h
  | [t], d, hc, v, hl, h => expose_vok hs t d 0 (hc t (by simp)) (by simpa [exposeRes] using hl) h
  | t :: u :: ts, (d, ds), hc, v, hl, h => by
    have h' : ∃ vs, v = .tuple vs.toArray ∧ VsOK w gc oc (chain (t :: u :: ts) (d, ds) 0).1 vs := by
      simpa only [exposeRes, VOK, chain, exposeRes.chain] using h
    obtain ⟨vs, hv, h2⟩ := h'
    have := chain_vsok hs (t :: u :: ts) (d, ds) 0 hc vs (by rw [Nat.zero_add]; exact hl) h2
    show VOK w g o (.tup (chain (t :: u :: ts) (d, ds) n).1) v
    simp only [VOK]
    exact ⟨vs, hv, this⟩

theorem carry_all {w : World} {g g' : Ghost} {ts : List Ty} (h : RoKept w g w g' ∨ flats ts = true) : ∀ t ∈ ts, Carry w g g' t := by
  rcases h with h | h
  · exact fun _ _ => .inl h
  · induction ts with
    | nil => simp
    | cons t ts ih =>
      simp only [flats, Bool.and_eq_true] at h
      intro u hu
      rcases List.mem_cons.1 hu with rfl | hu
      · exact .inr h.1
      · exact ih h.2 u hu

theorem nthL_mem {α : Type} : {l : List α} → {i : Nat} → {x : α} → nthL l i = some x → x ∈ l
  | [], i, x, h => by cases i <;> simp [nthL] at h
  | y :: l, 0, x, h => by simp only [nthL, Option.some.injEq] at h; simp [h]
  | y :: l, i + 1, x, h => by simp only [nthL] at h; exact List.mem_cons_of_mem _ (nthL_mem h)
theorem nthL_lt {α : Type} : {l : List α} → {i : Nat} → {x : α} → nthL l i = some x → i < l.length
  | [], i, x, h => by cases i <;> simp [nthL] at h
  | y :: l, 0, x, h => by simp
  | y :: l, i + 1, x, h => by simp only [nthL] at h; have := nthL_lt h; simp; omega

/-- What a call needs of the callee's ghost: all that is there is another's or read-only, as the caller sees it. -/
structure Lent (w : World) (g gl : Ghost) : Prop where
  tags : ∀ b, gl.tag b ≠ .alien → gl.tag b = .ro ∧ b < w.heap.size

section
variable {w w' : World} {g gl gc : Ghost} {n len : Nat}

theorem merge_heap (hl : Lent w g gl) (he : Ext w gl w' gc) {b : Nat} (hb : b < w.heap.size) : w'.heap[b]? = w.heap[b]? ∧ gc.tag b = gl.tag b := by
  refine he.keep b hb ?_
  by_cases h : gl.tag b = .alien
  · exact .inl h
  · exact .inr (hl.tags b h).1
theorem merge_ro (hl : Lent w g gl) (he : Ext w gl w' gc) (ht : ∀ b, g.tag b ≠ .alien → b < w.heap.size) : RoKept w g w' (mergeG g gc n len w.heap.size) :=
  ⟨fun b hb => by
    have hlt := ht b (by rw [hb]; simp)
    exact ⟨by simp only [mergeG, if_pos hlt]; exact hb, (merge_heap hl he hlt).1⟩⟩
theorem merge_same (hl : Lent w g gl) (he : Ext w gl w' gc) (ht : ∀ b, g.tag b ≠ .alien → b < w.heap.size) {id : Nat} (hid : id < n ∨ n + len ≤ id) : Same w g w' (mergeG g gc n len w.heap.size) id := by
  refine ⟨⟨fun q => by simp only [mergeG]; rw [if_neg (by omega)], fun q b hb => ?_⟩, by simp only [mergeG]; rw [if_neg (by omega)], fun hb => ?_⟩
  · have hlt := ht b (by rw [hb]; simp)
    exact ⟨by simp only [mergeG, if_pos hlt]; exact hb, (merge_heap hl he hlt).1⟩
  · have hlt := ht (g.blk id) (by rw [hb]; simp)
    exact ⟨by simp only [mergeG, if_pos hlt]; exact hb, (merge_heap hl he hlt).1⟩
theorem merge_ext (hl : Lent w g gl) (he : Ext w gl w' gc) : Ext w g w' (mergeG g gc n len w.heap.size) :=
  ⟨he.os, he.tape, he.output, he.size, fun b hb _ => ⟨(merge_heap hl he hb).1, by simp only [mergeG, if_pos hb]⟩⟩
theorem merge_moved (hl : Lent w g gl) (he : Ext w gl w' gc) {i : Nat} (hi : i < len) : Moved w' gc w' (mergeG g gc n len w.heap.size) i [] (n + i) [] := by
  refine ⟨fun q => ?_, fun q b hb => ⟨?_, rfl⟩⟩
  · simp only [mergeG]; rw [if_pos (by omega)]; congr 1; omega
  · have hge : ¬ b < w.heap.size := by
      intro hlt
      have := (merge_heap hl he hlt).2
      rw [hb] at this
      by_cases h : gl.tag b = .alien
      · rw [h] at this; simp at this
      · rw [(hl.tags b h).1] at this; simp at this
    simp only [mergeG, if_neg hge, hb, if_pos hi]

/-- The state behind a call. -/
theorem merge_st {N : Nat} {a : Act} {σ : St} {ts : List Ty} {d : resDen ts} {v : Value} (hst : StOK N g w a σ) (hl : Lent w g gl) (he : Ext w gl w' gc)
    (hfr : ∀ m, n ≤ m → m < n + 8 → Fresh g σ m) (hlen : (exposeRes ts d 0).2.length ≤ 8) (hc : RoKept w' gc w' (mergeG g gc n (exposeRes ts d 0).2.length w.heap.size) ∨ flats ts = true)
    (hres : ResOK w' gc (exposeRes ts d 0) v) :
    let g' := mergeG g gc n (exposeRes ts d 0).2.length w.heap.size
    let σ' := σ.addObjs n (exposeRes ts d n).2
    StOK N g' w' a σ' ∧ VOK w' g' σ'.objs (exposeRes ts d n).1 v ∧ (∀ m, (m < n ∨ n + 8 ≤ m) → Fresh g σ m → Fresh g' σ' m ∧ m ∉ (exposeRes ts d n).1.ids) := by
  intro g' σ'
  have ht := hst.heap.tags
  let os := (exposeRes ts d 0).2
  have hosl : os.length = (exposeRes ts d 0).2.length := rfl
  have hos : (exposeRes ts d n).2 = os := res_objs ts d n 0
  have hobjs : ∀ id, σ'.objs id = if n ≤ id ∧ id < n + os.length then nthL os (id - n) else σ.objs id := by
    intro id; show (σ.addObjs n (exposeRes ts d n).2).objs id = _; rw [addObjs_objs, hos]
  have hslots : σ'.slots = σ.slots := addObjs_slots _ _ _
  have hro : RoKept w g w' g' := merge_ro hl he ht
  have hkept : ∀ id, ¬ Fresh g σ id → IdKept g g' id (σ.objs id) (σ'.objs id) := by
    intro id hid
    have hout : id < n ∨ n + os.length ≤ id := by
      by_cases h : n ≤ id ∧ id < n + os.length
      · exact absurd (hfr id h.1 (by omega)) hid
      · omega
    rw [hobjs, if_neg (by omega)]
    exact IdKept.same (merge_same hl he ht hout)
  have hshift : Shift gc g' n os.length (nthL os) σ'.objs := by
    refine ⟨fun i hi => ?_, fun i p hi => ?_⟩
    · rw [hobjs, if_pos (by omega)]; congr 1; omega
    · show (mergeG g gc n os.length w.heap.size).sv (n + i) p = _
      simp only [mergeG]; rw [if_pos (by omega)]; congr 1; omega
  have hcarry := carry_all hc
  refine ⟨⟨fun i av hi => ?_, ⟨fun id x hx => ?_, fun b hb => ?_⟩, hst.size, hst.defers⟩, ?_, fun m hm hf => ⟨⟨?_, fun b p hb => ?_, fun b hb => ?_, fun i av hi => ?_, fun id av hi => ?_⟩, ?_⟩⟩
  · rw [hslots] at hi
    obtain ⟨u, hu, hok⟩ := hst.slots i av hi
    exact ⟨u, hu, VOK.frame hro (fun id hid => hkept id (fun hf => hf.slots i av hi hid)) hok⟩
  · rw [hobjs] at hx
    by_cases hin : n ≤ id ∧ id < n + os.length
    · rw [if_pos hin] at hx
      obtain ⟨i, rfl⟩ : ∃ i, id = n + i := ⟨id - n, by omega⟩
      have hi : i < os.length := by omega
      rw [Nat.add_sub_cancel_left] at hx
      obtain ⟨u, l, hxe, hflat⟩ := res_rows ts d 0 x (nthL_mem hx)
      have hobj := hres.1.objs i x hx
      subst hxe
      refine ⟨hobj.1, ?_⟩
      have hsv := hshift.sv i [] hi
      rw [hsv]
      have hcr : Carry w' gc g' (.sl true u) := by
        rcases hc with h | h
        · exact .inl h
        · exact .inr (by simpa [Ty.flat] using hflat h)
      exact Carry.row hcr (merge_moved hl he hi) hobj.2
    · rw [if_neg hin] at hx
      refine ObjOK.frame hro (merge_same hl he ht (by omega)) (fun y hy id' hid' => hkept id' (fun hf => ?_)) (hst.heap.objs id x hx)
      subst hy; exact hf.cells id y hx hid'
  · have hb' : (mergeG g gc n os.length w.heap.size).tag b ≠ .alien := hb
    simp only [mergeG] at hb'
    by_cases hlt : b < w.heap.size
    · have := he.size; omega
    · rw [if_neg hlt] at hb'
      refine hres.1.tags b ?_
      intro hal; rw [hal] at hb'; simp at hb'
  · refine res_vok hshift ts d hcarry v (Nat.le_refl _) hres.2
  · rw [hobjs, if_neg (by omega)]; exact hf.objs
  · have hb' : (mergeG g gc n os.length w.heap.size).tag b = .row m p := hb
    simp only [mergeG] at hb'
    split at hb'
    · exact hf.row b p hb'
    · split at hb'
      · split at hb'
        · simp only [Tag.row.injEq] at hb'; omega
        · simp at hb'
      · split at hb' <;> simp at hb'
      · rename_i h1 _; exact h1 _ _ hb'
  · have hb' : (mergeG g gc n os.length w.heap.size).tag b = .box m := hb
    simp only [mergeG] at hb'
    split at hb'
    · exact hf.box b hb'
    · split at hb'
      · split at hb' <;> simp at hb'
      · split at hb'
        · simp only [Tag.box.injEq] at hb'; omega
        · simp at hb'
      · rename_i _ h1; exact h1 _ hb'
  · rw [hslots] at hi; exact hf.slots i av hi
  · rw [hobjs] at hi
    split at hi
    · obtain ⟨u, l, hxe, _⟩ := res_rows ts d 0 _ (nthL_mem hi)
      simp at hxe
    · exact hf.cells id av hi
  · intro hm'
    have := res_ids ts d n m hm'
    rw [hos] at this
    omega
end

end Go.Kz
