/-
  Regions in the text's order.
-/
import Derived.Test.YtcnmiohlpaommaaKzAA
import Derived.OrdersHeld
set_option linter.unusedVariables false
set_option linter.unusedSimpArgs false
namespace Go.Kz
variable {R : Type}

theorem numbered_fst {α : Type} : (l : List α) → (i : Nat) → (numbered i l).map Prod.fst = List.range' i l.length
  | [], _ => rfl
  | x :: l, i => by simp only [numbered, List.map_cons, numbered_fst l, List.length_cons, List.range'_succ]
theorem numbered_mem {α : Type} : {l : List α} → {i : Nat} → {x : Nat × α} → x ∈ numbered i l → i ≤ x.1 ∧ l[x.1 - i]? = some x.2
  | [], _, _, h => by simp [numbered] at h
  | y :: l, i, x, h => by
    simp only [numbered, List.mem_cons] at h
    rcases h with rfl | h
    · simp
    · obtain ⟨h1, h2⟩ := numbered_mem h
      refine ⟨by omega, ?_⟩
      have e : x.1 - i = (x.1 - (i + 1)) + 1 := by omega
      rw [e]; simpa using h2
theorem numbered_nodup {α : Type} (l : List α) (i : Nat) : ((numbered i l).map Prod.fst).Nodup := by
  rw [numbered_fst]; exact List.nodup_range'
theorem nthL_get {α : Type} : (l : List α) → (i : Nat) → nthL l i = l[i]?
  | [], i => by cases i <;> rfl
  | x :: l, 0 => rfl
  | x :: l, i + 1 => by simp only [nthL, nthL_get l i]; simp

section
variable {P : Program} {ops : Array Oper} {Q : Exit → Act → World → Prop}

theorem dstOf_eq (j : Nat) : dstOf ops.toList j = (ops[j]?).bind (·.dst) := by
  simp only [dstOf, nthL_get, Array.getElem?_toList]

theorem Yield_wp {o : Oper} {a : Act} {w : World} {v : Value} {K : Act → World → Prop} (h : (execOp a.eval o).run P w = .ok (.value v) w) (hk : K (a.put o.dst v) w) : o.wp P a w K Q := by
  unfold Oper.wp; rw [h, Oper.upon_value]; exact hk

theorem wpL_ops : (L : List (Nat × Oper)) → (∀ x ∈ L, ops[x.1]? = some x.2) → (a : Act) → (w : World) → wpL P ops Q (Q .normal) L a w → wpOps P ops Q (L.map Prod.fst) a w
  | [], _, a, w, h => h
  | (i, o) :: L, hL, a, w, h => by
    have ih := wpL_ops L (fun x hx => hL x (by simp [hx]))
    have ho : ops[i]? = some o := hL (i, o) (by simp)
    simp only [List.map_cons, wpOps, ho]
    have h' : LStep P ops Q o (wpL P ops Q (Q .normal) L) a w := h
    unfold LStep at h'
    split
    · rename_i hw
      rw [if_pos hw] at h'
      left
      rcases h' with ⟨_, v, h1, h2⟩ | ⟨_, h1⟩
      · exact Yield_wp (h1 w (Agree.refl w)) (ih _ _ h2)
      · exact Oper.wp_mono (fun a' w' hh => ih _ _ hh.2) h1
    · rename_i hw
      rw [if_neg hw] at h'
      exact ih _ _ h'

theorem numbered_get (x : Nat × Oper) (h : x ∈ numbered 0 ops.toList) : ops[x.1]? = some x.2 := by
  have := (numbered_mem h).2
  rw [← Array.getElem?_toList]; simpa using this
theorem numbered_lt {x : Nat × Oper} (h : x ∈ numbered 0 ops.toList) : x.1 < ops.toList.length := by
  have := (numbered_mem h).2
  rw [Nat.sub_zero] at this
  exact (List.getElem?_eq_some_iff.1 this).1

theorem wp_text {id : Nat} {a : Act} {w : World} (h : wpL P ops Q (Q .normal) (numbered 0 ops.toList) a w) : (Code.region id ops false).wp P Q a w := by
  refine wp_region ?_
  have := wpL_ops _ numbered_get a w h
  rw [numbered_fst, ← List.range_eq_range'] at this
  simpa using this
end

/-- All numbers from the next one on are free. -/
def FreshUp (g : Ghost) (σ : St) : Prop := ∀ m, σ.next ≤ m → Fresh g σ m

section
variable {P : Program} {ops : Array Oper} {c : Ctx}

theorem list_ok {fuel : Nat} {L : List (Nat × Oper)} (hc : CtxOK P c) {Q : Exit → Act → World → Prop} {σ : St} {g : Ghost} {a : Act} {w : World} {k : St → Option R} {r : R} {K : Act → World → Prop}
    (hL : ∀ x ∈ L, x.1 < ops.toList.length) (hnd : (L.map Prod.fst).Nodup)
    (h : opsK c σ.next (dstOf ops.toList) fuel R [] [] L σ (fun σ' => k { σ' with next := σ.next + 8 * ops.toList.length }) = some r) (hst : StOK c.ntmps g w a σ) (hf : FreshUp g σ)
    (hK : ∀ σ' g' a' w', k σ' = some r → StOK c.ntmps g' w' a' σ' → Ext w g w' g' → FreshUp g' σ' → K a' w') : wpL P ops Q K L a w := by
  refine opsK_ok hc dstOf_eq fuel h hst (by intro s hs; simp at hs) hnd (fun x _ m h1 _ => hf m (by omega)) (fun σ' g' a' w' hk hst' hext hf' hn => ?_)
  refine hK _ g' a' w' hk ⟨hst'.slots, hst'.heap, hst'.size, hst'.defers⟩ hext (fun m hm => ?_)
  have hm' : σ.next + 8 * ops.toList.length ≤ m := hm
  have := hf' m (fun x hx => .inr (by have := hL x hx; omega)) (hf m (by omega))
  exact ⟨this.objs, this.row, this.box, this.slots, this.cells⟩
end

end Go.Kz

/-
  Regions whose order is drawn: an operation that yields its value may be taken first.
-/
namespace Go.Kz

section
variable {P : Program} {ops : Array Oper} {Q : Exit → Act → World → Prop} {md : Region.Mode} {w0 : World}

/-- Whatever order is picked; an operation that does not write lets the old blocks stand. -/
def anyG (P : Program) (md : Region.Mode) (ops : Array Oper) (Q : Exit → Act → World → Prop) : Nat → Array Bool → Act → World → Prop
  | 0, listed, a, w => Region.ready md ops listed = [] ∧ Q .normal a w
  | fuel + 1, listed, a, w =>
    (Region.ready md ops listed = [] → Q .normal a w) ∧
    ∀ i ∈ Region.ready md ops listed, wpOp P ops Q i (fun a' w' => ((∀ o, ops[i]? = some o → isM o = false → Agree w w')) ∧ anyG P md ops Q fuel (listed.setIfInBounds i true) a' w') a w

theorem wpAny_of_G : ∀ (fuel : Nat) (listed : Array Bool) (a : Act) (w : World), anyG P md ops Q fuel listed a w → wpAny P md ops Q fuel listed a w
  | 0, _, _, _, h => h
  | fuel + 1, _, _, _, h => ⟨h.1, fun i hi => wpOp_mono (fun a' w' h' => wpAny_of_G fuel _ a' w' h'.2) (h.2 i hi)⟩

/-- The operations in Lt wait, one by way of another, for i. -/
def Waits (md : Region.Mode) (ops : Array Oper) (i : Nat) (Lt : List Nat) : Prop :=
  ∀ x ∈ Lt, ∀ ox, ops[x]? = some ox → ∃ e ∈ ox.after, Region.binds md e = true ∧ (e.on = i ∨ e.on ∈ Lt)

theorem waits_not {i : Nat} {Lt : List Nat} {listed : Array Bool} (hw : Waits md ops i Lt) (hl : ∀ x ∈ Lt, listed.getD x true = false) (hi : listed.getD i true = false) {j : Nat} (hj : j ∈ Region.ready md ops listed) : j ∉ Lt := by
  intro hjl
  obtain ⟨_, oj, hoj, hall⟩ := mem_ready.1 hj
  obtain ⟨e, he, hb, hon⟩ := hw j hjl oj hoj
  have h1 := hall e he hb
  have h0 : listed.getD e.on true = false := by
    rcases hon with h | h
    · rw [h]; exact hi
    · exact hl _ h
  rcases Nat.lt_or_ge e.on listed.size with h' | h'
  · simp [h'] at h0 h1; rw [h0] at h1; cases h1
  · simp [Array.getElem?_eq_none h'] at h1

theorem anyG_first {i : Nat} {oi : Oper} {v : Value} {Lt : List Nat} (hi : ops[i]? = some oi) (hsel : ∀ (j : Nat) (o : Oper) cs b, ops[j]? = some o → o.op ≠ .select cs b)
    (hQ : ∀ c a w, ¬ Q (.panic c) a w) (hwt : Waits md ops i Lt) :
    ∀ (fuel : Nat) (listed : Array Bool) (a : Act) (w : World),
      (∀ j oj, ops[j]? = some oj → j ≠ i → listed.getD j true = false → (∀ e ∈ oj.after, Region.binds md e = true → e.on ≠ i) → oi.apart ops oj = true) →
      (∀ x ∈ Lt, listed.getD x true = false) → (∀ j oj, ops[j]? = some oj → j ≠ i → listed.getD j true = false → isM oj = true → j ∈ Lt) →
      i ∈ Region.ready md ops listed → YieldsIf P ops (Agree w0) oi v a → Agree w0 w →
      anyG P md ops Q fuel (listed.setIfInBounds i true) (a.put oi.dst v) w → anyG P md ops Q (fuel + 1) listed a w := by
  intro fuel
  induction fuel with
  | zero =>
    intro listed a w _ _ _ hr hy hS H
    refine ⟨fun h => (by rw [h] at hr; cases hr), fun j hj => ?_⟩
    by_cases hji : j = i
    · subst hji; exact hy.wpOp hi hS ⟨fun _ _ _ => Agree.refl w, H⟩
    · have := ready_mono hj hji
      rw [H.1] at this
      cases this
  | succ fuel ih =>
    intro listed a w hfree hlt hM hr hy hS H
    refine ⟨fun h => (by rw [h] at hr; cases hr), fun j hj => ?_⟩
    by_cases hji : j = i
    · subst hji; exact hy.wpOp hi hS ⟨fun _ _ _ => Agree.refl w, H⟩
    · have h1 := H.2 j (ready_mono hj hji)
      have hi0 := (mem_ready.1 hr).1
      have hjl := waits_not hwt hlt hi0 hj
      obtain ⟨hjun, oj, hoj, hall⟩ := mem_ready.1 hj
      have hnM : isM oj = false := by
        cases hm : isM oj with
        | false => rfl
        | true => exact absurd (hM j oj hoj hji hjun hm) hjl
      have hnot : ∀ e ∈ oj.after, Region.binds md e = true → e.on ≠ i := fun e he hb heq => by
        have h1 := hall e he hb
        have h0 := hi0
        rw [heq] at h1
        rcases Nat.lt_or_ge i listed.size with h' | h'
        · simp [h'] at h0 h1; rw [h0] at h1; cases h1
        · simp [Array.getElem?_eq_none h'] at h1
      have h2 := wpOp_putIf hoj (hfree j oj hoj hji hjun hnot) (fun cs b => hsel i oi cs b hi) (fun cs b => hsel j oj cs b hoj) (fun c a w h => absurd h (hQ _ _ _)) hy h1
      have hsub : ∀ k, (listed.setIfInBounds j true).getD k true = false → listed.getD k true = false := fun k hun => by
        by_cases hjk : j = k
        · subst hjk; exact hjun
        · rw [getD_set_ne true hjk] at hun; exact hun
      refine wpOp_mono (fun a' w' h3 => ⟨h3.2.1, ih (listed.setIfInBounds j true) a' w' (fun k ok hk hki hun hno => hfree k ok hk hki (hsub k hun) hno) (fun x hx => ?_) (fun k ok hk hki hun hm => hM k ok hk hki (hsub k hun) hm)
        (ready_mono hr (Ne.symm hji)) h3.1 (hS.trans (h3.2.1 oj hoj hnM)) ?_⟩) h2
      · have hne : j ≠ x := fun he => hjl (he ▸ hx)
        rw [getD_set_ne true hne]; exact hlt x hx
      · rw [Array.setIfInBounds_comm _ _ hji]
        exact h3.2.2
end

end Go.Kz

/-
  Regions whose order is drawn.
-/
namespace Go.Kz
variable {R : Type}

theorem memN_iff {x : Nat} : {l : List Nat} → (memN x l = true ↔ x ∈ l)
  | [] => by simp [memN]
  | y :: l => by
    simp only [memN, List.mem_cons]
    cases h : Nat.beq y x with
    | true => simp [Nat.eq_of_beq_eq_true h]
    | false =>
      have hne : x ≠ y := by intro he; subst he; rw [Nat.beq_refl] at h; simp at h
      simp [hne, memN_iff (l := l)]
theorem allIn_iff {d : List Nat} : {l : List Nat} → (allIn l d = true ↔ ∀ x ∈ l, x ∈ d)
  | [] => by simp [allIn]
  | y :: l => by simp [allIn, memN_iff, allIn_iff (l := l)]
theorem anyIn_iff {d : List Nat} : {l : List Nat} → (anyIn l d = true ↔ ∃ x ∈ l, x ∈ d)
  | [] => by simp [anyIn]
  | y :: l => by simp [anyIn, memN_iff, anyIn_iff (l := l)]
theorem noneIn_iff {d : List Nat} : {l : List Nat} → (noneIn l d = true ↔ ∀ x ∈ l, x ∉ d)
  | [] => by simp [noneIn]
  | y :: l => by
    have := memN_iff (x := y) (l := d)
    simp only [noneIn, Bool.and_eq_true, noneIn_iff (l := l), List.mem_cons, forall_eq_or_imp]
    constructor
    · rintro ⟨h1, h2⟩
      refine ⟨fun h => ?_, h2⟩
      rw [this.2 h] at h1; simp at h1
    · rintro ⟨h1, h2⟩
      refine ⟨?_, h2⟩
      cases hm : memN y d with
      | true => exact absurd (this.1 hm) h1
      | false => rfl
theorem edgeOns_mem {x : Nat} : {l : List Edge} → (x ∈ edgeOns l ↔ ∃ e ∈ l, Region.binds .any e = true ∧ e.on = x)
  | [] => by simp [edgeOns]
  | e :: l => by
    simp only [edgeOns]
    cases hb : Region.binds .any e with
    | true =>
      simp only [cond_true, List.mem_cons, edgeOns_mem (l := l), exists_eq_or_imp, hb, true_and]
      exact or_congr ⟨Eq.symm, Eq.symm⟩ Iff.rfl
    | false =>
      simp only [cond_false, List.mem_cons, edgeOns_mem (l := l), exists_eq_or_imp, hb]
      simp
theorem tmpsL_mem {t : Nat} : {l : List Operand} → (t ∈ tmpsL l ↔ .tmp t ∈ l)
  | [] => by simp [tmpsL]
  | x :: l => by cases x <;> simp [tmpsL, tmpsL_mem (l := l)]

section
variable {P : Program} {ops : Array Oper} {Q : Exit → Act → World → Prop}

theorem looksL_of {o : Oper} {t : Nat} (h : t ∈ o.looksAt ops) : looksL (dstOf ops.toList) o t = true := by
  simp only [Oper.looksAt, List.mem_append, List.mem_filterMap] at h
  simp only [looksL, Bool.or_eq_true, memN_iff, tmpsL_mem]
  rcases h with ⟨x, hx, h⟩ | h
  · left
    cases x <;> simp at h
    subst h; exact hx
  · right
    unfold guardL
    cases hg : o.guard with
    | none => rw [hg] at h; simp at h
    | some gw =>
      obtain ⟨j, want⟩ := gw
      rw [hg] at h
      simp only at h
      have e := dstOf_eq (ops := ops) j
      cases hd : (ops[j]?).bind (·.dst) with
      | none => rw [hd] at h; simp at h
      | some d =>
        rw [hd] at h e
        simp only [e]
        simpa using h

theorem apartL_ok {x y : Oper} (h : apartL (dstOf ops.toList) x y = true) : x.apart ops y = true := by
  unfold apartL at h
  simp only [Bool.and_eq_true] at h
  unfold Oper.apart
  simp only [Bool.and_eq_true]
  have hno : ∀ (o : Oper) (d : Nat), (!looksL (dstOf ops.toList) o d) = true → (!(o.looksAt ops).contains d) = true := by
    intro o d hd
    cases hc : (o.looksAt ops).contains d with
    | false => rfl
    | true =>
      have := looksL_of (ops := ops) (List.contains_iff_mem.1 hc)
      rw [this] at hd; simp at hd
  constructor
  · have h1 := h.1
    cases hx : x.dst with
    | none => rfl
    | some d =>
      rw [hx] at h1
      simp only [Bool.and_eq_true] at h1 ⊢
      refine ⟨hno y d h1.1, ?_⟩
      have h2 := h1.2
      cases hy : y.dst with
      | none => simp
      | some e =>
        rw [hy] at h2
        simp only [bne_iff_ne, ne_eq, Option.some.injEq]
        intro he
        subst he
        simp [Nat.beq_refl] at h2
  · have h2 := h.2
    cases hy : y.dst with
    | none => rfl
    | some d => rw [hy] at h2; exact hno x d h2

structure Rel (ops : Array Oper) (listed : Array Bool) (done : List Nat) : Prop where
  size : listed.size = ops.size
  get : ∀ j, j < ops.size → listed[j]? = some (memN j done)

theorem Rel.getD {listed : Array Bool} {done : List Nat} (h : Rel ops listed done) {j : Nat} (hj : j < ops.size) (d : Bool) : listed.getD j d = memN j done := by
  simp [Array.getD_eq_getD_getElem?, h.get j hj]
theorem Rel.start : Rel ops (Array.replicate ops.size false) [] := ⟨by simp, fun j hj => by simp [hj, memN]⟩
theorem Rel.add {listed : Array Bool} {done : List Nat} (h : Rel ops listed done) {i : Nat} : Rel ops (listed.setIfInBounds i true) (i :: done) := by
  refine ⟨by simp [h.size], fun j hj => ?_⟩
  rw [Array.getElem?_setIfInBounds]
  have hlt : j < listed.size := by rw [h.size]; exact hj
  by_cases hij : i = j
  · subst hij
    simp [hlt, memN, Nat.beq_refl]
  · rw [if_neg hij, h.get j hj]
    have : Nat.beq i j = false := by
      cases hb : Nat.beq i j with
      | true => exact absurd (Nat.eq_of_beq_eq_true hb) hij
      | false => rfl
    simp [memN, this]

/-- The list check's words in the kit's. -/
structure Plain' (ops : Array Oper) : Prop where
  sel : ∀ (j : Nat) (o : Oper) cs b, ops[j]? = some o → o.op ≠ .select cs b

theorem numbered_of {j : Nat} {o : Oper} (h : ops[j]? = some o) : (j, o) ∈ numbered 0 ops.toList := by
  have key : ∀ (l : List Oper) (i j : Nat), l[j]? = some o → (i + j, o) ∈ numbered i l := by
    intro l
    induction l with
    | nil => intro i j h; simp at h
    | cons x l ih =>
      intro i j h
      cases j with
      | zero => simp only [List.getElem?_cons_zero, Option.some.injEq] at h; subst h; simp [numbered]
      | succ j =>
        have := ih (i + 1) j (by simpa using h)
        simp only [numbered, List.mem_cons]
        right
        have e : i + (j + 1) = i + 1 + j := by omega
        rw [e]; exact this
  have := key ops.toList 0 j (by rw [Array.getElem?_toList]; exact h)
  simpa using this
theorem size_of {j : Nat} {o : Oper} (h : ops[j]? = some o) : j < ops.size := (Array.getElem?_eq_some_iff.1 h).1

theorem plainL_ok : (l : List (Nat × Oper)) → plainL l = true → ∀ x ∈ l, ∀ cs b, x.2.op ≠ .select cs b
  | [], _, _, hx => by simp at hx
  | (i, o) :: l, h, x, hx => by
    simp only [plainL, Bool.and_eq_true] at h
    rcases List.mem_cons.1 hx with rfl | hx
    · intro cs b hs
      have := h.1
      rw [hs] at this; simp at this
    · exact plainL_ok l h.2 x hx
theorem plain_of (h : plainL (numbered 0 ops.toList) = true) : Plain' ops :=
  ⟨fun j o cs b ho => plainL_ok _ h _ (numbered_of ho) cs b⟩

theorem ready_iff {listed : Array Bool} {done : List Nat} (hr : Rel ops listed done) {j : Nat} {o : Oper} (ho : ops[j]? = some o) :
    j ∈ Region.ready .any ops listed ↔ j ∉ done ∧ ∀ e ∈ o.after, Region.binds .any e = true → e.on ∈ done ∧ e.on < ops.size := by
  rw [mem_ready]
  have hj := size_of ho
  rw [hr.getD hj]
  have hb : ∀ x, memN x done = false ↔ x ∉ done := fun x => by
    rw [← memN_iff]; simp
  rw [hb]
  refine and_congr Iff.rfl ⟨?_, ?_⟩
  · rintro ⟨o', ho', hall⟩ e he hbe
    rw [ho] at ho'
    simp only [Option.some.injEq] at ho'
    subst ho'
    have := hall e he hbe
    by_cases hlt : e.on < ops.size
    · rw [hr.getD hlt, memN_iff] at this
      exact ⟨this, hlt⟩
    · have hn : listed[e.on]? = none := by rw [Array.getElem?_eq_none_iff, hr.size]; omega
      simp [Array.getD_eq_getD_getElem?, hn] at this
  · intro hall
    refine ⟨o, ho, fun e he hbe => ?_⟩
    obtain ⟨h1, h2⟩ := hall e he hbe
    rw [hr.getD h2, memN_iff]; exact h1

theorem memN_false {x : Nat} {l : List Nat} : memN x l = false ↔ x ∉ l := by
  rw [← memN_iff]; simp

theorem laterL_sub {i x : Nat} : {l : List (Nat × Oper)} → {acc : List Nat} → x ∈ acc → x ∈ laterL i l acc
  | [], _, h => h
  | (j, o) :: l, acc, h => by
    simp only [laterL]
    refine laterL_sub (l := l) ?_
    cases (memN i (edgeOns o.after.toList) || anyIn (edgeOns o.after.toList) acc) with
    | true => simp [h]
    | false => exact h
theorem laterL_mem {i : Nat} : {l : List (Nat × Oper)} → {acc : List Nat} → {G : Nat → Prop} →
    (∀ x ∈ acc, G x) → (∀ j o, (j, o) ∈ l → (∃ y ∈ edgeOns o.after.toList, y = i ∨ y ∈ laterL i l acc) → G j) → ∀ x ∈ laterL i l acc, G x
  | [], _, _, h, _, x, hx => h x hx
  | (j, o) :: l, acc, G, h, hG, x, hx => by
    simp only [laterL] at hx hG
    refine laterL_mem (l := l) ?_ (fun j' o' hm hy => hG j' o' (by simp [hm]) hy) x hx
    intro y hy
    cases hc : (memN i (edgeOns o.after.toList) || anyIn (edgeOns o.after.toList) acc) with
    | false => rw [hc] at hy; exact h y hy
    | true =>
      rw [hc] at hy hG
      simp only [cond_true, List.mem_cons] at hy hG
      rcases hy with rfl | hy
      · refine hG y o (by simp) ?_
        simp only [Bool.or_eq_true, memN_iff, anyIn_iff] at hc
        rcases hc with hc | ⟨z, hz, hza⟩
        · exact ⟨i, hc, .inl rfl⟩
        · exact ⟨z, hz, .inr (laterL_sub (by simp [hza]))⟩
      · exact h y hy

theorem freeL_ok {dst : Nat → Option Nat} {done later : List Nat} {i : Nat} {o : Oper} : {l : List (Nat × Oper)} → freeL dst done later i o l = true → ∀ x ∈ l,
    x.1 = i ∨ x.1 ∈ done ∨ ((i ∈ edgeOns x.2.after.toList ∨ apartL dst o x.2 = true) ∧ (isM x.2 = false ∨ x.1 ∈ later))
  | [], _, x, hx => by simp at hx
  | (j, oj) :: l, h, x, hx => by
    simp only [freeL, Bool.and_eq_true] at h
    rcases List.mem_cons.1 hx with rfl | hx
    · have h1 := h.1
      simp only [Bool.or_eq_true, Bool.and_eq_true, memN_iff, Bool.not_eq_true'] at h1
      rcases h1 with (h1 | h1) | h1
      · exact .inl (Nat.eq_of_beq_eq_true h1)
      · exact .inr (.inl h1)
      · exact .inr (.inr h1)
    · exact freeL_ok h.2 x hx
theorem aloneL_ok {done : List Nat} {i : Nat} : {l : List (Nat × Oper)} → aloneL done i l = true → ∀ x ∈ l, x.1 = i ∨ x.1 ∈ done ∨ readyL done x.2 = false
  | [], _, x, hx => by simp at hx
  | (j, oj) :: l, h, x, hx => by
    simp only [aloneL, Bool.and_eq_true] at h
    rcases List.mem_cons.1 hx with rfl | hx
    · have h1 := h.1
      simp only [Bool.or_eq_true, memN_iff, Bool.not_eq_true'] at h1
      rcases h1 with (h1 | h1) | h1
      · exact .inl (Nat.eq_of_beq_eq_true h1)
      · exact .inr (.inl h1)
      · exact .inr (.inr h1)
    · exact aloneL_ok h.2 x hx

theorem readyL_iff {listed : Array Bool} {done : List Nat} (hr : Rel ops listed done) (hd : ∀ x ∈ done, x < ops.size) {j : Nat} {o : Oper} (ho : ops[j]? = some o) :
    j ∈ Region.ready .any ops listed ↔ j ∉ done ∧ readyL done o = true := by
  rw [ready_iff hr ho]
  refine and_congr Iff.rfl ?_
  unfold readyL
  rw [allIn_iff]
  constructor
  · intro h x hx
    obtain ⟨e, he, hbe, rfl⟩ := edgeOns_mem.1 hx
    exact (h e (by simpa using he) hbe).1
  · intro h e he hbe
    have := h e.on (edgeOns_mem.2 ⟨e, by simpa using he, hbe, rfl⟩)
    exact ⟨this, hd _ this⟩

theorem LStep.wpOp {i : Nat} {o : Oper} {K : Act → World → Prop} {a : Act} {w : World} (hi : ops[i]? = some o) (h : LStep P ops Q o K a w) :
    wpOp P ops Q i (fun a' w' => (∀ o, ops[i]? = some o → isM o = false → Agree w w') ∧ K a' w') a w := by
  unfold LStep at h
  unfold Go.wpOp
  simp only [hi, Option.some.injEq]
  split
  · rename_i hw
    rw [if_pos hw] at h
    left
    rcases h with ⟨_, v, h1, h2⟩ | ⟨_, h1⟩
    · exact Yield_wp (h1 w (Agree.refl w)) ⟨fun _ _ _ => Agree.refl w, h2⟩
    · exact Oper.wp_mono (fun a' w' hh => ⟨fun o' ho' hm => hh.1 (by rw [ho']; exact hm), hh.2⟩) h1
  · rename_i hw
    rw [if_neg hw] at h
    exact ⟨fun _ _ _ => Agree.refl w, h⟩

theorem order_ok (hp : Plain' ops) (hQ : ∀ c a w, ¬ Q (.panic c) a w) : (L : List (Nat × Oper)) → (∀ x ∈ L, ops[x.1]? = some x.2) → {listed : Array Bool} → {done : List Nat} → {a : Act} → {w : World} → {fuel : Nat} →
    L.length ≤ fuel → Rel ops listed done → (∀ x ∈ done, x < ops.size) → okOrder (dstOf ops.toList) (numbered 0 ops.toList) L done = true → wpL P ops Q (Q .normal) L a w → anyG P .any ops Q fuel listed a w
  | [], _, listed, done, a, w, fuel, _, hr, hd, ho, h => by
    simp only [okOrder] at ho
    have hnone : Region.ready .any ops listed = [] := by
      rw [List.eq_nil_iff_forall_not_mem]
      intro j hj
      obtain ⟨_, o, hoj, _⟩ := mem_ready.1 hj
      have h1 := (readyL_iff hr hd hoj).1 hj
      rcases aloneL_ok ho _ (numbered_of hoj) with h2 | h2 | h2
      · have h3 := numbered_lt (numbered_of hoj)
        have h4 : (numbered 0 ops.toList).length = ops.toList.length := by
          have := congrArg List.length (numbered_fst ops.toList 0)
          simpa using this
        simp only at h2 h3
        omega
      · exact h1.1 h2
      · rw [h1.2] at h2; simp at h2
    cases fuel with
    | zero => exact ⟨hnone, h⟩
    | succ f => exact ⟨fun _ => h, fun i hi => by rw [hnone] at hi; simp at hi⟩
  | (i, o) :: L, hL, listed, done, a, w, fuel, hf, hr, hd, ho, h => by
    simp only [okOrder, Bool.and_eq_true, Bool.not_eq_true'] at ho
    obtain ⟨⟨hni, hat⟩, hrest⟩ := ho
    have hi : ops[i]? = some o := hL (i, o) (by simp)
    have hlt := size_of hi
    obtain ⟨f, rfl⟩ : ∃ f, fuel = f + 1 := ⟨fuel - 1, by simp only [List.length_cons] at hf; omega⟩
    have hf' : L.length ≤ f := by simp only [List.length_cons] at hf; omega
    have hd' : ∀ x ∈ i :: done, x < ops.size := by
      intro x hx
      rcases List.mem_cons.1 hx with rfl | hx
      · exact hlt
      · exact hd x hx
    have ih : ∀ {a' w'}, wpL P ops Q (Q .normal) L a' w' → anyG P .any ops Q f (listed.setIfInBounds i true) a' w' := fun {a' w'} h' =>
      order_ok hp hQ L (fun x hx => hL x (by simp [hx])) hf' hr.add hd' hrest h'
    simp only [okAt, Bool.and_eq_true, Bool.or_eq_true] at hat
    have hir : i ∈ Region.ready .any ops listed := (readyL_iff hr hd hi).2 ⟨memN_false.1 hni, hat.1⟩
    have h' : LStep P ops Q o (wpL P ops Q (Q .normal) L) a w := h
    rcases hat.2 with ⟨⟨hy, hfree⟩, hnone⟩ | hal
    · have later_ok : ∀ x ∈ laterL i (numbered 0 ops.toList) [], x < ops.size ∧ ∀ ox, ops[x]? = some ox → ∃ e ∈ ox.after, Region.binds .any e = true ∧ (e.on = i ∨ e.on ∈ laterL i (numbered 0 ops.toList) []) := by
        refine laterL_mem (by simp) (fun j oj hm hy => ?_)
        have hoj := numbered_get _ hm
        refine ⟨size_of hoj, fun ox hox => ?_⟩
        simp only at hoj
        rw [hoj] at hox
        simp only [Option.some.injEq] at hox
        subst hox
        obtain ⟨y, hy1, hy2⟩ := hy
        obtain ⟨e, he, hbe, rfl⟩ := edgeOns_mem.1 hy1
        exact ⟨e, by simpa using he, hbe, hy2⟩
      have hyi : ∃ v, YieldsIf P ops (Agree w) o v a ∧ wpL P ops Q (Q .normal) L (a.put o.dst v) w := by
        unfold LStep at h'
        split at h'
        · rename_i hw
          rcases h' with ⟨_, v, h1, h2⟩ | ⟨h1, _⟩
          · exact ⟨v, .inl ⟨hw, h1⟩, h2⟩
          · rw [hy] at h1; simp at h1
        · rename_i hw
          exact ⟨undef, .inr ⟨by simpa using hw, rfl⟩, h'⟩
      obtain ⟨v, hyv, hk⟩ := hyi
      have hun : ∀ j, j < ops.size → listed.getD j true = false → j ∉ done := fun j hj hu => by
        rw [hr.getD hj] at hu; exact memN_false.1 hu
      refine anyG_first (w0 := w) (Lt := laterL i (numbered 0 ops.toList) []) hi hp.sel hQ (fun x hx => (later_ok x hx).2) f listed a w ?_ ?_ ?_ hir hyv (Agree.refl w) (ih hk)
      · intro j oj hoj hji hu hno
        rcases freeL_ok hfree _ (numbered_of hoj) with h1 | h1 | ⟨h1 | h1, _⟩
        · exact absurd h1 hji
        · exact absurd h1 (hun j (size_of hoj) hu)
        · obtain ⟨e, he, hbe, hei⟩ := edgeOns_mem.1 h1
          exact absurd hei (hno e (by simpa using he) hbe)
        · exact apartL_ok h1
      · intro x hx
        rw [hr.getD (later_ok x hx).1]
        exact memN_false.2 ((noneIn_iff.1 hnone) x hx)
      · intro j oj hoj hji hu hM
        rcases freeL_ok hfree _ (numbered_of hoj) with h1 | h1 | ⟨_, h1 | h1⟩
        · exact absurd h1 hji
        · exact absurd h1 (hun j (size_of hoj) hu)
        · rw [hM] at h1; simp at h1
        · exact h1
    · refine ⟨fun h0 => (by rw [h0] at hir; cases hir), fun j hj => ?_⟩
      obtain ⟨_, oj, hoj, _⟩ := mem_ready.1 hj
      have h1 := (readyL_iff hr hd hoj).1 hj
      have hji : j = i := by
        rcases aloneL_ok hal _ (numbered_of hoj) with h2 | h2 | h2
        · exact h2
        · exact absurd h2 h1.1
        · rw [h1.2] at h2; simp at h2
      subst hji
      exact wpOp_mono (fun a' w' hh => ⟨hh.1, ih hh.2⟩) (h'.wpOp hi)

theorem orderL_mem {dst : Nat → Option Nat} {all : List (Nat × Oper)} : {n : Nat} → {done : List Nat} → ∀ x ∈ orderL dst all n done, x ∈ all
  | 0, _, x, hx => by simp [orderL] at hx
  | n + 1, done, x, hx => by
    simp only [orderL] at hx
    split at hx
    · rename_i i o hn
      have hmem : (i, o) ∈ all := by
        have key : ∀ (l : List (Nat × Oper)), nextL dst all done l = some (i, o) → (i, o) ∈ l := by
          intro l
          induction l with
          | nil => intro h; simp [nextL] at h
          | cons y l ih =>
            obtain ⟨j, oj⟩ := y
            intro h
            simp only [nextL] at h
            cases hc : (!memN j done && okAt dst all done j oj) with
            | true => rw [hc] at h; simp at h; simp [h.1, h.2]
            | false => rw [hc] at h; simp only [cond_false] at h; simp [ih h]
        exact key all hn
      rcases List.mem_cons.1 hx with rfl | hx
      · exact hmem
      · exact orderL_mem x hx
    · simp at hx
theorem orderL_len {dst : Nat → Option Nat} {all : List (Nat × Oper)} : (n : Nat) → (done : List Nat) → (orderL dst all n done).length ≤ n
  | 0, _ => by simp [orderL]
  | n + 1, done => by
    simp only [orderL]
    split
    · simp only [List.length_cons]; exact Nat.succ_le_succ (orderL_len n _)
    · simp
theorem okOrder_nodup {dst : Nat → Option Nat} {all : List (Nat × Oper)} : {L : List (Nat × Oper)} → {done : List Nat} → okOrder dst all L done = true → (L.map Prod.fst).Nodup ∧ ∀ x ∈ L, x.1 ∉ done
  | [], _, _ => ⟨by simp, by simp⟩
  | (i, o) :: L, done, h => by
    simp only [okOrder, Bool.and_eq_true, Bool.not_eq_true'] at h
    obtain ⟨h1, h2⟩ := okOrder_nodup h.2
    refine ⟨?_, fun x hx => ?_⟩
    · simp only [List.map_cons, List.nodup_cons]
      refine ⟨fun hm => ?_, h1⟩
      obtain ⟨x, hx, he⟩ := List.mem_map.1 hm
      exact h2 x hx (by simp [he])
    · rcases List.mem_cons.1 hx with rfl | hx
      · exact memN_false.1 h.1.1
      · exact fun hd => h2 x hx (by simp [hd])
end

end Go.Kz

/-
  Operations that make something of values that lead nowhere: their order is of no account.
-/
namespace Go.Kz
variable {R : Type}

def St.none0 : St := ⟨fun _ => none, fun _ => none, 0⟩

theorem castK_bind {a b : Ty} {d : a.den} {k : b.den → Option R} : castK a b d k = (castK a b d some).bind k := by
  unfold castK
  split <;> rfl
theorem nilK_bind {t : Ty} {k : t.den → Option R} : nilK t k = (nilK t some).bind k := by
  cases t <;> rfl

theorem asData_bind {σ : St} : (n : Nat) → {R : Type} → {a : AVal} → {t : Ty} → {k : t.den → Option R} → noIds a = true → asData σ n a t k = (asData St.none0 n a t some).bind k
  | 0, _, _, _, _, _ => rfl
  | n + 1, _, .data t' d, t, k, _ => by simp only [asData]; exact castK_bind
  | n + 1, _, .nilS, t, k, _ => by
    simp only [asData]
    cases t.isRo with
    | false => rfl
    | true => exact nilK_bind
  | n + 1, _, .clos f c, t, k, h => by
    cases t with
    | fn g u =>
      simp only [asData]
      cases Nat.beq f g with
      | false => rfl
      | true => exact asData_bind n (a := c) (by simpa [noIds] using h)
    | _ => rfl
  | n + 1, _, .agg c, t, k, h => by
    simp only [asData]
    exact asData_bind n (a := c) (by simpa [noIds] using h)
  | n + 1, _, .pr a b, t, k, h => by
    cases t with
    | pair t u =>
      simp only [noIds, Bool.and_eq_true] at h
      simp only [asData]
      rw [asData_bind n (a := a) h.1, asData_bind n (a := a) (k := fun x => asData St.none0 n b u fun y => some (x, y)) h.1]
      cases asData St.none0 n a t some with
      | none => rfl
      | some x =>
        simp only [Option.bind_some]
        rw [asData_bind n (a := b) h.2, asData_bind n (a := b) (k := fun y => some (x, y)) h.2]
        cases asData St.none0 n b u some <;> rfl
    | _ => rfl
  | n + 1, _, .un, t, k, _ => by cases t <;> rfl
  | n + 1, _, .tup _, t, k, _ => by cases t <;> rfl
  | n + 1, _, .ref _ _ _, _, _, h => by simp [noIds] at h
  | n + 1, _, .view _ _ _ _ _, _, _, h => by simp [noIds] at h
  | n + 1, _, .bptr _ _, _, _, h => by simp [noIds] at h
  | n + 1, _, .eptr _ _ _, _, _, h => by simp [noIds] at h
  | n + 1, _, .mref _, _, _, h => by simp [noIds] at h

theorem give_bind : (n : Nat) → {R : Type} → {σ : St} → {a : AVal} → {u : Ty} → {k : u.den → St → Option R} → noIds a = true → give n a u σ k = (give n a u St.none0 (fun d _ => some d)).bind fun d => k d σ
  | 0, _, _, _, _, _, _ => rfl
  | n + 1, _, _, .data t' d, t, k, _ => by simp only [give]; exact castK_bind
  | n + 1, _, _, .nilS, t, k, _ => by simp only [give]; exact nilK_bind
  | n + 1, _, _, .clos f c, t, k, h => by
    cases t with
    | fn g u =>
      simp only [give]
      cases Nat.beq f g with
      | false => rfl
      | true => exact give_bind n (a := c) (by simpa [noIds] using h)
    | _ => rfl
  | n + 1, _, _, .agg c, t, k, h => by
    simp only [give]
    exact give_bind n (a := c) (by simpa [noIds] using h)
  | n + 1, _, _, .pr a b, t, k, h => by
    cases t with
    | pair t u =>
      simp only [noIds, Bool.and_eq_true] at h
      simp only [give]
      rw [give_bind n (a := a) h.1, give_bind n (a := a) (k := fun x σ => give n b u σ fun y _ => some (x, y)) h.1]
      cases give n a t St.none0 (fun d _ => some d) with
      | none => rfl
      | some x =>
        simp only [Option.bind_some]
        rw [give_bind n (a := b) h.2, give_bind n (a := b) (k := fun y _ => some (x, y)) h.2]
        cases give n b u St.none0 (fun d _ => some d) <;> rfl
    | _ => rfl
  | n + 1, _, _, .un, t, k, _ => by cases t <;> rfl
  | n + 1, _, _, .tup _, t, k, _ => by cases t <;> rfl
  | n + 1, _, _, .ref _ _ _, _, _, h => by simp [noIds] at h
  | n + 1, _, _, .view _ _ _ _ _, _, _, h => by simp [noIds] at h
  | n + 1, _, _, .bptr _ _, _, _, h => by simp [noIds] at h
  | n + 1, _, _, .eptr _ _ _, _, _, h => by simp [noIds] at h
  | n + 1, _, _, .mref _, _, _, h => by simp [noIds] at h

theorem matchArgs_bind {b : Bnd} : (p : APat) → {R : Type} → {σ : St} → {a : AVal} → {k : p.den → Bnd → Option R} → chainP p = true → noIds a = true → matchArgs σ p a b k = (matchArgs St.none0 p a b (fun d _ => some d)).bind fun d => k d b
  | .un, _, _, a, k, _, _ => by cases a <;> rfl
  | .pr (.val t) q, _, _, .pr x y, k, hp, h => by
    simp only [noIds, Bool.and_eq_true] at h
    simp only [matchArgs]
    rw [asData_bind 20 h.1, asData_bind 20 (k := fun d => matchArgs St.none0 q y b fun dy _ => some (d, dy)) h.1]
    cases asData St.none0 20 x t some with
    | none => rfl
    | some d =>
      simp only [Option.bind_some]
      rw [matchArgs_bind q (by simpa [chainP] using hp) h.2, matchArgs_bind q (k := fun dy _ => some (d, dy)) (by simpa [chainP] using hp) h.2]
      cases matchArgs St.none0 q y b (fun d _ => some d) <;> rfl
  | .pr (.val t) q, _, _, .data _ _, k, _, _ => rfl
  | .pr (.val t) q, _, _, .nilS, k, _, _ => rfl
  | .pr (.val t) q, _, _, .ref _ _ _, k, _, _ => rfl
  | .pr (.val t) q, _, _, .view _ _ _ _ _, k, _, _ => rfl
  | .pr (.val t) q, _, _, .bptr _ _, k, _, _ => rfl
  | .pr (.val t) q, _, _, .eptr _ _ _, k, _, _ => rfl
  | .pr (.val t) q, _, _, .mref _, k, _, _ => rfl
  | .pr (.val t) q, _, _, .clos _ _, k, _, _ => rfl
  | .pr (.val t) q, _, _, .agg _, k, _, _ => rfl
  | .pr (.val t) q, _, _, .tup _, k, _, _ => rfl
  | .pr (.val t) q, _, _, .un, k, _, _ => rfl
  | .pr (.ref _) _, _, _, _, _, hp, _ => by simp [chainP] at hp
  | .pr (.bptr _) _, _, _, _, _, hp, _ => by simp [chainP] at hp
  | .pr (.clos _ _) _, _, _, _, _, hp, _ => by simp [chainP] at hp
  | .pr (.agg _) _, _, _, _, _, hp, _ => by simp [chainP] at hp
  | .pr (.pr _ _) _, _, _, _, _, hp, _ => by simp [chainP] at hp
  | .pr .un _, _, _, _, _, hp, _ => by simp [chainP] at hp
  | .val _, _, _, _, _, hp, _ => by simp [chainP] at hp
  | .ref _, _, _, _, _, hp, _ => by simp [chainP] at hp
  | .bptr _, _, _, _, _, hp, _ => by simp [chainP] at hp
  | .clos _ _, _, _, _, _, hp, _ => by simp [chainP] at hp
  | .agg _, _, _, _, _, hp, _ => by simp [chainP] at hp

/-- The slots named hold the same. -/
def SameAt (l : List Operand) (σ σ' : St) : Prop := ∀ t, .tmp t ∈ l → σ'.slots t = σ.slots t
theorem ev_same {l : List Operand} {σ σ' : St} (h : SameAt l σ σ') {x : Operand} (hx : x ∈ l) : ev σ' x = ev σ x := by
  cases x with
  | tmp t => exact h t hx
  | const v =>
    unfold ev
    cases v with
    | slice a l c => cases a <;> cases l <;> cases c <;> rfl
    | _ => rfl
  | _ => rfl
theorem evs_same {l : List Operand} {σ σ' : St} (h : SameAt l σ σ') : {m : List Operand} → (∀ x ∈ m, x ∈ l) → evs σ' m = evs σ m
  | [], _ => rfl
  | x :: m, hm => by simp only [evs, ev_same h (hm x (by simp)), evs_same h (m := m) (fun y hy => hm y (by simp [hy]))]
theorem idF_evs {σ : St} : {l : List Operand} → {a : AVal} → l.all (idF σ) = true → evs σ l = some a → noIds a = true
  | [], a, _, h => by simp only [evs, Option.some.injEq] at h; subst h; rfl
  | x :: l, a, hl, h => by
    simp only [List.all_cons, Bool.and_eq_true] at hl
    simp only [evs] at h
    split at h
    · rename_i u v hu hv
      simp only [Option.some.injEq] at h
      subst h
      have h1 := hl.1
      unfold idF at h1
      rw [hu] at h1
      simp only [noIds, Bool.and_eq_true]
      exact ⟨h1, idF_evs hl.2 hv⟩
    · simp at h
theorem parts_bind {l : List Operand} {σ : St} {t : Ty} : {ps : List (Nat × Operand)} → {R : Type} → {σ' : St} → (hs : SameAt l σ σ') → {k : List t.den → St → Option R} → (∀ x ∈ ps, x.2 ∈ l) → ps.all (fun p => idF σ p.2) = true →
    parts σ' t ps k = (parts σ t ps (fun ds _ => some ds)).bind fun ds => k ds σ'
  | [], _, _, _, k, _, _ => rfl
  | (i, x) :: ps, _, σ', hs, k, hm, ha => by
    simp only [List.all_cons, Bool.and_eq_true] at ha
    have he := ev_same hs (hm (i, x) (by simp))
    simp only [parts]
    simp only at he
    rw [he]
    have h1 := ha.1
    unfold idF at h1
    cases hx : ev σ x with
    | none => rfl
    | some a =>
      rw [hx] at h1
      simp only at h1 ⊢
      cases a.val with
      | false => rfl
      | true =>
        simp only [cond_true]
        rw [give_bind 20 h1, give_bind (σ := σ) 20 h1]
        cases give 20 a t St.none0 (fun d _ => some d) with
        | none => rfl
        | some d =>
          simp only [Option.bind_some]
          rw [parts_bind hs (ps := ps) (fun y hy => hm y (by simp [hy])) ha.2, parts_bind (σ' := σ) (l := l) (fun _ _ => rfl) (ps := ps) (k := fun ds _ => some (d :: ds)) (fun y hy => hm y (by simp [hy])) ha.2]
          cases parts σ t ps (fun ds _ => some ds) <;> rfl

theorem noIds_append : {a b : AVal} → noIds a = true → noIds b = true → noIds (appendC a b) = true
  | .pr x y, b, ha, hb => by
    simp only [noIds, Bool.and_eq_true] at ha
    simp only [appendC, noIds, Bool.and_eq_true]
    exact ⟨ha.1, noIds_append ha.2 hb⟩
  | .un, b, _, hb => hb
  | .data _ _, b, _, hb => hb
  | .nilS, b, _, hb => hb
  | .ref _ _ _, b, _, hb => hb
  | .view _ _ _ _ _, b, _, hb => hb
  | .bptr _ _, b, _, hb => hb
  | .eptr _ _ _, b, _, hb => hb
  | .mref _, b, _, hb => hb
  | .clos _ _, b, _, hb => hb
  | .agg _, b, _, hb => hb
  | .tup _, b, _, hb => hb
theorem noIds_split : (t : Ty) → (d : t.den) → noIds (splitC t d) = true
  | .pair a b, (x, y) => by simp only [splitC, noIds, noIds_split b y, Bool.and_self]
  | .int _, _ => rfl
  | .bool, _ => rfl
  | .str, _ => rfl
  | .unit, _ => rfl
  | .arr _ _, _ => rfl
  | .sl _ _, _ => rfl
  | .ptr _, _ => rfl
  | .fn _ _, _ => rfl
theorem calleeOf_no {g a all : AVal} {f : Nat} (hg : noIds g = true) (ha : noIds a = true) (h : calleeOf g a = some (f, all)) : noIds all = true := by
  unfold calleeOf at h
  split at h
  · rename_i fid cap
    cases hl : leafC cap with
    | false => rw [hl] at h; simp at h
    | true =>
      rw [hl] at h
      simp only [cond_true, Option.some.injEq, Prod.mk.injEq] at h
      rw [← h.2]
      exact noIds_append ha (by simpa [noIds] using hg)
  · rename_i fid t d
    cases hl : (leafC (splitC t d) && (splitC t d).sk.same t.sk) with
    | false => rw [hl] at h; simp at h
    | true =>
      rw [hl] at h
      simp only [cond_true, Option.some.injEq, Prod.mk.injEq] at h
      rw [← h.2]
      exact noIds_append ha (noIds_split t d)
  · simp at h

theorem pureC_pick {a : AVal} : {l : List Callee} → {x : Callee} → pureC l = true → pickC a l = some x → ∃ p res F, x = .pure p res F
  | [], _, _, h => by simp [pickC] at h
  | .pure p res F :: l, x, hp, h => by
    simp only [pickC] at h
    cases hf : fits (Callee.pure p res F).args a with
    | true => rw [hf] at h; simp only [cond_true, Option.some.injEq] at h; exact ⟨p, res, F, h.symm⟩
    | false => rw [hf] at h; exact pureC_pick (by simpa [pureC] using hp) h
  | .mut _ _ _ _ :: l, x, hp, h => by simp [pureC] at hp
theorem calleeOf_id {σ : St} {x : Operand} {g a all : AVal} {f : Nat} (hx : ev σ x = some g) (h : calleeOf g a = some (f, all)) : calleeId σ x = some f := by
  unfold calleeOf at h
  unfold calleeId
  rw [hx]
  split at h
  · rename_i fid cap
    cases hl : leafC cap with
    | false => rw [hl] at h; simp at h
    | true =>
      rw [hl] at h
      simp only [cond_true, Option.some.injEq, Prod.mk.injEq] at h
      rw [← h.1]
  · rename_i fid t d
    cases hl : (leafC (splitC t d) && (splitC t d).sk.same t.sk) with
    | false => rw [hl] at h; simp at h
    | true =>
      rw [hl] at h
      simp only [cond_true, Option.some.injEq, Prod.mk.injEq] at h
      rw [← h.1]
  · simp at h

theorem set_addObjs (d : Nat) (v : AVal) : (os : List Obj) → (σ : St) → (n : Nat) → (σ.addObjs n os).set d v = (σ.set d v).addObjs n os
  | [], _, _ => rfl
  | o :: os, σ, n => by simp only [St.addObjs]; rw [set_addObjs d v os]; rfl

/-- The old variables hold the same. -/
def SameC (base : Nat) (σ σ' : St) : Prop := ∀ id a, id < base → σ.objs id = some (.cell a) → σ'.objs id = some (.cell a)
theorem getK_bind : (t : Ty) → (d : t.den) → (p : Path) → {R : Type} → {k : (u : Ty) → u.den → Option R} → getK t d p k = (getK t d p fun u e => some (AVal.data u e)).bind fun v => match v with
    | .data u e => k u e
    | _ => none
  | .pair a _, (x, _), .fst :: p, _, k => by simp only [getK]; exact getK_bind a x p
  | .pair _ b, (_, y), .snd :: p, _, k => by simp only [getK]; exact getK_bind b y p
  | .arr _ t, l, .idx i :: p, _, k => by
    simp only [getK]
    cases idx l i with
    | none => rfl
    | some x => exact getK_bind t x p
  | .sl true t, l, .idx i :: p, _, k => by
    simp only [getK]
    cases idx l i with
    | none => rfl
    | some x => exact getK_bind t x p
  | .int _, d, [], _, k => rfl
  | .bool, d, [], _, k => rfl
  | .str, d, [], _, k => rfl
  | .unit, d, [], _, k => rfl
  | .pair _ _, (_, _), [], _, k => rfl
  | .arr _ _, d, [], _, k => rfl
  | .sl true _, d, [], _, k => rfl
  | .sl false _, d, [], _, k => rfl
  | .ptr _, d, [], _, k => rfl
  | .fn _ _, d, [], _, k => rfl
  | .int _, d, s :: p, _, k => by cases s <;> rfl
  | .bool, d, s :: p, _, k => by cases s <;> rfl
  | .str, d, s :: p, _, k => by cases s <;> rfl
  | .unit, d, s :: p, _, k => by cases s <;> rfl
  | .sl false _, d, s :: p, _, k => by cases s <;> rfl
  | .ptr _, d, s :: p, _, k => by cases s <;> rfl
  | .fn _ _, d, s :: p, _, k => by cases s <;> rfl
  | .pair _ _, (_, _), .idx _ :: p, _, k => rfl
  | .arr _ _, d, .fst :: p, _, k => rfl
  | .arr _ _, d, .snd :: p, _, k => rfl
  | .sl true _, d, .fst :: p, _, k => rfl
  | .sl true _, d, .snd :: p, _, k => rfl
theorem getA_bind : (a : AVal) → (p : Path) → {R : Type} → {k : AVal → Option R} → getA a p k = (getA a p some).bind k
  | a, [], _, k => by cases a <;> rfl
  | .agg c, s :: p, _, k => by simp only [getA]; exact getA_bind c (s :: p)
  | .pr a _, .fst :: p, _, k => by simp only [getA]; exact getA_bind a p
  | .pr _ b, .snd :: p, _, k => by simp only [getA]; exact getA_bind b p
  | .pr _ _, .idx _ :: p, _, k => rfl
  | .data t d, s :: p, _, k => by
    simp only [getA]
    rw [getK_bind t d (s :: p), getK_bind t d (s :: p) (k := fun u e => some (AVal.data u e))]
    cases getK t d (s :: p) (fun u e => some (AVal.data u e)) with
    | none => rfl
    | some v => cases v <;> rfl
  | .nilS, s :: p, _, k => by cases s <;> rfl
  | .ref _ _ _, s :: p, _, k => by cases s <;> rfl
  | .view _ _ _ _ _, s :: p, _, k => by cases s <;> rfl
  | .bptr _ _, s :: p, _, k => by cases s <;> rfl
  | .eptr _ _ _, s :: p, _, k => by cases s <;> rfl
  | .mref _, s :: p, _, k => by cases s <;> rfl
  | .clos _ _, s :: p, _, k => by cases s <;> rfl
  | .tup _, s :: p, _, k => by cases s <;> rfl
  | .un, s :: p, _, k => by cases s <;> rfl

/-- What such an operation makes, wherever the values that it takes stand as they do. -/
structure AForm (c : Ctx) (base : Nat) (σ : St) (o : Oper) (d : Nat) (X : Option (Nat → AVal × List Obj)) : Prop where
  len : ∀ x, X = some x → ∀ n, (x n).2.length ≤ 8
  load : isLoad o = true → ∀ x, X = some x → ∀ n, (x n).2 = [] ∧ (x n).1 = (x 0).1
  eq : ∀ σ', SameAt o.op.operands.toList σ σ' → SameC base σ σ' → ∀ (R : Type) (n : Nat) (k : St → Option R), opK c σ' n o k = X.bind fun x => k ((σ'.set d (x n).1).addObjs n (x n).2)

theorem exposeRes_len (res : List Ty) (r : resDen res) (n : Nat) : (exposeRes res r n).2.length = (exposeRes res r 0).2.length := by rw [res_objs res r n 0]

theorem aform {c : Ctx} {base : Nat} {σ : St} {o : Oper} (h : isA c base σ o = true) : ∃ d X, o.dst = some d ∧ o.guard = none ∧ AForm c base σ o d X := by
  unfold isA at h
  simp only [Bool.and_eq_true] at h
  obtain ⟨⟨hg, hd⟩, ho⟩ := h
  have hg' : o.guard = none := by
    cases hgg : o.guard with
    | none => rfl
    | some _ => rw [hgg] at hg; simp at hg
  obtain ⟨d, hdd, hlt⟩ : ∃ d, o.dst = some d ∧ Nat.blt d c.ntmps = true := by
    cases hdd : o.dst with
    | none => rw [hdd] at hd; simp at hd
    | some d => rw [hdd] at hd; exact ⟨d, rfl, hd⟩
  have hput : ∀ (σ : St) (v : AVal) {R : Type} (k : St → Option R), σ.putK c o.dst v k = k (σ.set d v) := by
    intro σ v R k
    rw [hdd]
    simp only [St.putK, hlt, cond_true]
  split at ho
  · rename_i t hop
    have hj : isJunk o = false := by simp [isJunk, hop]
    refine ⟨d, ((c.tt t).bind zeroA).map fun z n => (.bptr n [], [.cell z]), hdd, hg', ⟨fun x hx n => ?_, fun hl => by simp [isLoad, hop] at hl, fun σ' hs _ R n k => ?_⟩⟩
    · simp only [Option.map_eq_some_iff] at hx
      obtain ⟨z, _, rfl⟩ := hx
      simp
    · simp only [opK, hj, cond_false, opK0, hop]
      cases (c.tt t).bind zeroA with
      | none => rfl
      | some z => simp only [hput]; rfl
  · rename_i t x y hop
    have hj : isJunk o = false := by simp [isJunk, hop]
    have hx : x ∈ o.op.operands.toList := by rw [hop]; simp [Op.operands]
    have hy : y ∈ o.op.operands.toList := by rw [hop]; simp [Op.operands]
    refine ⟨d, (match tyFor c o.dst t with
      | some (.sl _ u) => (match u.zero, ev σ x, ev σ y with
        | some z, some (.data (.int _) l), some (.data (.int _) m) => cond u.isRo (chk (decide (0 ≤ l) && decide (l ≤ m) && decide (m ≤ (room : Int))) (some fun n => (.ref n [] 0, [.row u (List.replicate l.toNat z) 0]))) none
        | _, _, _ => none)
      | _ => none), hdd, hg', ⟨fun f hf n => ?_, fun hl => by simp [isLoad, hop] at hl, fun σ' hs _ R n k => ?_⟩⟩
    · split at hf
      · split at hf
        · rename_i u _ _ _ _ z _ l _ m _ _ _
          cases hu : u.isRo with
          | false => rw [hu] at hf; simp at hf
          | true =>
            rw [hu] at hf
            simp only [cond_true, chk] at hf
            cases hb : (decide (0 ≤ l) && decide (l ≤ m) && decide (m ≤ (room : Int))) with
            | false => rw [hb] at hf; simp at hf
            | true =>
              rw [hb] at hf
              simp only [cond_true, Option.some.injEq] at hf
              subst hf
              simp
        · simp at hf
      · simp at hf
    · simp only [opK, hj, cond_false, opK0, hop, ev_same hs hx, ev_same hs hy, hput]
      generalize tyFor c o.dst t = T0
      generalize ev σ x = ax
      generalize ev σ y = ay
      cases T0 with
      | none => rfl
      | some T0 =>
        cases T0 with
        | sl ow u =>
          simp only
          cases u.zero with
          | none => rfl
          | some z =>
            cases ax with
            | none => rfl
            | some ax =>
              cases ax with
              | data t1 d1 =>
                cases t1 with
                | int k1 =>
                  cases ay with
                  | none => rfl
                  | some ay =>
                    cases ay with
                    | data t2 d2 =>
                      cases t2 with
                      | int k2 =>
                        simp only
                        cases u.isRo with
                        | false => rfl
                        | true =>
                          simp only [cond_true, chk]
                          cases (decide (0 ≤ d1) && decide (d1 ≤ d2) && decide (d2 ≤ (room : Int))) <;> rfl
                      | _ => rfl
                    | _ => rfl
                | _ => rfl
              | _ => rfl
        | _ => rfl
  · rename_i t x hop
    have hj : isJunk o = false := by simp [isJunk, hop]
    have hx : x ∈ o.op.operands.toList := by rw [hop]; simp [Op.operands]
    split at ho
    · rename_i id p he
      simp only [Bool.and_eq_true] at ho
      obtain ⟨hid, hob⟩ := ho
      have hid' : id < base := Nat.le_of_ble_eq_true hid
      split at hob
      · rename_i a hcell
        refine ⟨d, ((match c.tt t with
          | some u => (getA a p some).bind fun v => cond (v.val && u.sk.same v.sk) (some v) none
          | none => none) : Option AVal).map fun v _ => (v, []), hdd, hg', ⟨fun f hf n => ?_, fun _ f hf n => ?_, fun σ' hs hc R n k => ?_⟩⟩
        · simp only [Option.map_eq_some_iff] at hf
          obtain ⟨v, _, rfl⟩ := hf
          simp
        · simp only [Option.map_eq_some_iff] at hf
          obtain ⟨v, _, rfl⟩ := hf
          exact ⟨rfl, rfl⟩
        · have hcell' := hc id a hid' hcell
          simp only [opK, hj, cond_false, opK0, hop, ev_same hs hx, he, hput]
          cases c.tt t with
          | none => rfl
          | some u =>
            simp only [loadK, bfetchK, hcell']
            rw [getA_bind]
            cases getA a p some with
            | none => rfl
            | some v =>
              simp only [Option.bind_some]
              cases (v.val && u.sk.same v.sk) <;> rfl
      · simp at hob
    · simp at ho
  · rename_i t len ps hop
    have hj : isJunk o = false := by simp [isJunk, hop]
    have hps : ∀ x ∈ ps.toList, x.2 ∈ o.op.operands.toList := by
      intro x hx
      rw [hop]
      simp only [Op.operands]
      exact List.mem_map.2 ⟨x, hx, rfl⟩
    refine ⟨d, (match tyFor c o.dst t with
      | some (.sl _ u) => cond (u.isRo && inOrder 0 ps.toList && Nat.beq ps.toList.length len && Nat.ble (len * u.size) 100000) ((parts σ u ps.toList fun ds _ => some ds).map fun ds n => (.ref n [] 0, [.row u ds 0])) none
      | _ => none), hdd, hg', ⟨fun f hf n => ?_, fun hl => by simp [isLoad, hop] at hl, fun σ' hs _ R n k => ?_⟩⟩
    · split at hf
      · rename_i u _
        cases hb : (u.isRo && inOrder 0 ps.toList && Nat.beq ps.toList.length len && Nat.ble (len * u.size) 100000) with
        | false => rw [hb] at hf; simp at hf
        | true =>
          rw [hb] at hf
          simp only [cond_true, Option.map_eq_some_iff] at hf
          obtain ⟨ds, _, rfl⟩ := hf
          simp
      · simp at hf
    · simp only [opK, hj, cond_false, opK0, hop, hput]
      generalize tyFor c o.dst t = T0
      cases T0 with
      | none => rfl
      | some T0 =>
        cases T0 with
        | sl ow u =>
          simp only
          cases (u.isRo && inOrder 0 ps.toList && Nat.beq ps.toList.length len && Nat.ble (len * u.size) 100000) with
          | false => rfl
          | true =>
            simp only [cond_true]
            rw [parts_bind hs hps ho]
            cases parts σ u ps.toList (fun ds _ => some ds) <;> rfl
        | _ => rfl
  · rename_i cl hop
    have hj : isJunk o = false := by simp [isJunk, hop]
    split at ho
    · rename_i gx hcl
      simp only [Bool.and_eq_true] at ho
      obtain ⟨ho, hpure⟩ := ho
      obtain ⟨callee, args, ts⟩ := cl
      simp only at hcl ho
      subst hcl
      have hgm : gx ∈ o.op.operands.toList := by rw [hop]; simp [Op.operands, Call.operands]
      have ham : ∀ x ∈ args.toList, x ∈ o.op.operands.toList := by
        intro x hx
        rw [hop]
        simp [Op.operands, Call.operands, hx]
      refine ⟨d, (match ev σ gx, evs σ args.toList with
        | some g, some a => (match calleeOf g a with
          | some (fid, all) => (match pickC all (c.env fid) with
            | some (.pure p res F) => cond (chainP p && valsC all && (flats res || noIds all)) ((matchArgs St.none0 p all [] fun d _ => some d).bind fun d => (F d).bind fun r => cond (Nat.ble (exposeRes res r 0).2.length 8) (some fun n => exposeRes res r n) none) none
            | _ => none)
          | none => none)
        | _, _ => none), hdd, hg', ⟨fun f hf n => ?_, fun hl => by simp [isLoad, hop] at hl, fun σ' hs _ R n k => ?_⟩⟩
      · split at hf
        · split at hf
          · split at hf
            · rename_i p res F _
              generalize hB : (chainP p && valsC _ && (flats res || noIds _)) = B at hf
              cases B with
              | false => simp at hf
              | true =>
                simp only [cond_true, Option.bind_eq_some_iff] at hf
                obtain ⟨dd, _, r, _, hf⟩ := hf
                cases hb : Nat.ble (exposeRes res r 0).2.length 8 with
                | false => rw [hb] at hf; simp at hf
                | true =>
                  rw [hb] at hf
                  simp only [cond_true, Option.some.injEq] at hf
                  subst hf
                  rw [exposeRes_len]
                  exact Nat.le_of_ble_eq_true hb
            · simp at hf
          · simp at hf
        · simp at hf
      · simp only [opK, hj, cond_false, opK0, hop, ev_same hs hgm, evs_same hs ham]
        cases hg : ev σ gx with
        | none => rfl
        | some g =>
        cases ha : evs σ args.toList with
        | none => rfl
        | some a =>
          simp only
          have hgn : noIds g = true := by have := ho.1; unfold idF at this; rw [hg] at this; exact this
          have han := idF_evs ho.2 ha
          unfold callK
          cases hco : calleeOf g a with
          | none => rfl
          | some y =>
            obtain ⟨fid, all⟩ := y
            have hall := calleeOf_no hgn han hco
            simp only
            rw [calleeOf_id hg hco] at hpure
            cases hpk : pickC all (c.env fid) with
            | none => rfl
            | some ca =>
              obtain ⟨p0, res0, F0, hca⟩ := pureC_pick hpure hpk
              cases ca with
              | «mut» p os res F => simp at hca
              | pure p res F =>
                simp only [callPure]
                cases hB : (chainP p && valsC all && (flats res || noIds all)) with
                | false => rfl
                | true =>
                  simp only [Bool.and_eq_true] at hB
                  simp only [cond_true]
                  rw [matchArgs_bind p hB.1.1 hall]
                  cases matchArgs St.none0 p all [] (fun d _ => some d) with
                  | none => rfl
                  | some dd =>
                    simp only [Option.bind_some]
                    cases F dd with
                    | none => rfl
                    | some r =>
                      simp only [Option.bind_some]
                      rw [exposeRes_len res r n]
                      cases Nat.ble (exposeRes res r 0).2.length 8 with
                      | false => rfl
                      | true => simp only [cond_true, hput, Option.bind_some, set_addObjs]
    · simp at ho
  · simp at ho

end Go.Kz

/-
  Regions whose order is drawn, with operations that may be taken in any order.
-/
namespace Go.Kz
variable {R : Type}

section
variable {P : Program} {ops : Array Oper} {Q : Exit → Act → World → Prop}

theorem addDone_mem {x : Nat} : {l : List (Nat × Oper)} → {d : List Nat} → (x ∈ addDone l d ↔ x ∈ d ∨ x ∈ l.map Prod.fst)
  | [], d => by simp [addDone]
  | (i, o) :: l, d => by
    simp only [addDone, List.map_cons, List.mem_cons]
    rw [addDone_mem (l := l)]
    simp only [List.mem_cons]
    constructor
    · rintro ((h | h) | h)
      · exact .inr (.inl h)
      · exact .inl h
      · exact .inr (.inr h)
    · rintro (h | h | h)
      · exact .inl (.inr h)
      · exact .inl (.inl h)
      · exact .inr h

/-- Whether a number is done is all that counts. -/
theorem Rel.same {listed : Array Bool} {d d' : List Nat} (h : Rel ops listed d) (he : ∀ x, x ∈ d ↔ x ∈ d') : Rel ops listed d' := by
  refine ⟨h.size, fun j hj => ?_⟩
  rw [h.get j hj]
  congr 1
  rw [Bool.eq_iff_iff, memN_iff, memN_iff]; exact he j

theorem order_pre (hp : Plain' ops) (hQ : ∀ c a w, ¬ Q (.panic c) a w) {f : Nat} : (L : List (Nat × Oper)) → (∀ x ∈ L, ops[x.1]? = some x.2) → {listed : Array Bool} → {done : List Nat} → {a : Act} → {w : World} →
    Rel ops listed done → (∀ x ∈ done, x < ops.size) → okRun (dstOf ops.toList) (numbered 0 ops.toList) L done = true →
    wpL P ops Q (fun a w => ∀ listed', Rel ops listed' (addDone L done) → anyG P .any ops Q f listed' a w) L a w → anyG P .any ops Q (L.length + f) listed a w
  | [], _, listed, done, a, w, hr, hd, ho, h => by
    rw [List.length_nil, Nat.zero_add]
    exact h listed hr
  | (i, o) :: L, hL, listed, done, a, w, hr, hd, ho, h => by
    simp only [okRun, Bool.and_eq_true, Bool.not_eq_true'] at ho
    obtain ⟨⟨hni, hat⟩, hrest⟩ := ho
    have hi : ops[i]? = some o := hL (i, o) (by simp)
    have hlt := size_of hi
    have hd' : ∀ x ∈ i :: done, x < ops.size := by
      intro x hx
      rcases List.mem_cons.1 hx with rfl | hx
      · exact hlt
      · exact hd x hx
    have e0 : ((i, o) :: L).length + f = (L.length + f) + 1 := by simp only [List.length_cons]; omega
    rw [e0]
    have ih : ∀ {a' w'}, wpL P ops Q (fun a w => ∀ listed', Rel ops listed' (addDone ((i, o) :: L) done) → anyG P .any ops Q f listed' a w) L a' w' → anyG P .any ops Q (L.length + f) (listed.setIfInBounds i true) a' w' := fun {a' w'} h' =>
      order_pre hp hQ L (fun x hx => hL x (by simp [hx])) hr.add hd' hrest h'
    simp only [okAt, Bool.and_eq_true, Bool.or_eq_true] at hat
    have hir : i ∈ Region.ready .any ops listed := (readyL_iff hr hd hi).2 ⟨memN_false.1 hni, hat.1⟩
    have h' : LStep P ops Q o (wpL P ops Q (fun a w => ∀ listed', Rel ops listed' (addDone ((i, o) :: L) done) → anyG P .any ops Q f listed' a w) L) a w := h
    rcases hat.2 with ⟨⟨hy, hfree⟩, hnone⟩ | hal
    · have later_ok : ∀ x ∈ laterL i (numbered 0 ops.toList) [], x < ops.size ∧ ∀ ox, ops[x]? = some ox → ∃ e ∈ ox.after, Region.binds .any e = true ∧ (e.on = i ∨ e.on ∈ laterL i (numbered 0 ops.toList) []) := by
        refine laterL_mem (by simp) (fun j oj hm hy => ?_)
        have hoj := numbered_get _ hm
        refine ⟨size_of hoj, fun ox hox => ?_⟩
        simp only at hoj
        rw [hoj] at hox
        simp only [Option.some.injEq] at hox
        subst hox
        obtain ⟨y, hy1, hy2⟩ := hy
        obtain ⟨e, he, hbe, rfl⟩ := edgeOns_mem.1 hy1
        exact ⟨e, by simpa using he, hbe, hy2⟩
      have hyi : ∃ v, YieldsIf P ops (Agree w) o v a ∧ wpL P ops Q (fun a w => ∀ listed', Rel ops listed' (addDone ((i, o) :: L) done) → anyG P .any ops Q f listed' a w) L (a.put o.dst v) w := by
        unfold LStep at h'
        split at h'
        · rename_i hw
          rcases h' with ⟨_, v, h1, h2⟩ | ⟨h1, _⟩
          · exact ⟨v, .inl ⟨hw, h1⟩, h2⟩
          · rw [hy] at h1; simp at h1
        · rename_i hw
          exact ⟨undef, .inr ⟨by simpa using hw, rfl⟩, h'⟩
      obtain ⟨v, hyv, hk⟩ := hyi
      have hun : ∀ j, j < ops.size → listed.getD j true = false → j ∉ done := fun j hj hu => by
        rw [hr.getD hj] at hu; exact memN_false.1 hu
      refine anyG_first (w0 := w) (Lt := laterL i (numbered 0 ops.toList) []) hi hp.sel hQ (fun x hx => (later_ok x hx).2) _ listed a w ?_ ?_ ?_ hir hyv (Agree.refl w) (ih hk)
      · intro j oj hoj hji hu hno
        rcases freeL_ok hfree _ (numbered_of hoj) with h1 | h1 | ⟨h1 | h1, _⟩
        · exact absurd h1 hji
        · exact absurd h1 (hun j (size_of hoj) hu)
        · obtain ⟨e, he, hbe, hei⟩ := edgeOns_mem.1 h1
          exact absurd hei (hno e (by simpa using he) hbe)
        · exact apartL_ok h1
      · intro x hx
        rw [hr.getD (later_ok x hx).1]
        exact memN_false.2 ((noneIn_iff.1 hnone) x hx)
      · intro j oj hoj hji hu hM
        rcases freeL_ok hfree _ (numbered_of hoj) with h1 | h1 | ⟨_, h1 | h1⟩
        · exact absurd h1 hji
        · exact absurd h1 (hun j (size_of hoj) hu)
        · rw [hM] at h1; simp at h1
        · exact h1
    · refine ⟨fun h0 => (by rw [h0] at hir; cases hir), fun j hj => ?_⟩
      obtain ⟨_, oj, hoj, _⟩ := mem_ready.1 hj
      have h1 := (readyL_iff hr hd hoj).1 hj
      have hji : j = i := by
        rcases aloneL_ok hal _ (numbered_of hoj) with h2 | h2 | h2
        · exact h2
        · exact absurd h2 h1.1
        · rw [h1.2] at h2; simp at h2
      subst hji
      exact wpOp_mono (fun a' w' hh => ⟨hh.1, ih hh.2⟩) (h'.wpOp hi)

/-! ## In any order -/
theorem apartL_dst {dst : Nat → Option Nat} {x y : Oper} (h : apartL dst x y = true) {d e : Nat} (hx : x.dst = some d) (hy : y.dst = some e) :
    d ≠ e ∧ (.tmp d) ∉ y.op.operands.toList ∧ (.tmp e) ∉ x.op.operands.toList := by
  unfold apartL at h
  rw [hx, hy] at h
  simp only [Bool.and_eq_true, Bool.not_eq_true'] at h
  obtain ⟨⟨h1, h2⟩, h3⟩ := h
  refine ⟨?_, ?_, ?_⟩
  · intro he; subst he; rw [Nat.beq_refl] at h2; simp at h2
  · intro hm
    simp only [looksL, Bool.or_eq_false_iff] at h1
    rw [memN_false] at h1
    exact h1.1 (tmpsL_mem.2 hm)
  · intro hm
    simp only [looksL, Bool.or_eq_false_iff] at h3
    rw [memN_false] at h3
    exact h3.1 (tmpsL_mem.2 hm)

theorem same_put {σ : St} {d n : Nat} {v : AVal} {os : List Obj} {l : List Operand} (h : (.tmp d) ∉ l) : SameAt l σ ((σ.set d v).addObjs n os) := by
  intro t ht
  rw [addObjs_slots]
  simp only [St.set, upd]
  have : Nat.beq t d = false := by
    cases hb : Nat.beq t d with
    | false => rfl
    | true => exact absurd ((Nat.eq_of_beq_eq_true hb) ▸ ht) h
  rw [this]; rfl
theorem same_putC {base : Nat} {σ : St} {d n : Nat} {v : AVal} {os : List Obj} (h : base ≤ n) : SameC base σ ((σ.set d v).addObjs n os) := by
  intro id a hid hc
  rw [addObjs_objs, if_neg (by omega)]
  exact hc

theorem isA_keep {c : Ctx} {base : Nat} {σ σ' : St} {o : Oper} (h : SameAt o.op.operands.toList σ σ') (hc : SameC base σ σ') (hA : isA c base σ o = true) : isA c base σ' o = true := by
  unfold isA at hA ⊢
  have hid : ∀ x ∈ o.op.operands.toList, idF σ' x = idF σ x := fun x hx => by unfold idF; rw [ev_same h hx]
  have hci : ∀ x ∈ o.op.operands.toList, calleeId σ' x = calleeId σ x := fun x hx => by unfold calleeId; rw [ev_same h hx]
  simp only [Bool.and_eq_true] at hA ⊢
  refine ⟨hA.1, ?_⟩
  have hA2 := hA.2
  cases hop : o.op with
  | load t x =>
    rw [hop] at hA2
    simp only at hA2 ⊢
    rw [ev_same h (x := x) (by rw [hop]; simp [Op.operands])]
    split at hA2
    · rename_i id p he
      simp only [Bool.and_eq_true] at hA2 ⊢
      refine ⟨hA2.1, ?_⟩
      have h2 := hA2.2
      split at h2
      · rename_i a hcell
        rw [hc id a (Nat.le_of_ble_eq_true hA2.1) hcell]
      · simp at h2
    · simp at hA2
  | buildSlice t n ps =>
    rw [hop] at hA2
    simp only at hA2 ⊢
    rw [List.all_eq_true] at hA2 ⊢
    intro p hp
    rw [hid _ (by rw [hop]; simp only [Op.operands]; exact List.mem_map.2 ⟨p, hp, rfl⟩)]
    exact hA2 p hp
  | call cl =>
    rw [hop] at hA2
    obtain ⟨callee, args, ts⟩ := cl
    cases callee with
    | value g =>
      simp only [Bool.and_eq_true] at hA2 ⊢
      have hg : g ∈ o.op.operands.toList := by rw [hop]; simp [Op.operands, Call.operands]
      refine ⟨⟨by rw [hid g hg]; exact hA2.1.1, ?_⟩, by rw [hci g hg]; exact hA2.2⟩
      have h3 := hA2.1.2
      rw [List.all_eq_true] at h3 ⊢
      intro x hx
      rw [hid x (by rw [hop]; simp [Op.operands, Call.operands, hx])]
      exact h3 x hx
    | builtin _ => simp at hA2
    | invoke _ _ => simp at hA2
  | alloc t => rfl
  | makeSlice t x y => rfl
  | _ => rw [hop] at hA2; simp at hA2

theorem St.ext' {a b : St} (h1 : a.slots = b.slots) (h2 : a.objs = b.objs) (h3 : a.next = b.next) : a = b := by
  cases a; cases b; simp only at h1 h2 h3; subst h1; subst h2; subst h3; rfl

theorem aft_swap {σ : St} {d e n m : Nat} {u v : AVal} {os ps : List Obj} (hde : d ≠ e) (h1 : os.length ≤ 8) (h2 : ps.length ≤ 8) (hnm : n + 8 ≤ m ∨ m + 8 ≤ n) :
    (((σ.set d u).addObjs n os).set e v).addObjs m ps = (((σ.set e v).addObjs m ps).set d u).addObjs n os := by
  refine St.ext' ?_ ?_ ?_
  · rw [addObjs_slots, addObjs_slots]
    funext i
    simp only [St.set, addObjs_slots, upd]
    cases hi : Nat.beq i e with
    | true =>
      have := Nat.eq_of_beq_eq_true hi
      subst this
      have : Nat.beq i d = false := by
        cases hb : Nat.beq i d with
        | false => rfl
        | true => exact absurd (Nat.eq_of_beq_eq_true hb).symm hde
      rw [this]; rfl
    | false => rfl
  · funext i
    rw [addObjs_objs, addObjs_objs]
    simp only [St.set]
    rw [addObjs_objs, addObjs_objs]
    by_cases hA : n ≤ i ∧ i < n + os.length
    · have hB : ¬ (m ≤ i ∧ i < m + ps.length) := by omega
      rw [if_pos hA, if_neg hB, if_pos hA]
    · by_cases hB : m ≤ i ∧ i < m + ps.length
      · rw [if_pos hB, if_neg hA, if_pos hB]
      · rw [if_neg hB, if_neg hA, if_neg hA, if_neg hB]
  · rw [addObjs_next, addObjs_next]
    simp only [St.set, addObjs_next]

/-- Two such operations, one after the other. -/
theorem swapA {c : Ctx} {base : Nat} {dst : Nat → Option Nat} {σ : St} {i j : Nat} {o p : Oper} (hij : i ≠ j) (ho : isA c base σ o = true) (hp : isA c base σ p = true) (hap : apartL dst o p = true) (k : St → Option R) :
    opK c σ (base + 8 * i) o (fun σ => opK c σ (base + 8 * j) p k) = opK c σ (base + 8 * j) p (fun σ => opK c σ (base + 8 * i) o k) := by
  obtain ⟨d, X, hd, _, hX⟩ := aform ho
  obtain ⟨e, Y, he, _, hY⟩ := aform hp
  obtain ⟨h1, h2, h3⟩ := apartL_dst hap hd he
  rw [hX.eq σ (fun _ _ => rfl) (fun _ _ _ h => h), hY.eq σ (fun _ _ => rfl) (fun _ _ _ h => h)]
  cases X with
  | none =>
    cases Y with
    | none => rfl
    | some y =>
      simp only [Option.bind_none, Option.bind_some]
      rw [hX.eq _ (same_put h3) (same_putC (by omega))]; rfl
  | some x =>
    cases Y with
    | none =>
      simp only [Option.bind_none, Option.bind_some]
      rw [hY.eq _ (same_put h2) (same_putC (by omega))]; rfl
    | some y =>
      simp only [Option.bind_some]
      rw [hY.eq _ (same_put h2) (same_putC (by omega)), hX.eq _ (same_put h3) (same_putC (by omega))]
      simp only [Option.bind_some]
      rw [aft_swap h1 (hX.len x rfl _) (hY.len y rfl _) (by omega)]

theorem allA_iff {c : Ctx} {base : Nat} {σ : St} : {l : List (Nat × Oper)} → (allA c base σ l = true ↔ ∀ x ∈ l, isA c base σ x.2 = true)
  | [] => by simp [allA]
  | (i, o) :: l => by simp [allA, allA_iff (l := l)]

/-- None looks at what another makes. -/
def PW (dst : Nat → Option Nat) (l : List (Nat × Oper)) : Prop := l.Pairwise fun x y => x.1 ≠ y.1 ∧ apartL dst x.2 y.2 = true

theorem after_one {c : Ctx} {base : Nat} {dst : Nat → Option Nat} {σ : St} {n d : Nat} {p : Oper} {v : AVal} {os : List Obj} {l : List (Nat × Oper)} (hd : p.dst = some d) (hn : base ≤ n)
    (hl : ∀ x ∈ l, isA c base σ x.2 = true) (hap : ∀ x ∈ l, apartL dst p x.2 = true ∨ apartL dst x.2 p = true) : ∀ x ∈ l, isA c base ((σ.set d v).addObjs n os) x.2 = true := by
  intro x hx
  obtain ⟨e, Y, he, _, _⟩ := aform (hl x hx)
  have hno : (.tmp d) ∉ x.2.op.operands.toList := by
    rcases hap x hx with h | h
    · exact (apartL_dst h hd he).2.1
    · exact (apartL_dst h he hd).2.2
  exact isA_keep (same_put hno) (same_putC hn) (hl x hx)

/-- Any of them may be taken first. -/
theorem front {c : Ctx} {base : Nat} {dst : Nat → Option Nat} {i : Nat} {o : Oper} {post : List (Nat × Oper)} : (pre : List (Nat × Oper)) → {σ : St} → {k : St → Option R} →
    (∀ x ∈ pre ++ (i, o) :: post, isA c base σ x.2 = true) → PW dst (pre ++ (i, o) :: post) →
    chainK c base (pre ++ (i, o) :: post) σ k = opK c σ (base + 8 * i) o fun σ => chainK c base (pre ++ post) σ k
  | [], σ, k, _, _ => rfl
  | (j, p) :: pre, σ, k, hA, hpw => by
    have hp := hA (j, p) (by simp)
    have ho := hA (i, o) (by simp)
    have hpw' : PW dst (pre ++ (i, o) :: post) := (List.pairwise_cons.1 hpw).2
    have hpo := (List.pairwise_cons.1 hpw).1 (i, o) (by simp)
    obtain ⟨d, X, hd, _, hX⟩ := aform hp
    have e : opK c σ (base + 8 * j) p (fun σ => chainK c base (pre ++ (i, o) :: post) σ k) = opK c σ (base + 8 * j) p (fun σ => opK c σ (base + 8 * i) o fun σ => chainK c base (pre ++ post) σ k) := by
      rw [hX.eq σ (fun _ _ => rfl) (fun _ _ _ h => h), hX.eq σ (fun _ _ => rfl) (fun _ _ _ h => h)]
      cases X with
      | none => rfl
      | some x =>
        simp only [Option.bind_some]
        exact front pre (after_one (dst := dst) hd (by omega) (fun y hy => hA y (by simp only [List.cons_append, List.mem_cons]; exact .inr hy)) (fun y hy => .inl ((List.pairwise_cons.1 hpw).1 y hy).2)) hpw'
    simp only [List.cons_append, chainK]
    rw [e]
    exact swapA (dst := dst) hpo.1 hp ho hpo.2 _

/-- What waits for an operation. -/
def WaitOK (ops : Array Oper) (B0 : List Nat) (done : List Nat) (b : Nat) : Prop :=
  ∃ Lt, Waits .any ops b Lt ∧ (∀ x ∈ Lt, x ∉ done ∧ x ∉ B0 ∧ x < ops.size) ∧ ∀ j oj, ops[j]? = some oj → j ∈ done ∨ j ∈ B0 ∨ j ∈ Lt

theorem bat_ok {c : Ctx} {base : Nat} {kS : St → Option R} {r : R} {f : Nat} {B0 : List (Nat × Oper)} {done0 doneE : List Nat} {g0 : Ghost} {w0 : World} {σ0 : St} (hc : CtxOK P c) (hget : ∀ x ∈ B0, ops[x.1]? = some x.2)
    (hd0 : ∀ x ∈ done0, x < ops.size) (hE : ∀ x, x ∈ doneE ↔ x ∈ done0 ∨ x ∈ B0.map Prod.fst)
    (HK : ∀ σ g a w listed, kS σ = some r → StOK c.ntmps g w a σ → Ext w0 g0 w g → (∀ m, Out base B0 m → Fresh g0 σ0 m → Fresh g σ m) → σ.next = σ0.next → Rel ops listed doneE → anyG P .any ops Q f listed a w) :
    (n : Nat) → {B : List (Nat × Oper)} → B.length = n → {σ : St} → {g : Ghost} → {a : Act} → {w : World} → {listed : Array Bool} → {done : List Nat} →
    (∀ x ∈ B, x ∈ B0) → (∀ x ∈ B, (x.1 ∉ done0 ∧ readyL done0 x.2 = true) ∧ WaitOK ops (B0.map Prod.fst) done0 x.1) → PW (dstOf ops.toList) B → (∀ x ∈ B, isA c base σ x.2 = true) → chainK c base B σ kS = some r → StOK c.ntmps g w a σ → FreshL g σ base B → Ext w0 g0 w g → (∀ m, Out base B0 m → Fresh g0 σ0 m → Fresh g σ m) → σ.next = σ0.next →
    Rel ops listed done → (∀ x, x ∈ done ↔ x ∈ done0 ∨ (x ∈ B0.map Prod.fst ∧ x ∉ B.map Prod.fst)) → anyG P .any ops Q (n + f) listed a w
  | 0, B, hl, σ, g, a, w, listed, done, hsub, hW, hpw, hA, hch, hst, hfr, hext, hfo, hnx, hrel, hdn => by
    have hB0 : B = [] := List.eq_nil_of_length_eq_zero hl
    subst hB0
    rw [Nat.zero_add]
    refine HK σ g a w listed hch hst hext hfo hnx (hrel.same fun x => ?_)
    rw [hdn, hE]; simp
  | n + 1, B, hl, σ, g, a, w, listed, done, hsub, hW, hpw, hA, hch, hst, hfr, hext, hfo, hnx, hrel, hdn => by
    have e0 : n + 1 + f = (n + f) + 1 := by omega
    rw [e0]
    have hdsz : ∀ x ∈ done, x < ops.size := by
      intro x hx
      rcases (hdn x).1 hx with h | h
      · exact hd0 x h
      · obtain ⟨y, hy, rfl⟩ := List.mem_map.1 h.1
        exact size_of (hget y hy)
    have hun : ∀ x ∈ B, x.1 ∉ done := by
      intro x hx hxd
      rcases (hdn x.1).1 hxd with h | h
      · exact (hW x hx).1.1 h
      · exact h.2 (List.mem_map.2 ⟨x, hx, rfl⟩)
    have hrd : ∀ x ∈ B, x.1 ∈ Region.ready .any ops listed := by
      intro x hx
      refine (readyL_iff hrel hdsz (hget x (hsub x hx))).2 ⟨hun x hx, ?_⟩
      have h1 := (hW x hx).1.2
      unfold readyL at h1 ⊢
      rw [allIn_iff] at h1 ⊢
      exact fun y hy => (hdn y).2 (.inl (h1 y hy))
    have honly : ∀ j, j ∈ Region.ready .any ops listed → ∃ o, (j, o) ∈ B := by
      intro j hj
      obtain ⟨hju, oj, hoj, _⟩ := mem_ready.1 hj
      have hjd := ((readyL_iff hrel hdsz hoj).1 hj).1
      cases hBc : B with
      | nil => rw [hBc] at hl; simp at hl
      | cons b Bt =>
        have hbB : b ∈ B := by rw [hBc]; simp
        obtain ⟨Lt, hw, hlt, hall⟩ := (hW b hbB).2
        rcases hall j oj hoj with h | h | h
        · exact absurd ((hdn j).2 (.inl h)) hjd
        · by_cases hjB : j ∈ B.map Prod.fst
          · obtain ⟨y, hy, rfl⟩ := List.mem_map.1 hjB
            exact ⟨y.2, by rw [← hBc]; exact hy⟩
          · exact absurd ((hdn j).2 (.inr ⟨h, hjB⟩)) hjd
        · exfalso
          refine waits_not hw (fun x hx => ?_) ?_ hj h
          · obtain ⟨h1, h2, h3⟩ := hlt x hx
            rw [hrel.getD h3]
            refine memN_false.2 fun hxd => ?_
            rcases (hdn x).1 hxd with h4 | h4
            · exact h1 h4
            · exact h2 h4.1
          · rw [hrel.getD (size_of (hget b (hsub b hbB)))]
            exact memN_false.2 (hun b hbB)
    refine ⟨fun h0 => ?_, fun j hj => ?_⟩
    · exfalso
      cases hBc : B with
      | nil => rw [hBc] at hl; simp at hl
      | cons b Bt =>
        have := hrd b (by rw [hBc]; simp)
        rw [h0] at this
        simp at this
    · obtain ⟨o, hjB⟩ := honly j hj
      obtain ⟨pre, post, rfl⟩ := List.append_of_mem hjB
      have hoj := hget _ (hsub _ hjB)
      have hA1 := hA _ hjB
      obtain ⟨d, X, hd, hg, hX⟩ := aform hA1
      rw [front pre hA hpw, hX.eq σ (fun _ _ => rfl) (fun _ _ _ h => h)] at hch
      have hsub' : ∀ x ∈ pre ++ post, x ∈ pre ++ (j, o) :: post := by
        intro x hx
        rcases List.mem_append.1 hx with h | h
        · exact List.mem_append.2 (.inl h)
        · exact List.mem_append.2 (.inr (List.mem_cons_of_mem _ h))
      have hpw' : PW (dstOf ops.toList) (pre ++ post) := by
        refine List.Pairwise.sublist ?_ hpw
        exact List.Sublist.append_left (List.sublist_cons_self _ _) pre
      have hapart : ∀ x ∈ pre ++ post, x.1 ≠ j ∧ (apartL (dstOf ops.toList) o x.2 = true ∨ apartL (dstOf ops.toList) x.2 o = true) := by
        intro x hx
        have h1 := List.pairwise_append.1 hpw
        rcases List.mem_append.1 hx with h | h
        · have := h1.2.2 x h (j, o) (by simp)
          exact ⟨this.1, .inr this.2⟩
        · have := (List.pairwise_cons.1 h1.2.1).1 x h
          exact ⟨fun he => this.1 he.symm, .inl this.2⟩
      cases X with
      | none => simp at hch
      | some x =>
        simp only [Option.bind_some] at hch
        -- the same, and what is left can be taken in any order again
        have hk' : opK c σ (base + 8 * j) o (fun σ1 => cond (allA c base σ1 (pre ++ post)) (chainK c base (pre ++ post) σ1 kS) none) = some r := by
          rw [hX.eq σ (fun _ _ => rfl) (fun _ _ _ h => h)]
          simp only [Option.bind_some]
          rw [allA_iff.2 (after_one (dst := dstOf ops.toList) hd (by omega) (fun y hy => hA y (hsub' y hy)) (fun y hy => (hapart y hy).2)), cond_true]
          exact hch
        have hop : o.wp P a w (fun a' w' => (isM o = false → Agree w w') ∧ anyG P .any ops Q (n + f) (listed.setIfInBounds j true) a' w') Q := by
          refine op_ok (base := base + 8 * j) hc hst (fun m h1 h2 => hfr (j, o) hjB m h1 h2) hk' ?_
          intro σ1 g1 a1 w1 h1 hst1 hext1 hf1 hn1 hag
          refine ⟨hag, ?_⟩
          simp only at h1
          cases hal : allA c base σ1 (pre ++ post) with
          | false => rw [hal] at h1; simp at h1
          | true =>
            rw [hal] at h1
            simp only [cond_true] at h1
            refine bat_ok hc hget hd0 hE HK n (B := pre ++ post) (by simp only [List.length_append, List.length_cons] at hl ⊢; omega) (fun y hy => hsub y (hsub' y hy)) (fun y hy => hW y (hsub' y hy)) hpw' (allA_iff.1 hal) h1 hst1
              (fun y hy m q1 q2 => hf1 m ?_ (hfr y (hsub' y hy) m q1 q2)) (hext.trans hext1) (fun m hm hf => hf1 m ?_ (hfo m hm hf)) (hn1.trans hnx) hrel.add (fun y => ?_)
            · have := (hapart y hy).1; omega
            · have := hm (j, o) (hsub _ hjB)
              simp only at this; omega
            · simp only [List.mem_cons, hdn]
              have hjid : j ∈ B0.map Prod.fst := List.mem_map.2 ⟨(j, o), hsub _ hjB, rfl⟩
              have hnj : j ∉ (pre ++ post).map Prod.fst := by
                intro h
                obtain ⟨z, hz, he⟩ := List.mem_map.1 h
                exact (hapart z hz).1 he
              have hmem : ∀ y, y ∈ (pre ++ (j, o) :: post).map Prod.fst ↔ y = j ∨ y ∈ (pre ++ post).map Prod.fst := by
                intro y
                simp only [List.map_append, List.map_cons, List.mem_append, List.mem_cons]
                constructor
                · rintro (h | h | h)
                  · exact .inr (.inl h)
                  · exact .inl h
                  · exact .inr (.inr h)
                · rintro (h | h | h)
                  · exact .inr (.inl h)
                  · exact .inl h
                  · exact .inr (.inr h)
              rw [hmem]
              constructor
              · rintro (rfl | h | ⟨h, h2⟩)
                · exact .inr ⟨hjid, hnj⟩
                · exact .inl h
                · exact .inr ⟨h, fun h3 => h2 (.inr h3)⟩
              · rintro (h | ⟨h, h2⟩)
                · exact .inr (.inl h)
                · by_cases he : y = j
                  · exact .inl he
                  · exact .inr (.inr ⟨h, fun h3 => h3.elim he h2⟩)
        unfold Go.wpOp
        simp only [hoj]
        have hw : Region.wanted o (yielded ops a.tmps) = true := wanted_none hg
        rw [if_pos hw]
        left
        refine Oper.wp_mono (fun a' w' hh => ⟨fun o' ho' hm => hh.1 (by simp only [Option.some.injEq] at ho'; rw [ho']; exact hm), hh.2⟩) hop

/-! ## An append besides -/
section
variable {c : Ctx} {base n : Nat} {σ σ' : St} {p : Oper}

theorem fetchK_objs (h : σ'.objs = σ.objs) {id : Nat} {q : Path} {ep : Nat} {k : (u : Ty) → List u.den → Option R} : fetchK σ' id q ep k = fetchK σ id q ep k := by unfold fetchK; rw [h]
theorem efetchK_objs (h : σ'.objs = σ.objs) {id : Nat} {q : Path} {ep : Nat} {k : (u : Ty) → u.den → Option R} : efetchK σ' id q ep k = efetchK σ id q ep k := by unfold efetchK; rw [h]
theorem bfetchK_objs (h : σ'.objs = σ.objs) {id : Nat} {q : Path} {k : AVal → Option R} : bfetchK σ' id q k = bfetchK σ id q k := by unfold bfetchK; rw [h]
theorem asData_objs (h : σ'.objs = σ.objs) : (n : Nat) → {R : Type} → {a : AVal} → {t : Ty} → {k : t.den → Option R} → asData σ' n a t k = asData σ n a t k
  | 0, _, _, _, _ => rfl
  | n + 1, _, .data _ _, t, k => rfl
  | n + 1, _, .nilS, t, k => rfl
  | n + 1, _, .ref _ _ _, t, k => by simp only [asData, fetchK_objs h]
  | n + 1, _, .view _ _ _ _ _, t, k => by simp only [asData, fetchK_objs h]
  | n + 1, _, .bptr id q, t, k => by
    cases t with
    | ptr t =>
      simp only [asData, bfetchK_objs h]
      congr 1
      funext a
      exact asData_objs h n
    | _ => rfl
  | n + 1, _, .eptr _ _ _, t, k => by cases t <;> first | rfl | simp only [asData, efetchK_objs h]
  | n + 1, _, .clos f c, t, k => by
    cases t with
    | fn g u => simp only [asData, asData_objs h n]
    | _ => rfl
  | n + 1, _, .agg c, t, k => by simp only [asData, asData_objs h n]
  | n + 1, _, .pr a b, t, k => by
    cases t with
    | pair t u => simp only [asData, asData_objs h n]
    | _ => rfl
  | n + 1, _, .un, t, k => by cases t <;> rfl
  | n + 1, _, .tup _, t, k => by cases t <;> rfl
  | n + 1, _, .mref _, t, k => by cases t <;> rfl

theorem fetchK_bind {id : Nat} {q : Path} {ep : Nat} {k : (u : Ty) → List u.den → Option R} : fetchK σ id q ep k = (fetchK σ id q ep fun u l => some (AVal.data (.sl false u) l)).bind fun v => match v with
    | .data (.sl false u) l => k u l
    | _ => none := by
  unfold fetchK
  cases σ.objs id with
  | none => rfl
  | some o =>
    cases o with
    | row t l e =>
      simp only
      cases Nat.beq e ep with
      | false => rfl
      | true =>
        simp only [cond_true, rowK]
        conv => lhs; rw [getK_bind]
        conv => rhs; arg 1; rw [getK_bind]
        cases getK (Ty.sl true t) l q (fun u e => some (AVal.data u e)) with
        | none => rfl
        | some v =>
          cases v with
          | data u e =>
            cases u with
            | sl o u => cases o <;> rfl
            | _ => rfl
          | _ => rfl
    | _ => rfl
theorem asData_cps : (n : Nat) → {R : Type} → {a : AVal} → {t : Ty} → {k : t.den → Option R} → asData σ n a t k = (asData σ n a t some).bind k
  | 0, _, _, _, _ => rfl
  | n + 1, _, .data _ _, t, k => by simp only [asData]; exact castK_bind
  | n + 1, _, .nilS, t, k => by
    simp only [asData]
    cases t.isRo with
    | false => rfl
    | true => exact nilK_bind
  | n + 1, _, .ref id q ep, t, k => by
    simp only [asData]
    rw [fetchK_bind, fetchK_bind (k := fun v l => castK (Ty.ro (.sl false v)) t (Ty.toRo (.sl false v) l) some)]
    cases fetchK σ id q ep fun u l => some (AVal.data (.sl false u) l) with
    | none => rfl
    | some v =>
      cases v with
      | data u e =>
        cases u with
        | sl o u =>
          cases o with
          | false => exact castK_bind
          | true => rfl
        | _ => rfl
      | _ => rfl
  | n + 1, _, .view id q ep x y, t, k => by
    simp only [asData]
    rw [fetchK_bind, fetchK_bind (k := fun v l => castK (Ty.ro (.sl false v)) t (Ty.toRo (.sl false v) (sub l x y)) some)]
    cases fetchK σ id q ep fun u l => some (AVal.data (.sl false u) l) with
    | none => rfl
    | some v =>
      cases v with
      | data u e =>
        cases u with
        | sl o u =>
          cases o with
          | false => exact castK_bind
          | true => rfl
        | _ => rfl
      | _ => rfl
  | n + 1, _, .bptr id q, t, k => by
    cases t with
    | ptr t =>
      simp only [asData, bfetchK]
      cases σ.objs id with
      | none => rfl
      | some o =>
        cases o with
        | cell a =>
          simp only
          rw [getA_bind, getA_bind (k := fun a => asData σ n a t some)]
          cases getA a q some with
          | none => rfl
          | some b => exact asData_cps n
        | _ => rfl
    | _ => rfl
  | n + 1, _, .eptr id q ep, t, k => by
    cases t with
    | ptr t =>
      simp only [asData, efetchK]
      cases σ.objs id with
      | none => rfl
      | some o =>
        cases o with
        | row t' l e =>
          simp only
          cases Nat.beq e ep with
          | false => rfl
          | true =>
            simp only [cond_true, rowK]
            rw [getK_bind, getK_bind (k := fun u d => castK u.ro t (Ty.toRo u d) some)]
            cases getK (Ty.sl true t') l q (fun u e => some (AVal.data u e)) with
            | none => rfl
            | some v =>
              cases v with
              | data u e => exact castK_bind
              | _ => rfl
        | _ => rfl
    | _ => rfl
  | n + 1, _, .clos f c, t, k => by
    cases t with
    | fn g u =>
      simp only [asData]
      cases Nat.beq f g with
      | false => rfl
      | true => exact asData_cps n
    | _ => rfl
  | n + 1, _, .agg c, t, k => by simp only [asData]; exact asData_cps n
  | n + 1, _, .pr a b, t, k => by
    cases t with
    | pair t u =>
      simp only [asData]
      rw [asData_cps n, asData_cps n (k := fun x => asData σ n b u fun y => some (x, y))]
      cases asData σ n a t some with
      | none => rfl
      | some x =>
        simp only [Option.bind_some]
        rw [asData_cps n, asData_cps n (k := fun y => some (x, y))]
        cases asData σ n b u some <;> rfl
    | _ => rfl
  | n + 1, _, .un, t, k => by cases t <;> rfl
  | n + 1, _, .tup _, t, k => by cases t <;> rfl
  | n + 1, _, .mref _, t, k => by cases t <;> rfl

theorem tailK_bind {t : Ty} {x : AVal} {f : List t.den → Option R} : tailK σ t x f = (tailK σ t x some).bind f := by
  unfold tailK
  cases (t.isRo && x.val) with
  | false => rfl
  | true => exact asData_cps 20
theorem tailK_objs (h : σ'.objs = σ.objs) {t : Ty} {x : AVal} {f : List t.den → Option R} : tailK σ' t x f = tailK σ t x f := by
  unfold tailK
  rw [asData_objs h 20]
theorem elemTy_objs (h : σ'.objs = σ.objs) (x : AVal) : elemTy σ' x = elemTy σ x := by
  cases x <;> first | rfl | simp only [elemTy, fetchK_objs h]

/-- What an append makes. -/
def appD (σ : St) (n : Nat) (u : Ty) (s x : AVal) : Option (Nat × Nat × Obj) :=
  match s with
  | .nilS => match elemTy σ x with
    | some t => cond (t.sk.same u.sk) ((tailK σ t x some).bind fun m => chk (decide (m.length ≤ room)) (some (n, 1, .row t m 1))) none
    | none => none
  | .ref id [] ep => match σ.objs id with
    | some (.row t l e) => cond (Nat.beq e ep && t.sk.same u.sk) ((tailK σ t x some).bind fun m => chk (decide (l.length + m.length ≤ room)) (some (id, e + 1, .row t (l ++ m) (e + 1)))) none
    | _ => none
  | .view id [] ep a b => match σ.objs id with
    | some (.row t l e) => cond (Nat.beq e ep && t.sk.same u.sk) ((tailK σ t x some).bind fun m => chk (decide ((sub l a b).length + m.length ≤ room)) (some (id, e + 2, .row t (sub l a b ++ m) (e + 2)))) none
    | _ => none
  | _ => none
theorem chk_bind {α : Type} {b : Bool} {x : Option α} {f : α → Option R} : (chk b x).bind f = chk b (x.bind f) := by cases b <;> rfl
theorem appendK_D {u : Ty} {s x : AVal} {f : AVal → St → Option R} : appendK σ n u s x f = (appD σ n u s x).bind fun y => f (.ref y.1 [] y.2.1) (σ.setObj y.1 y.2.2) := by
  unfold appendK appD
  cases s with
  | nilS =>
    simp only
    cases elemTy σ x with
    | none => rfl
    | some t =>
      simp only
      cases t.sk.same u.sk with
      | false => rfl
      | true =>
        simp only [cond_true]
        rw [tailK_bind]
        cases tailK σ t x some with
        | none => rfl
        | some m => simp only [Option.bind_some, chk_bind]
  | ref id q ep =>
    cases q with
    | cons _ _ => rfl
    | nil =>
      simp only
      cases σ.objs id with
      | none => rfl
      | some o =>
        cases o with
        | row t l e =>
          simp only
          cases (Nat.beq e ep && t.sk.same u.sk) with
          | false => rfl
          | true =>
            simp only [cond_true]
            rw [tailK_bind]
            cases tailK σ t x some with
            | none => rfl
            | some m => simp only [Option.bind_some, chk_bind]
        | _ => rfl
  | view id q ep a b =>
    cases q with
    | cons _ _ => rfl
    | nil =>
      simp only
      cases σ.objs id with
      | none => rfl
      | some o =>
        cases o with
        | row t l e =>
          simp only
          cases (Nat.beq e ep && t.sk.same u.sk) with
          | false => rfl
          | true =>
            simp only [cond_true]
            rw [tailK_bind]
            cases tailK σ t x some with
            | none => rfl
            | some m => simp only [Option.bind_some, chk_bind]
        | _ => rfl
  | _ => rfl
theorem appD_objs (h : σ'.objs = σ.objs) {u : Ty} {s x : AVal} : appD σ' n u s x = appD σ n u s x := by
  unfold appD
  simp only [h, elemTy_objs h, tailK_objs h]
theorem appD_row {u : Ty} {s x : AVal} {y : Nat × Nat × Obj} (h : appD σ n u s x = some y) : y.1 = n ∨ ∃ t l e, σ.objs y.1 = some (.row t l e) := by
  unfold appD at h
  split at h
  · split at h
    · rename_i t _
      cases hb : t.sk.same u.sk with
      | false => rw [hb] at h; simp at h
      | true =>
        rw [hb] at h
        simp only [cond_true, Option.bind_eq_some_iff] at h
        obtain ⟨m, _, h⟩ := h
        cases hc : decide (m.length ≤ room) with
        | false => rw [hc] at h; simp [chk] at h
        | true => rw [hc] at h; simp only [chk, cond_true, Option.some.injEq] at h; subst h; exact .inl rfl
    · simp at h
  · split at h
    · rename_i t l e ho
      generalize (Nat.beq e _ && t.sk.same u.sk) = B at h
      cases B with
      | false => simp at h
      | true =>
        simp only [cond_true, Option.bind_eq_some_iff] at h
        obtain ⟨m, _, h⟩ := h
        cases hc : decide (l.length + m.length ≤ room) with
        | false => rw [hc] at h; simp [chk] at h
        | true => rw [hc] at h; simp only [chk, cond_true, Option.some.injEq] at h; subst h; exact .inr ⟨_, _, _, ho⟩
    · simp at h
  · split at h
    · rename_i t l e ho
      generalize (Nat.beq e _ && t.sk.same u.sk) = B at h
      cases B with
      | false => simp at h
      | true =>
        simp only [cond_true, Option.bind_eq_some_iff] at h
        obtain ⟨m, _, h⟩ := h
        generalize decide (_ ≤ room) = C at h
        cases C with
        | false => simp [chk] at h
        | true => simp only [chk, cond_true, Option.some.injEq] at h; subst h; exact .inr ⟨_, _, _, ho⟩
    · simp at h
  · simp at h

/-- An append, wherever the objects and the values that it takes stand as they do. -/
structure AppForm (c : Ctx) (n : Nat) (σ : St) (p : Oper) (Y : Option (Nat × Nat × Obj)) : Prop where
  row : ∀ y, Y = some y → y.1 = n ∨ ∃ t l e, σ.objs y.1 = some (.row t l e)
  eq : ∀ σ', SameAt p.op.operands.toList σ σ' → σ'.objs = σ.objs → ∀ (R : Type) (k : St → Option R), opK c σ' n p k = Y.bind fun y => (σ'.setObj y.1 y.2.2).putK c p.dst (.ref y.1 [] y.2.1) k
theorem appform (c : Ctx) (n : Nat) (σ : St) (h : isApp p = true) : ∃ Y, p.guard = none ∧ AppForm c n σ p Y := by
  unfold isApp at h
  simp only [Bool.and_eq_true] at h
  obtain ⟨hg, ho⟩ := h
  have hg' : p.guard = none := by
    cases hgg : p.guard with
    | none => rfl
    | some _ => rw [hgg] at hg; simp at hg
  cases hop : p.op with
  | call cl =>
    rw [hop] at ho
    obtain ⟨callee, args, ts⟩ := cl
    cases callee with
    | builtin b =>
      cases b with
      | append =>
        have hj : isJunk p = false := by simp [isJunk, hop]
        have ham : ∀ x ∈ args.toList, x ∈ p.op.operands.toList := by
          intro x hx
          rw [hop]
          simp [Op.operands, Call.operands, hx]
        refine ⟨(match args.toList, ts.toList with
          | [x, y], [t, t'] => (match ev σ x, ev σ y, c.tt t with
            | some a, some b, some (.sl _ u) => cond (Nat.beq t t') (appD σ n u a b) none
            | _, _, _ => none)
          | _, _ => none), hg', ⟨fun y hy => ?_, fun σ' hs ho' R k => ?_⟩⟩
        · split at hy
          · split at hy
            · rename_i t t' _ _ _ _ _ a b _ u _ _ _
              generalize hB : Nat.beq t t' = B at hy
              cases B with
              | false => simp at hy
              | true => simp only [cond_true] at hy; exact appD_row hy
            · simp at hy
          · simp at hy
        · simp only [opK, hj, cond_false, opK0, hop]
          generalize hal : args.toList = al at ham
          generalize ts.toList = tl
          match al, tl, ham with
          | [x, y], [t, t'], ham =>
            simp only [ev_same hs (ham x (by simp)), ev_same hs (ham y (by simp))]
            cases ev σ x with
            | none => rfl
            | some a =>
              cases ev σ y with
              | none => rfl
              | some b =>
                cases c.tt t with
                | none => rfl
                | some T =>
                  cases T with
                  | sl ow u =>
                    simp only
                    cases Nat.beq t t' with
                    | false => rfl
                    | true =>
                      simp only [cond_true]
                      rw [appendK_D, appD_objs ho']
                  | _ => rfl
          | [], _, _ => rfl
          | [_], _, _ => rfl
          | _ :: _ :: _ :: _, _, _ => rfl
          | [_, _], [], _ => rfl
          | [_, _], [_], _ => rfl
          | [_, _], _ :: _ :: _ :: _, _ => rfl
      | _ => simp at ho
    | _ => simp at ho
  | _ => rw [hop] at ho; simp at ho

theorem set_swap {σ : St} {d e i : Nat} {v w : AVal} {o : Obj} (h : d ≠ e) : (((σ.set d v).setObj i o).set e w) = (((σ.setObj i o).set e w).set d v) := by
  refine St.ext' ?_ rfl rfl
  funext x
  simp only [St.set, St.setObj, upd]
  cases hx : Nat.beq x e with
  | true =>
    have := Nat.eq_of_beq_eq_true hx
    subst this
    have : Nat.beq x d = false := by
      cases hb : Nat.beq x d with
      | false => rfl
      | true => exact absurd (Nat.eq_of_beq_eq_true hb).symm h
    rw [this]; rfl
  | false => rfl

theorem apart_load {dst : Nat → Option Nat} {o : Oper} {d : Nat} (h : apartL dst o p = true) (hd : o.dst = some d) : (.tmp d) ∉ p.op.operands.toList ∧ p.dst ≠ some d ∧ ∀ e, p.dst = some e → (.tmp e) ∉ o.op.operands.toList := by
  unfold apartL at h
  rw [hd] at h
  simp only [Bool.and_eq_true, Bool.not_eq_true'] at h
  obtain ⟨⟨h1, h2⟩, h3⟩ := h
  refine ⟨fun hm => ?_, fun he => ?_, fun e he hm => ?_⟩
  · simp only [looksL, Bool.or_eq_false_iff] at h1
    rw [memN_false] at h1
    exact h1.1 (tmpsL_mem.2 hm)
  · rw [he] at h2
    simp [Nat.beq_refl] at h2
  · rw [he] at h3
    simp only [looksL, Bool.not_eq_true', Bool.or_eq_false_iff] at h3
    rw [memN_false] at h3
    exact h3.1 (tmpsL_mem.2 hm)

/-- Loads and an append, either way. -/
theorem app_move {dst : Nat → Option Nat} {k : St → Option R} (hp : isApp p = true) (hn : base ≤ n) : (B : List (Nat × Oper)) → {σ : St} → (∀ x ∈ B, isLoad x.2 = true ∧ isA c base σ x.2 = true ∧ apartL dst x.2 p = true) → PW dst B →
    chainK c base B σ (fun σ => opK c σ n p k) = opK c σ n p (fun σ1 => cond (allA c base σ1 B) (chainK c base B σ1 k) none)
  | [], σ, _, _ => rfl
  | (i, o) :: B, σ, hB, hpw => by
    obtain ⟨hl, hA, hap⟩ := hB (i, o) (by simp)
    simp only at hl hA hap
    obtain ⟨d, X, hd, _, hX⟩ := aform hA
    obtain ⟨Y, _, hY⟩ := appform c n σ hp
    obtain ⟨a1, a2, a3⟩ := apart_load hap hd
    have hrest := (List.pairwise_cons.1 hpw).1
    -- what stands behind the append
    have hstay : ∀ y, Y = some y → ∀ e' : Option Nat, p.dst = e' → ∀ σ1, σ1 = (match e' with
        | some e => (σ.setObj y.1 y.2.2).set e (.ref y.1 [] y.2.1)
        | none => σ.setObj y.1 y.2.2) → SameC base σ σ1 ∧ ∀ x ∈ (i, o) :: B, SameAt x.2.op.operands.toList σ σ1 := by
      intro y hy e' he' σ1 hσ1
      refine ⟨fun id b hid hcell => ?_, fun x hx t ht => ?_⟩
      · have h1 : σ1.objs = (σ.setObj y.1 y.2.2).objs := by subst hσ1; cases e' <;> rfl
        rw [h1]
        simp only [St.setObj, upd]
        cases hb : Nat.beq id y.1 with
        | false => exact hcell
        | true =>
          have he := Nat.eq_of_beq_eq_true hb
          rcases hY.row y hy with h2 | ⟨t, l, e, h2⟩
          · omega
          · rw [← he, hcell] at h2; simp at h2
      · subst hσ1
        cases e' with
        | none => rfl
        | some e =>
          obtain ⟨_, hAx, hapx⟩ := hB x hx
          obtain ⟨dx, _, hdx, _, _⟩ := aform hAx
          have := (apart_load hapx hdx).2.2 e he'
          simp only [St.set, St.setObj, upd]
          cases hb : Nat.beq t e with
          | false => rfl
          | true => exact absurd (Nat.eq_of_beq_eq_true hb ▸ ht) this
    simp only [chainK]
    rw [hX.eq σ (fun _ _ => rfl) (fun _ _ _ h => h), hY.eq σ (fun _ _ => rfl) rfl]
    cases hYc : Y with
    | none =>
      subst hYc
      cases X with
      | none => rfl
      | some x =>
        simp only [Option.bind_some, Option.bind_none]
        have hl0 := hX.load hl x rfl (base + 8 * i)
        rw [hl0.1, hl0.2]
        simp only [St.addObjs]
        rw [app_move hp hn B (fun z hz => ⟨(hB z (by simp [hz])).1, ?_, (hB z (by simp [hz])).2.2⟩) (List.pairwise_cons.1 hpw).2]
        · rw [hY.eq (σ.set d (x 0).1) (by have := same_put (σ := σ) (n := 0) (v := (x 0).1) (os := []) a1; exact this) rfl]
          rfl
        · have := after_one (dst := dst) (n := base) (os := []) (v := (x 0).1) hd (Nat.le_refl _) (l := B) (fun z hz => (hB z (by simp [hz])).2.1) (fun z hz => .inl (hrest z hz).2) z hz
          exact this
    | some y =>
      -- the others still stand
      have hkeep : ∀ σ1, σ1 = (match p.dst with
          | some e => (σ.setObj y.1 y.2.2).set e (.ref y.1 [] y.2.1)
          | none => σ.setObj y.1 y.2.2) → allA c base σ1 ((i, o) :: B) = true := by
        intro σ1 hσ1
        obtain ⟨h1, h2⟩ := hstay y hYc p.dst rfl σ1 (hσ1.trans (by cases p.dst <;> rfl))
        rw [allA_iff]
        exact fun x hx => isA_keep (h2 x hx) h1 (hB x hx).2.1
      have hput : ∀ {R : Type} (τ : St) (v : AVal) (k k' : St → Option R), (∀ σ1, σ1 = (match p.dst with
          | some e => τ.set e v
          | none => τ) → k σ1 = k' σ1) → τ.putK c p.dst v k = τ.putK c p.dst v k' := by
        intro R τ v k k' h
        cases hpd : p.dst with
        | none => rw [hpd] at h; exact h _ rfl
        | some e =>
          rw [hpd] at h
          simp only [St.putK]
          cases Nat.blt e c.ntmps with
          | false => rfl
          | true => exact h _ rfl
      cases X with
      | none =>
        simp only [Option.bind_none, Option.bind_some]
        have : (σ.setObj y.1 y.2.2).putK c p.dst (.ref y.1 [] y.2.1) (fun σ1 => cond (allA c base σ1 ((i, o) :: B)) (opK c σ1 (base + 8 * i) o fun σ => chainK c base B σ k) none) = (σ.setObj y.1 y.2.2).putK c p.dst (.ref y.1 [] y.2.1) (fun _ => (none : Option R)) := by
          refine hput _ _ _ _ fun σ1 hσ1 => ?_
          obtain ⟨h1, h2⟩ := hstay y hYc p.dst rfl σ1 (hσ1.trans (by cases p.dst <;> rfl))
          rw [hkeep σ1 (hσ1.trans (by cases p.dst <;> rfl)), cond_true, hX.eq σ1 (h2 (i, o) (by simp)) h1]
          rfl
        rw [this]
        cases p.dst with
        | none => rfl
        | some e => simp only [St.putK]; cases Nat.blt e c.ntmps <;> rfl
      | some x =>
        have hl0 := hX.load hl x rfl (base + 8 * i)
        simp only [Option.bind_some]
        rw [hl0.1, hl0.2]
        simp only [St.addObjs]
        rw [app_move hp hn B (fun z hz => ⟨(hB z (by simp [hz])).1, ?_, (hB z (by simp [hz])).2.2⟩) (List.pairwise_cons.1 hpw).2]
        · rw [hY.eq (σ.set d (x 0).1) (by have := same_put (σ := σ) (n := 0) (v := (x 0).1) (os := []) a1; exact this) rfl, hYc]
          simp only [Option.bind_some]
          have e1 : ∀ {R : Type} (k : St → Option R), ((σ.set d (x 0).1).setObj y.1 y.2.2).putK c p.dst (.ref y.1 [] y.2.1) k = (σ.setObj y.1 y.2.2).putK c p.dst (.ref y.1 [] y.2.1) fun σ1 => k (σ1.set d (x 0).1) := by
            intro R k
            cases hpd : p.dst with
            | none => rfl
            | some e =>
              simp only [St.putK]
              cases Nat.blt e c.ntmps with
              | false => rfl
              | true =>
                simp only [cond_true]
                rw [set_swap (fun h => a2 (by rw [hpd, h]))]
          rw [e1]
          refine hput _ _ _ _ fun σ1 hσ1 => ?_
          obtain ⟨h1, h2⟩ := hstay y hYc p.dst rfl σ1 (hσ1.trans (by cases p.dst <;> rfl))
          have hall := hkeep σ1 (hσ1.trans (by cases p.dst <;> rfl))
          rw [hall, cond_true, hX.eq σ1 (h2 (i, o) (by simp)) h1]
          have hl1 := hX.load hl x rfl (base + 8 * i)
          simp only [Option.bind_some]
          rw [hl1.1, hl1.2]
          simp only [St.addObjs]
          have hall2 : allA c base (σ1.set d (x 0).1) B = true := by
            rw [allA_iff]
            rw [allA_iff] at hall
            exact after_one (dst := dst) (n := base) (os := []) (v := (x 0).1) hd (Nat.le_refl _) (l := B) (fun z hz => hall z (by simp [hz])) (fun z hz => .inl (hrest z hz).2)
          rw [hall2, cond_true]
        · have := after_one (dst := dst) (n := base) (os := []) (v := (x 0).1) hd (Nat.le_refl _) (l := B) (fun z hz => (hB z (by simp [hz])).2.1) (fun z hz => .inl (hrest z hz).2) z hz
          exact this
end

def TwoGoal (P : Program) (ops : Array Oper) (Q : Exit → Act → World → Prop) (c : Ctx) (base : Nat) (kS : St → Option R) (r : R) (f : Nat) (B1 : List (Nat × Oper)) (j : Nat) (p : Oper) (done0 : List Nat) (g0 : Ghost) (w0 : World) (σ0 : St) (n : Nat) : Prop :=
  ∀ (B : List (Nat × Oper)), B.length = n → ∀ {σ : St} {g : Ghost} {a : Act} {w : World} {listed : Array Bool} {done : List Nat},
    (∀ x ∈ B, x ∈ B1) → (∀ x ∈ B, (x.1 ∉ done0 ∧ readyL done0 x.2 = true ∧ x.1 ≠ j) ∧ (isLoad x.2 = true → WaitOK ops ((B1 ++ [(j, p)]).map Prod.fst) done0 x.1) ∧ (isLoad x.2 = false → x.1 ∈ edgeOns p.after.toList) ∧ (isLoad x.2 = true → apartL (dstOf ops.toList) x.2 p = true)) →
    PW (dstOf ops.toList) B → (∀ x ∈ B, isA c base σ x.2 = true) → chainK c base B σ (fun σ => opK c σ (base + 8 * j) p kS) = some r → StOK c.ntmps g w a σ → FreshL g σ base (B ++ [(j, p)]) → Ext w0 g0 w g → (∀ m, Out base (B1 ++ [(j, p)]) m → Fresh g0 σ0 m → Fresh g σ m) → σ.next = σ0.next →
    Rel ops listed done → (∀ x, x ∈ done ↔ x ∈ done0 ∨ (x ∈ (B1 ++ [(j, p)]).map Prod.fst ∧ x ∉ (B ++ [(j, p)]).map Prod.fst)) → anyG P .any ops Q (n + 1 + f) listed a w

theorem two_step {c : Ctx} {base : Nat} {kS : St → Option R} {r : R} {f : Nat} {B1 : List (Nat × Oper)} {j : Nat} {p : Oper} {done0 doneE : List Nat} {g0 : Ghost} {w0 : World} {σ0 : St} {n : Nat} (hc : CtxOK P c) (hget : ∀ x ∈ B1, ops[x.1]? = some x.2) (hgp : ops[j]? = some p)
    (hd0 : ∀ x ∈ done0, x < ops.size) (hjd : j ∉ done0) (hE : ∀ x, x ∈ doneE ↔ x ∈ done0 ∨ x ∈ (B1 ++ [(j, p)]).map Prod.fst) (hjB1 : ∀ {x : Nat × Oper}, x ∈ B1 → x.1 = j → False) (hap : isApp p = true) (hdeps : ∀ x ∈ edgeOns p.after.toList, x ∈ addDone B1 done0) (hWj : WaitOK ops ((B1 ++ [(j, p)]).map Prod.fst) done0 j)
    (HK : ∀ σ g a w listed, kS σ = some r → StOK c.ntmps g w a σ → Ext w0 g0 w g → (∀ m, Out base (B1 ++ [(j, p)]) m → Fresh g0 σ0 m → Fresh g σ m) → σ.next = σ0.next → Rel ops listed doneE → anyG P .any ops Q f listed a w)
    (ih : ∀ m, m + 1 = n → TwoGoal P ops Q c base kS r f B1 j p done0 g0 w0 σ0 m) : TwoGoal P ops Q c base kS r f B1 j p done0 g0 w0 σ0 n := by
  intro B hl σ g a w listed done hsub hW hpw hA hch hst hfr hext hfo hnx hrel hdn
  have e0 : n + 1 + f = (n + f) + 1 := by omega
  rw [e0]
  have hids : ∀ (L : List (Nat × Oper)) x, x ∈ (L ++ [(j, p)]).map Prod.fst ↔ x = j ∨ x ∈ L.map Prod.fst := by
    intro L x; simp [or_comm]
  have hgetB0 : ∀ x ∈ B1 ++ [(j, p)], ops[x.1]? = some x.2 := by
    intro x hx
    rcases List.mem_append.1 hx with hx | hx
    · exact hget x hx
    · simp only [List.mem_singleton] at hx; subst hx; exact hgp
  have hdsz : ∀ x ∈ done, x < ops.size := by
    intro x hx
    rcases (hdn x).1 hx with h | h
    · exact hd0 x h
    · obtain ⟨y, hy, rfl⟩ := List.mem_map.1 h.1
      exact size_of (hgetB0 y hy)
  have hun : ∀ x ∈ B, x.1 ∉ done := by
    intro x hx hxd
    rcases (hdn x.1).1 hxd with h | h
    · exact (hW x hx).1.1 h
    · exact h.2 ((hids B x.1).2 (.inr (List.mem_map.2 ⟨x, hx, rfl⟩)))
  have hjn : j ∉ done := by
    intro hxd
    rcases (hdn j).1 hxd with h | h
    · exact hjd h
    · exact h.2 ((hids B j).2 (.inl rfl))
  have hrd : ∀ x ∈ B, x.1 ∈ Region.ready .any ops listed := by
    intro x hx
    refine (readyL_iff hrel hdsz (hget x (hsub x hx))).2 ⟨hun x hx, ?_⟩
    have h1 := (hW x hx).1.2.1
    unfold readyL at h1 ⊢
    rw [allIn_iff] at h1 ⊢
    exact fun y hy => (hdn y).2 (.inl (h1 y hy))
  have honly : ∀ i, i ∈ Region.ready .any ops listed → (∃ o, (i, o) ∈ B) ∨ i = j := by
    intro i hi
    obtain ⟨_, oi, hoi, _⟩ := mem_ready.1 hi
    have hid := ((readyL_iff hrel hdsz hoi).1 hi).1
    obtain ⟨Lt, hw, hlt, hall⟩ := hWj
    rcases hall i oi hoi with h | h | h
    · exact absurd ((hdn i).2 (.inl h)) hid
    · by_cases hiB : i ∈ (B ++ [(j, p)]).map Prod.fst
      · rcases (hids B i).1 hiB with h2 | h2
        · exact .inr h2
        · obtain ⟨y, hy, rfl⟩ := List.mem_map.1 h2
          exact .inl ⟨y.2, hy⟩
      · exact absurd ((hdn i).2 (.inr ⟨h, hiB⟩)) hid
    · exfalso
      refine waits_not hw (fun x hx => ?_) ?_ hi h
      · obtain ⟨h1, h2, h3⟩ := hlt x hx
        rw [hrel.getD h3]
        refine memN_false.2 fun hxd => ?_
        rcases (hdn x).1 hxd with h4 | h4
        · exact h1 h4
        · exact h2 h4.1
      · rw [hrel.getD (size_of hgp)]
        exact memN_false.2 hjn
  refine ⟨fun h0 => ?_, fun i hi => ?_⟩
  · exfalso
    cases hBc : B with
    | nil =>
      have : j ∈ Region.ready .any ops listed := by
        refine (readyL_iff hrel hdsz hgp).2 ⟨hjn, ?_⟩
        unfold readyL
        rw [allIn_iff]
        intro y hy
        rw [hdn]
        rcases addDone_mem.1 (hdeps y hy) with h | h
        · exact .inl h
        · refine .inr ⟨(hids B1 y).2 (.inr h), fun h2 => ?_⟩
          rw [hBc] at h2
          rcases (hids [] y).1 h2 with h3 | h3
          · subst h3
            obtain ⟨z, hz, hze⟩ := List.mem_map.1 h
            exact hjB1 hz hze
          · simp at h3
      rw [h0] at this
      simp at this
    | cons b Bt =>
      have := hrd b (by rw [hBc]; simp)
      rw [h0] at this
      simp at this
  · rcases honly i hi with ⟨o, hiB⟩ | rfl
    · obtain ⟨pre, post, rfl⟩ := List.append_of_mem hiB
      have hoi := hget _ (hsub _ hiB)
      have hA1 := hA _ hiB
      obtain ⟨d, X, hd, hg, hX⟩ := aform hA1
      rw [front pre hA hpw, hX.eq σ (fun _ _ => rfl) (fun _ _ _ h => h)] at hch
      have hsub' : ∀ x ∈ pre ++ post, x ∈ pre ++ (i, o) :: post := by
        intro x hx
        rcases List.mem_append.1 hx with h | h
        · exact List.mem_append.2 (.inl h)
        · exact List.mem_append.2 (.inr (List.mem_cons_of_mem _ h))
      have hpw' : PW (dstOf ops.toList) (pre ++ post) := by
        refine List.Pairwise.sublist ?_ hpw
        exact List.Sublist.append_left (List.sublist_cons_self _ _) pre
      have hapart : ∀ x ∈ pre ++ post, x.1 ≠ i ∧ (apartL (dstOf ops.toList) o x.2 = true ∨ apartL (dstOf ops.toList) x.2 o = true) := by
        intro x hx
        have h1 := List.pairwise_append.1 hpw
        rcases List.mem_append.1 hx with h | h
        · have := h1.2.2 x h (i, o) (by simp)
          exact ⟨this.1, .inr this.2⟩
        · have := (List.pairwise_cons.1 h1.2.1).1 x h
          exact ⟨fun he => this.1 he.symm, .inl this.2⟩
      have hij : i ≠ j := (hW _ hiB).1.2.2
      cases X with
      | none => simp at hch
      | some x =>
        simp only [Option.bind_some] at hch
        have hk' : opK c σ (base + 8 * i) o (fun σ1 => cond (allA c base σ1 (pre ++ post)) (chainK c base (pre ++ post) σ1 fun σ => opK c σ (base + 8 * j) p kS) none) = some r := by
          rw [hX.eq σ (fun _ _ => rfl) (fun _ _ _ h => h)]
          simp only [Option.bind_some]
          rw [allA_iff.2 (after_one (dst := dstOf ops.toList) hd (by omega) (fun y hy => hA y (hsub' y hy)) (fun y hy => (hapart y hy).2)), cond_true]
          exact hch
        have hop : o.wp P a w (fun a' w' => (isM o = false → Agree w w') ∧ anyG P .any ops Q (n + f) (listed.setIfInBounds i true) a' w') Q := by
          refine op_ok (base := base + 8 * i) hc hst (fun m h1 h2 => hfr (i, o) (by simp) m h1 h2) hk' ?_
          intro σ1 g1 a1 w1 h1 hst1 hext1 hf1 hn1 hag
          refine ⟨hag, ?_⟩
          simp only at h1
          cases hal : allA c base σ1 (pre ++ post) with
          | false => rw [hal] at h1; simp at h1
          | true =>
            rw [hal] at h1
            simp only [cond_true] at h1
            obtain ⟨m, hm⟩ : ∃ m, m + 1 = n := ⟨(pre ++ post).length, by simp only [List.length_append, List.length_cons] at hl ⊢; omega⟩
            have e1 : n + f = m + 1 + f := by omega
            rw [e1]
            refine ih m hm (B := pre ++ post) (by simp only [List.length_append, List.length_cons] at hl ⊢; omega) (fun y hy => hsub y (hsub' y hy)) (fun y hy => hW y (hsub' y hy)) hpw' (allA_iff.1 hal) h1 hst1
              (fun y hy q q1 q2 => hf1 q ?_ (hfr y ?_ q q1 q2)) (hext.trans hext1) (fun q hq hf => hf1 q ?_ (hfo q hq hf)) (hn1.trans hnx) hrel.add (fun y => ?_)
            · rcases List.mem_append.1 hy with hy | hy
              · have := (hapart y hy).1; omega
              · simp only [List.mem_singleton] at hy; subst hy; simp only at q1 q2; omega
            · rcases List.mem_append.1 hy with hy | hy
              · exact List.mem_append.2 (.inl (hsub' y hy))
              · exact List.mem_append.2 (.inr hy)
            · have := hq (i, o) (List.mem_append.2 (.inl (hsub _ hiB)))
              simp only at this; omega
            · simp only [List.mem_cons, hdn, hids]
              have hiid : i ∈ B1.map Prod.fst := List.mem_map.2 ⟨(i, o), hsub _ hiB, rfl⟩
              have hni : i ∉ (pre ++ post).map Prod.fst := by
                intro h
                obtain ⟨z, hz, he⟩ := List.mem_map.1 h
                exact (hapart z hz).1 he
              have hmem : ∀ y, y ∈ (pre ++ (i, o) :: post).map Prod.fst ↔ y = i ∨ y ∈ (pre ++ post).map Prod.fst := by
                intro y
                simp only [List.map_append, List.map_cons, List.mem_append, List.mem_cons]
                constructor
                · rintro (h | h | h)
                  · exact .inr (.inl h)
                  · exact .inl h
                  · exact .inr (.inr h)
                · rintro (h | h | h)
                  · exact .inr (.inl h)
                  · exact .inl h
                  · exact .inr (.inr h)
              rw [hmem]
              constructor
              · rintro (rfl | h | ⟨h, h2⟩)
                · refine .inr ⟨.inr hiid, fun h3 => ?_⟩
                  rcases h3 with h3 | h3
                  · exact hij h3
                  · exact hni h3
                · exact .inl h
                · exact .inr ⟨h, fun h3 => h2 (h3.elim .inl (fun h4 => .inr (.inr h4)))⟩
              · rintro (h | ⟨h, h2⟩)
                · exact .inr (.inl h)
                · by_cases he : y = i
                  · exact .inl he
                  · refine .inr (.inr ⟨h, fun h3 => ?_⟩)
                    rcases h3 with h3 | h3 | h3
                    · exact h2 (.inl h3)
                    · exact he h3
                    · exact h2 (.inr h3)
        unfold Go.wpOp
        simp only [hoi]
        have hw : Region.wanted o (yielded ops a.tmps) = true := wanted_none hg
        rw [if_pos hw]
        left
        refine Oper.wp_mono (fun a' w' hh => ⟨fun o' ho' hm => hh.1 (by simp only [Option.some.injEq] at ho'; rw [ho']; exact hm), hh.2⟩) hop
    · -- the append, when all it waits for is done
      have hready := ((readyL_iff hrel hdsz hgp).1 hi).2
      unfold readyL at hready
      rw [allIn_iff] at hready
      have hloads : ∀ x ∈ B, isLoad x.2 = true := by
        intro x hx
        cases hlx : isLoad x.2 with
        | true => rfl
        | false => exact absurd (hready _ ((hW x hx).2.2.1 hlx)) (hun x hx)
      obtain ⟨_, hpg, _⟩ := appform c (base + 8 * i) σ hap
      rw [app_move (dst := dstOf ops.toList) hap (by omega) B (fun x hx => ⟨hloads x hx, hA x hx, (hW x hx).2.2.2 (hloads x hx)⟩) hpw] at hch
      have hop : p.wp P a w (fun a' w' => (isM p = false → Agree w w') ∧ anyG P .any ops Q (n + f) (listed.setIfInBounds i true) a' w') Q := by
        refine op_ok (base := base + 8 * i) hc hst (fun m h1 h2 => hfr (i, p) (by simp) m h1 h2) hch ?_
        intro σ1 g1 a1 w1 h1 hst1 hext1 hf1 hn1 hag
        refine ⟨hag, ?_⟩
        simp only at h1
        cases hal : allA c base σ1 B with
        | false => rw [hal] at h1; simp at h1
        | true =>
          rw [hal] at h1
          simp only [cond_true] at h1
          refine bat_ok (B0 := B1 ++ [(i, p)]) (doneE := doneE) hc hgetB0 hd0 hE HK n (B := B) hl (fun y hy => List.mem_append.2 (.inl (hsub y hy))) (fun y hy => ⟨⟨(hW y hy).1.1, (hW y hy).1.2.1⟩, (hW y hy).2.1 (hloads y hy)⟩) hpw (allA_iff.1 hal) h1 hst1
            (fun y hy q q1 q2 => hf1 q ?_ (hfr y (List.mem_append.2 (.inl hy)) q q1 q2)) (hext.trans hext1) (fun q hq hf => hf1 q ?_ (hfo q hq hf)) (hn1.trans hnx) hrel.add (fun y => ?_)
          · have := (hW y hy).1.2.2; omega
          · have := hq (i, p) (by simp)
            simp only at this; omega
          · simp only [List.mem_cons, hdn, hids]
            have hiB : i ∉ B.map Prod.fst := by
              intro h
              obtain ⟨z, hz, he⟩ := List.mem_map.1 h
              exact (hW z hz).1.2.2 he
            constructor
            · rintro (rfl | h | ⟨h, h2⟩)
              · exact .inr ⟨.inl rfl, hiB⟩
              · exact .inl h
              · exact .inr ⟨h, fun h3 => h2 (.inr h3)⟩
            · rintro (h | ⟨h, h2⟩)
              · exact .inr (.inl h)
              · by_cases he : y = i
                · exact .inl he
                · exact .inr (.inr ⟨h, fun h3 => h3.elim he h2⟩)
      unfold Go.wpOp
      simp only [hgp]
      have hw : Region.wanted p (yielded ops a.tmps) = true := wanted_none hpg
      rw [if_pos hw]
      left
      refine Oper.wp_mono (fun a' w' hh => ⟨fun o' ho' hm => hh.1 (by simp only [Option.some.injEq] at ho'; rw [ho']; exact hm), hh.2⟩) hop

theorem two_ok {c : Ctx} {base : Nat} {kS : St → Option R} {r : R} {f : Nat} {B1 : List (Nat × Oper)} {j : Nat} {p : Oper} {done0 doneE : List Nat} {g0 : Ghost} {w0 : World} {σ0 : St} (hc : CtxOK P c) (hget : ∀ x ∈ B1, ops[x.1]? = some x.2) (hgp : ops[j]? = some p)
    (hd0 : ∀ x ∈ done0, x < ops.size) (hjd : j ∉ done0) (hE : ∀ x, x ∈ doneE ↔ x ∈ done0 ∨ x ∈ (B1 ++ [(j, p)]).map Prod.fst) (hjB1 : ∀ {x : Nat × Oper}, x ∈ B1 → x.1 = j → False) (hap : isApp p = true) (hdeps : ∀ x ∈ edgeOns p.after.toList, x ∈ addDone B1 done0) (hWj : WaitOK ops ((B1 ++ [(j, p)]).map Prod.fst) done0 j)
    (HK : ∀ σ g a w listed, kS σ = some r → StOK c.ntmps g w a σ → Ext w0 g0 w g → (∀ m, Out base (B1 ++ [(j, p)]) m → Fresh g0 σ0 m → Fresh g σ m) → σ.next = σ0.next → Rel ops listed doneE → anyG P .any ops Q f listed a w) :
    (n : Nat) → TwoGoal P ops Q c base kS r f B1 j p done0 g0 w0 σ0 n
  | 0 => two_step hc hget hgp hd0 hjd hE hjB1 hap hdeps hWj HK (fun m hm => by omega)
  | n + 1 => two_step hc hget hgp hd0 hjd hE hjB1 hap hdeps hWj HK (fun m hm => by
      have e : m = n := by omega
      subst e
      exact two_ok hc hget hgp hd0 hjd hE hjB1 hap hdeps hWj HK m)

/-! ## All parts -/
def segOps : List Seg → List (Nat × Oper)
  | [] => []
  | .run L :: S => L ++ segOps S
  | .bat L :: S => L ++ segOps S
  | .two L j p :: S => L ++ (j, p) :: segOps S

theorem okRun_new {dst : Nat → Option Nat} {all : List (Nat × Oper)} : {L : List (Nat × Oper)} → {done : List Nat} → okRun dst all L done = true → (L.map Prod.fst).Nodup ∧ ∀ x ∈ L, x.1 ∉ done
  | [], _, _ => ⟨by simp, by simp⟩
  | (i, o) :: L, done, h => by
    simp only [okRun, Bool.and_eq_true, Bool.not_eq_true'] at h
    obtain ⟨h1, h2⟩ := okRun_new h.2
    refine ⟨?_, fun x hx => ?_⟩
    · simp only [List.map_cons, List.nodup_cons]
      refine ⟨fun hm => ?_, h1⟩
      obtain ⟨x, hx, he⟩ := List.mem_map.1 hm
      exact h2 x hx (by simp [he])
    · rcases List.mem_cons.1 hx with rfl | hx
      · exact memN_false.1 h.1.1
      · exact fun hd => h2 x hx (by simp [hd])
theorem readyAll_ok {all : List (Nat × Oper)} {done B : List Nat} : {l : List (Nat × Oper)} → readyAll all done B l = true → ∀ x ∈ l, x.1 ∉ done ∧ readyL done x.2 = true ∧ noneIn (laterL x.1 all []) done = true ∧ waitAll done B (laterL x.1 all []) all = true
  | [], _, x, hx => by simp at hx
  | (i, o) :: l, h, x, hx => by
    simp only [readyAll, Bool.and_eq_true, Bool.not_eq_true'] at h
    rcases List.mem_cons.1 hx with rfl | hx
    · exact ⟨memN_false.1 h.1.1.1.1, h.1.1.1.2, h.1.1.2, h.1.2⟩
    · exact readyAll_ok h.2 x hx
theorem waitAll_ok {done B later : List Nat} : {l : List (Nat × Oper)} → waitAll done B later l = true → ∀ x ∈ l, x.1 ∈ done ∨ x.1 ∈ B ∨ x.1 ∈ later
  | [], _, x, hx => by simp at hx
  | (i, o) :: l, h, x, hx => by
    simp only [waitAll, Bool.and_eq_true, Bool.or_eq_true, memN_iff] at h
    rcases List.mem_cons.1 hx with rfl | hx
    · rcases h.1 with (h1 | h1) | h1
      · exact .inl h1
      · exact .inr (.inl h1)
      · exact .inr (.inr h1)
    · exact waitAll_ok h.2 x hx
theorem apartAll_ok {dst : Nat → Option Nat} {i : Nat} {o : Oper} : {l : List (Nat × Oper)} → apartAll dst i o l = true → ∀ x ∈ l, i ≠ x.1 ∧ apartL dst o x.2 = true
  | [], _, x, hx => by simp at hx
  | (j, p) :: l, h, x, hx => by
    simp only [apartAll, Bool.and_eq_true, Bool.not_eq_true'] at h
    rcases List.mem_cons.1 hx with rfl | hx
    · refine ⟨fun he => ?_, h.1.2⟩
      have := h.1.1
      simp only at he
      rw [he, Nat.beq_refl] at this; simp at this
    · exact apartAll_ok h.2 x hx
theorem pairs_ok {dst : Nat → Option Nat} : {l : List (Nat × Oper)} → pairsOK dst l = true → PW dst l
  | [], _ => List.Pairwise.nil
  | (i, o) :: l, h => by
    simp only [pairsOK, Bool.and_eq_true] at h
    exact List.Pairwise.cons (fun x hx => apartAll_ok h.1 x hx) (pairs_ok h.2)
theorem idsOf_map : (l : List (Nat × Oper)) → idsOf l = l.map Prod.fst
  | [] => rfl
  | (i, o) :: l => by simp only [idsOf, List.map_cons, idsOf_map l]

theorem wait_of {B : List Nat} {done : List Nat} {b : Nat} {ob : Oper} {listed : Array Bool} (hrel : Rel ops listed done) (hget : ops[b]? = some ob) (h3 : noneIn (laterL b (numbered 0 ops.toList) []) done = true)
    (h4 : waitAll done B (laterL b (numbered 0 ops.toList) []) (numbered 0 ops.toList) = true) (hB : ∀ x ∈ laterL b (numbered 0 ops.toList) [], x ∉ B) : WaitOK ops B done b := by
  have later_ok : ∀ x ∈ laterL b (numbered 0 ops.toList) [], x < ops.size ∧ ∀ ox, ops[x]? = some ox → ∃ e ∈ ox.after, Region.binds .any e = true ∧ (e.on = b ∨ e.on ∈ laterL b (numbered 0 ops.toList) []) := by
    refine laterL_mem (by simp) (fun j oj hm hy => ?_)
    have hoj := numbered_get _ hm
    refine ⟨size_of hoj, fun ox hox => ?_⟩
    simp only at hoj
    rw [hoj] at hox
    simp only [Option.some.injEq] at hox
    subst hox
    obtain ⟨y, hy1, hy2⟩ := hy
    obtain ⟨e, he, hbe, rfl⟩ := edgeOns_mem.1 hy1
    exact ⟨e, by simpa using he, hbe, hy2⟩
  exact ⟨laterL b (numbered 0 ops.toList) [], fun x hx => (later_ok x hx).2, fun x hx => ⟨noneIn_iff.1 h3 x hx, hB x hx, (later_ok x hx).1⟩, fun j oj hoj => waitAll_ok h4 _ (numbered_of hoj)⟩
/-- What is ready does not wait. -/
theorem later_not {done : List Nat} {b y : Nat} {ob oy : Oper} {listed : Array Bool} (hrel : Rel ops listed done) (hd : ∀ x ∈ done, x < ops.size) (hget : ops[b]? = some ob) (hb : b ∉ done) (h3 : noneIn (laterL b (numbered 0 ops.toList) []) done = true)
    (hy : ops[y]? = some oy) (hyd : y ∉ done) (hyr : readyL done oy = true) : y ∉ laterL b (numbered 0 ops.toList) [] := by
  have later_ok : ∀ x ∈ laterL b (numbered 0 ops.toList) [], x < ops.size ∧ ∀ ox, ops[x]? = some ox → ∃ e ∈ ox.after, Region.binds .any e = true ∧ (e.on = b ∨ e.on ∈ laterL b (numbered 0 ops.toList) []) := by
    refine laterL_mem (by simp) (fun j oj hm hy => ?_)
    have hoj := numbered_get _ hm
    refine ⟨size_of hoj, fun ox hox => ?_⟩
    simp only at hoj
    rw [hoj] at hox
    simp only [Option.some.injEq] at hox
    subst hox
    obtain ⟨y, hy1, hy2⟩ := hy
    obtain ⟨e, he, hbe, rfl⟩ := edgeOns_mem.1 hy1
    exact ⟨e, by simpa using he, hbe, hy2⟩
  have hyr' : y ∈ Region.ready .any ops listed := (readyL_iff hrel hd hy).2 ⟨hyd, hyr⟩
  refine waits_not (md := .any) (ops := ops) (i := b) (fun x hx => (later_ok x hx).2) (fun z hz => ?_) ?_ hyr'
  · rw [hrel.getD (later_ok z hz).1]; exact memN_false.2 (noneIn_iff.1 h3 z hz)
  · rw [hrel.getD (size_of hget)]; exact memN_false.2 hb

theorem okTwo_new {dst : Nat → Option Nat} {all : List (Nat × Oper)} {done B : List Nat} {j : Nat} {p : Oper} : {l : List (Nat × Oper)} → readyTwo dst all done B j p l = true → ∀ x ∈ l, (x.1 ∉ done ∧ readyL done x.2 = true ∧ x.1 ≠ j) ∧
    (isLoad x.2 = true → noneIn (laterL x.1 all []) done = true ∧ waitAll done (j :: B) (laterL x.1 all []) all = true ∧ j ∉ laterL x.1 all [] ∧ apartL dst x.2 p = true) ∧ (isLoad x.2 = false → x.1 ∈ edgeOns p.after.toList)
  | [], _, x, hx => by simp at hx
  | (i, o) :: l, h, x, hx => by
    simp only [readyTwo, Bool.and_eq_true, Bool.not_eq_true'] at h
    rcases List.mem_cons.1 hx with rfl | hx
    · refine ⟨⟨memN_false.1 h.1.1.1.1, h.1.1.1.2, fun he => ?_⟩, fun hl => ?_, fun hl => ?_⟩
      · have := h.1.1.2
        simp only at he
        rw [he, Nat.beq_refl] at this; simp at this
      · have h2 := h.1.2
        simp only at hl
        rw [hl] at h2
        simp only [cond_true, Bool.and_eq_true, Bool.not_eq_true'] at h2
        exact ⟨h2.1.1.1, h2.1.1.2, memN_false.1 h2.1.2, h2.2⟩
      · have h2 := h.1.2
        simp only at hl
        rw [hl] at h2
        simp only [cond_false] at h2
        exact memN_iff.1 h2
    · exact okTwo_new h.2 x hx
theorem okSegs_new {dst : Nat → Option Nat} {all : List (Nat × Oper)} : {S : List Seg} → {done : List Nat} → okSegs dst all S done = true → ∀ x ∈ segOps S, x.1 ∉ done
  | [], _, _, x, hx => by simp [segOps] at hx
  | .run L :: S, done, h, x, hx => by
    simp only [okSegs, Bool.and_eq_true] at h
    simp only [segOps, List.mem_append] at hx
    rcases hx with hx | hx
    · exact (okRun_new h.1).2 x hx
    · exact fun hd => okSegs_new h.2 x hx (addDone_mem.2 (.inl hd))
  | .bat B :: S, done, h, x, hx => by
    simp only [okSegs, okBat, Bool.and_eq_true] at h
    simp only [segOps, List.mem_append] at hx
    rcases hx with hx | hx
    · exact (readyAll_ok h.1.1 x hx).1
    · exact fun hd => okSegs_new h.2 x hx (addDone_mem.2 (.inl hd))
  | .two B j p :: S, done, h, x, hx => by
    simp only [okSegs, Bool.and_eq_true] at h
    have h1 := h.1
    simp only [okTwo, Bool.and_eq_true, Bool.not_eq_true'] at h1
    simp only [segOps, List.mem_append, List.mem_cons] at hx
    rcases hx with hx | rfl | hx
    · exact (okTwo_new h1.1.1.1.1.1.1.1 x hx).1.1
    · exact memN_false.1 h1.1.1.1.1.2
    · exact fun hd => okSegs_new h.2 x hx (List.mem_cons_of_mem _ (addDone_mem.2 (.inl hd)))

theorem seg_ok {c : Ctx} {base fuel : Nat} (hc : CtxOK P c) (hp : Plain' ops) (hQ : ∀ c a w, ¬ Q (.panic c) a w) (e : Nat) : (S : List Seg) → {σ : St} → {g : Ghost} → {a : Act} → {w : World} → {k : St → Option R} → {r : R} → {listed : Array Bool} → {done : List Nat} →
    segK c base (dstOf ops.toList) fuel S σ k = some r → StOK c.ntmps g w a σ → (∀ x ∈ segOps S, ops[x.1]? = some x.2) → FreshL g σ base (segOps S) → Rel ops listed done → (∀ x ∈ done, x < ops.size) →
    okSegs (dstOf ops.toList) (numbered 0 ops.toList) S done = true →
    (∀ σ' g' a' w', k σ' = some r → StOK c.ntmps g' w' a' σ' → Ext w g w' g' → (∀ m, Out base (segOps S) m → Fresh g σ m → Fresh g' σ' m) → σ'.next = σ.next → Q .normal a' w') →
    anyG P .any ops Q ((segOps S).length + e) listed a w
  | [], σ, g, a, w, k, r, listed, done, h, hst, hget, hfr, hrel, hd, hok, hK => by
    simp only [segK] at h
    simp only [okSegs] at hok
    have hq := hK σ g a w h hst (Ext.refl _ _) (fun m _ hf => hf) rfl
    have hnone : Region.ready .any ops listed = [] := by
      rw [List.eq_nil_iff_forall_not_mem]
      intro j hj
      obtain ⟨_, o, hoj, _⟩ := mem_ready.1 hj
      have h1 := (readyL_iff hrel hd hoj).1 hj
      rcases aloneL_ok hok _ (numbered_of hoj) with h2 | h2 | h2
      · have h3 := numbered_lt (numbered_of hoj)
        have h4 : (numbered 0 ops.toList).length = ops.toList.length := by
          have := congrArg List.length (numbered_fst ops.toList 0)
          simpa using this
        simp only at h2 h3
        omega
      · exact h1.1 h2
      · rw [h1.2] at h2; simp at h2
    simp only [segOps, List.length_nil, Nat.zero_add]
    cases e with
    | zero => exact ⟨hnone, hq⟩
    | succ f => exact ⟨fun _ => hq, fun i hi => by rw [hnone] at hi; simp at hi⟩
  | .run L :: S, σ, g, a, w, k, r, listed, done, h, hst, hget, hfr, hrel, hd, hok, hK => by
    simp only [segK] at h
    simp only [okSegs, Bool.and_eq_true] at hok
    obtain ⟨hnd, hnew⟩ := okRun_new hok.1
    have hgL : ∀ x ∈ L, ops[x.1]? = some x.2 := fun x hx => hget x (by simp [segOps, hx])
    have hgS : ∀ x ∈ segOps S, ops[x.1]? = some x.2 := fun x hx => hget x (by simp [segOps, hx])
    have hSnew := okSegs_new hok.2
    have e0 : (segOps (.run L :: S)).length + e = L.length + ((segOps S).length + e) := by simp only [segOps, List.length_append]; omega
    rw [e0]
    refine order_pre hp hQ L hgL hrel hd hok.1 (opsK_ok hc dstOf_eq fuel h hst (by intro s hs; simp at hs) hnd (fun x hx m h1 h2 => hfr x (by simp [segOps, hx]) m h1 h2) (fun σ' g' a' w' hk hst' hext' hf' hn' => ?_))
    intro listed' hrel'
    refine seg_ok hc hp hQ e S hk hst' hgS (fun x hx m h1 h2 => hf' m (fun y hy => ?_) (hfr x (by simp [segOps, hx]) m h1 h2)) hrel' (fun x hx => ?_) hok.2 (fun σ2 g2 a2 w2 hk2 hst2 hext2 hf2 hn2 => ?_)
    · have hne : x.1 ≠ y.1 := fun he => hSnew x hx (addDone_mem.2 (.inr (List.mem_map.2 ⟨y, hy, he.symm⟩)))
      omega
    · rcases addDone_mem.1 hx with h | h
      · exact hd x h
      · obtain ⟨y, hy, rfl⟩ := List.mem_map.1 h
        exact size_of (hgL y hy)
    · exact hK σ2 g2 a2 w2 hk2 hst2 (hext'.trans hext2) (fun m hm hf => hf2 m (fun y hy => hm y (by simp [segOps, hy])) (hf' m (fun y hy => hm y (by simp [segOps, hy])) hf)) (hn2.trans hn')
  | .bat B :: S, σ, g, a, w, k, r, listed, done, h, hst, hget, hfr, hrel, hd, hok, hK => by
    simp only [segK] at h
    simp only [okSegs, Bool.and_eq_true] at hok
    have hgB : ∀ x ∈ B, ops[x.1]? = some x.2 := fun x hx => hget x (by simp [segOps, hx])
    have hgS : ∀ x ∈ segOps S, ops[x.1]? = some x.2 := fun x hx => hget x (by simp [segOps, hx])
    have hSnew := okSegs_new hok.2
    have hb := hok.1
    simp only [okBat, Bool.and_eq_true] at hb
    have hr := readyAll_ok hb.1
    cases hA : allA c base σ B with
    | false => rw [hA] at h; simp at h
    | true =>
      rw [hA] at h
      simp only [cond_true] at h
      have e0 : (segOps (.bat B :: S)).length + e = B.length + ((segOps S).length + e) := by simp only [segOps, List.length_append]; omega
      rw [e0]
      refine bat_ok (g0 := g) (w0 := w) (σ0 := σ) (doneE := addDone B done) hc hgB hd (fun x => addDone_mem) (fun σ' g' a' w' listed' hk hst' hext' hf' hn' hrel' => ?_) B.length (B := B) rfl (fun _ hx => hx) (fun x hx => ⟨⟨(hr x hx).1, (hr x hx).2.1⟩, ?_⟩) (pairs_ok hb.2) (allA_iff.1 hA) h hst
        (fun x hx m h1 h2 => hfr x (by simp [segOps, hx]) m h1 h2) (Ext.refl _ _) (fun m _ hf => hf) rfl hrel (fun x => ?_)
      · refine seg_ok hc hp hQ e S hk hst' hgS (fun x hx m h1 h2 => hf' m (fun y hy => ?_) (hfr x (by simp [segOps, hx]) m h1 h2)) hrel' (fun x hx => ?_) hok.2 (fun σ2 g2 a2 w2 hk2 hst2 hext2 hf2 hn2 => ?_)
        · have hne : x.1 ≠ y.1 := fun he => hSnew x hx (addDone_mem.2 (.inr (List.mem_map.2 ⟨y, hy, he.symm⟩)))
          omega
        · rcases addDone_mem.1 hx with h | h
          · exact hd x h
          · obtain ⟨y, hy, rfl⟩ := List.mem_map.1 h
            exact size_of (hgB y hy)
        · exact hK σ2 g2 a2 w2 hk2 hst2 (hext'.trans hext2) (fun m hm hf => hf2 m (fun y hy => hm y (by simp [segOps, hy])) (hf' m (fun y hy => hm y (by simp [segOps, hy])) hf)) (hn2.trans hn')
      · obtain ⟨b1, b2, b3, b4⟩ := hr x hx
        rw [idsOf_map] at b4
        refine wait_of hrel (hgB x hx) b3 b4 (fun z hz hzB => ?_)
        obtain ⟨y, hy, rfl⟩ := List.mem_map.1 hzB
        exact later_not hrel hd (hgB x hx) b1 b3 (hgB y hy) (hr y hy).1 (hr y hy).2.1 hz
      · constructor
        · exact fun h => .inl h
        · rintro (h | ⟨h1, h2⟩)
          · exact h
          · exact absurd h1 h2
  | .two B j p :: S, σ, g, a, w, k, r, listed, done, h, hst, hget, hfr, hrel, hd, hok, hK => by
    simp only [segK] at h
    simp only [okSegs, Bool.and_eq_true] at hok
    have hgB : ∀ x ∈ B, ops[x.1]? = some x.2 := fun x hx => hget x (by simp [segOps, hx])
    have hgp : ops[j]? = some p := hget (j, p) (by simp [segOps])
    have hgS : ∀ x ∈ segOps S, ops[x.1]? = some x.2 := fun x hx => hget x (by simp [segOps, hx])
    have hSnew := okSegs_new hok.2
    have hb := hok.1
    simp only [okTwo, Bool.and_eq_true, Bool.not_eq_true'] at hb
    obtain ⟨⟨⟨⟨⟨⟨⟨hrt, hpo⟩, hap⟩, hjd⟩, hdeps⟩, hjl⟩, hjw⟩, hjn⟩ := hb
    have hr := okTwo_new hrt
    cases hA : allA c base σ B with
    | false => rw [hA] at h; simp at h
    | true =>
      rw [hA] at h
      simp only [cond_true] at h
      have e0 : (segOps (.two B j p :: S)).length + e = B.length + 1 + ((segOps S).length + e) := by simp only [segOps, List.length_append, List.length_cons]; omega
      rw [e0]
      have hids : ∀ x, x ∈ (B ++ [(j, p)]).map Prod.fst ↔ x = j ∨ x ∈ B.map Prod.fst := by
        intro x; simp [or_comm]
      refine two_ok (g0 := g) (w0 := w) (σ0 := σ) (B1 := B) (doneE := j :: addDone B done) hc (fun x hx => ?_) hgp hd (memN_false.1 hjd) (fun x => ?_) (fun {x} hx he => (hr x hx).1.2.2 he) hap (allIn_iff.1 hdeps) ?_ (fun σ' g' a' w' listed' hk hst' hext' hf' hn' hrel' => ?_) B.length (B := B) rfl (fun _ hx => hx) (fun x hx => ⟨(hr x hx).1, ?_, (hr x hx).2.2, fun hl => ((hr x hx).2.1 hl).2.2.2⟩) (pairs_ok hpo) (allA_iff.1 hA) h hst
        (fun x hx m h1 h2 => hfr x ?_ m h1 h2) (Ext.refl _ _) (fun m _ hf => hf) rfl hrel (fun x => ?_)
      · exact hgB x hx
      · rw [hids, List.mem_cons, addDone_mem]
        constructor
        · rintro (h | h | h)
          · exact .inr (.inl h)
          · exact .inl h
          · exact .inr (.inr h)
        · rintro (h | h | h)
          · exact .inr (.inl h)
          · exact .inl h
          · exact .inr (.inr h)
      · rw [idsOf_map] at hjw
        have := wait_of (B := j :: B.map Prod.fst) hrel hgp hjl hjw (fun z hz => ?_)
        · obtain ⟨Lt, q1, q2, q3⟩ := this
          refine ⟨Lt, q1, fun x hx => ⟨(q2 x hx).1, fun hm => (q2 x hx).2.1 ?_, (q2 x hx).2.2⟩, fun i oi hi => ?_⟩
          · rw [hids] at hm; exact List.mem_cons.2 hm
          · rcases q3 i oi hi with q | q | q
            · exact .inl q
            · exact .inr (.inl ((hids i).2 (List.mem_cons.1 q)))
            · exact .inr (.inr q)
        · intro hm
          rcases List.mem_cons.1 hm with rfl | hm
          · exact noneIn_iff.1 hjn z hz (by simp)
          · rw [idsOf_map] at hjn
            exact noneIn_iff.1 hjn z hz (List.mem_cons_of_mem _ hm)
      · refine seg_ok hc hp hQ e S hk hst' hgS (fun x hx m h1 h2 => hf' m (fun y hy => ?_) (hfr x (by simp [segOps, hx]) m h1 h2)) hrel' (fun x hx => ?_) hok.2 (fun σ2 g2 a2 w2 hk2 hst2 hext2 hf2 hn2 => ?_)
        · have hne : x.1 ≠ y.1 := by
            intro he
            refine hSnew x hx ?_
            rw [List.mem_cons, addDone_mem]
            rcases List.mem_append.1 hy with hy | hy
            · exact .inr (.inr (List.mem_map.2 ⟨y, hy, he.symm⟩))
            · simp only [List.mem_singleton] at hy
              subst hy
              exact .inl he
          omega
        · rw [List.mem_cons, addDone_mem] at hx
          rcases hx with rfl | h | h
          · exact size_of hgp
          · exact hd x h
          · obtain ⟨y, hy, rfl⟩ := List.mem_map.1 h
            exact size_of (hgB y hy)
        · refine hK σ2 g2 a2 w2 hk2 hst2 (hext'.trans hext2) (fun m hm hf => hf2 m (fun y hy => hm y (by simp [segOps, hy])) (hf' m (fun y hy => hm y ?_) hf)) (hn2.trans hn')
          rcases List.mem_append.1 hy with hy | hy
          · simp [segOps, hy]
          · simp only [List.mem_singleton] at hy; subst hy; simp [segOps]
      · intro hl
        obtain ⟨q1, q2, q3, q4⟩ := (hr x hx).2.1 hl
        rw [idsOf_map] at q2
        have := wait_of (B := j :: B.map Prod.fst) hrel (hgB x hx) q1 q2 (fun z hz hm => ?_)
        · obtain ⟨Lt, p1, p2, p3⟩ := this
          refine ⟨Lt, p1, fun x hx => ⟨(p2 x hx).1, fun hm => (p2 x hx).2.1 ?_, (p2 x hx).2.2⟩, fun i oi hi => ?_⟩
          · rw [hids] at hm; exact List.mem_cons.2 hm
          · rcases p3 i oi hi with q | q | q
            · exact .inl q
            · exact .inr (.inl ((hids i).2 (List.mem_cons.1 q)))
            · exact .inr (.inr q)
        · rcases List.mem_cons.1 hm with rfl | hm
          · exact q3 hz
          · obtain ⟨y, hy, rfl⟩ := List.mem_map.1 hm
            exact later_not hrel hd (hgB x hx) (hr x hx).1.1 q1 (hgB y hy) (hr y hy).1.1 (hr y hy).1.2.1 hz
      · rcases List.mem_append.1 hx with hx | hx
        · simp [segOps, hx]
        · simp only [List.mem_singleton] at hx; subst hx; simp [segOps]
      · rw [hids]
        constructor
        · exact fun h => .inl h
        · rintro (h | ⟨h1, h2⟩)
          · exact h
          · exact absurd h1 h2

theorem readyNow_mem {done : List Nat} : {l : List (Nat × Oper)} → ∀ x ∈ readyNow done l, x ∈ l
  | [], x, hx => by simp [readyNow] at hx
  | (i, o) :: l, x, hx => by
    simp only [readyNow] at hx
    cases hb : (!memN i done && readyL done o) with
    | true =>
      rw [hb] at hx
      simp only [cond_true, List.mem_cons] at hx
      rcases hx with rfl | hx
      · simp
      · exact List.mem_cons_of_mem _ (readyNow_mem x hx)
    | false =>
      rw [hb] at hx
      exact List.mem_cons_of_mem _ (readyNow_mem x hx)
theorem findTwo_mem {dst : Nat → Option Nat} {all B : List (Nat × Oper)} {done : List Nat} : {l : List (Nat × Oper)} → {x : Nat × Oper} → findTwo dst all B done l = some x → x ∈ l
  | [], _, h => by simp [findTwo] at h
  | (j, p) :: l, x, h => by
    simp only [findTwo] at h
    cases hb : okTwo dst all B j p done with
    | true => rw [hb] at h; simp only [cond_true, Option.some.injEq] at h; subst h; simp
    | false => rw [hb] at h; exact List.mem_cons_of_mem _ (findTwo_mem h)
theorem segL_mem {dst : Nat → Option Nat} {all : List (Nat × Oper)} {n : Nat} : {f : Nat} → {done : List Nat} → ∀ x ∈ segOps (segL dst all n f done), x ∈ all
  | 0, done, x, hx => by simp [segL, segOps] at hx
  | f + 1, done, x, hx => by
    simp only [segL] at hx
    split at hx
    · split at hx
      · simp [segOps] at hx
      · rename_i B _
        cases hb : okBat dst all (readyNow done all) done with
        | true =>
          rw [hb] at hx
          simp only [cond_true, segOps, List.mem_append] at hx
          rcases hx with hx | hx
          · exact readyNow_mem x hx
          · exact segL_mem x hx
        | false =>
          rw [hb] at hx
          simp only [cond_false] at hx
          split at hx
          · rename_i j p hf
            simp only [segOps, List.mem_append, List.mem_cons] at hx
            rcases hx with hx | rfl | hx
            · exact readyNow_mem x hx
            · exact findTwo_mem hf
            · exact segL_mem x hx
          · simp [segOps] at hx
    · simp only [segOps, List.mem_append] at hx
      rcases hx with hx | hx
      · exact orderL_mem x hx
      · exact segL_mem x hx
theorem anyG_cast {n m : Nat} (h : n = m) {md : Region.Mode} {l : Array Bool} {a : Act} {w : World} (hg : anyG P md ops Q n l a w) : anyG P md ops Q m l a w := h ▸ hg
theorem segLen_eq : (S : List Seg) → segLen S = (segOps S).length
  | [] => rfl
  | .run L :: S => by simp only [segLen, segOps, List.length_append, segLen_eq S]
  | .bat L :: S => by simp only [segLen, segOps, List.length_append, segLen_eq S]
  | .two L j p :: S => by simp only [segLen, segOps, List.length_append, List.length_cons, segLen_eq S]; omega
end

section
variable {P : Program} {c : Ctx}
theorem region_ok (hc : CtxOK P c) (hm : P.follows .mixedOrders = true) {id : Nat} {ops : Array Oper} {draw : Bool} {Q : Exit → Act → World → Prop} {σ : St} {g : Ghost} {a : Act} {w : World} {k : St → Option R} {r : R}
    (hQ : ∀ c a w, ¬ Q (.panic c) a w) (h : regionK c ops draw σ k = some r) (hst : StOK c.ntmps g w a σ) (hf : FreshUp g σ)
    (hK : ∀ σ' g' a' w', k σ' = some r → StOK c.ntmps g' w' a' σ' → Ext w g w' g' → FreshUp g' σ' → Q .normal a' w') : (Code.region id ops draw).wp P Q a w := by
  unfold regionK at h
  cases draw with
  | false =>
    simp only [cond_false] at h
    exact wp_text (list_ok hc (fun x hx => numbered_lt hx) (numbered_nodup _ _) h hst hf hK)
  | true =>
    simp only [cond_true] at h
    cases hok : drawOK ops.toList with
    | false =>
      rw [hok] at h
      simp only [cond_false] at h
      cases hsg : segOK ops.toList with
      | false => rw [hsg] at h; simp at h
      | true =>
        rw [hsg] at h
        simp only [cond_true] at h
        simp only [segOK, Bool.and_eq_true] at hsg
        unfold segRunK at h
        have hp := plain_of hsg.1.1
        have hlen := Nat.le_of_ble_eq_true hsg.2
        have hmem : ∀ x ∈ segOps (segsOf ops.toList), x ∈ numbered 0 ops.toList := fun x hx => segL_mem x hx
        refine wp_region_any hm (wpAny_of_G _ _ _ _ ?_)
        have he : ({ w with drawn := w.drawn + 1 } : World).heap = w.heap := rfl
        obtain ⟨e, hee⟩ : ∃ e, ops.size = (segOps (segsOf ops.toList)).length + e := ⟨ops.size - (segOps (segsOf ops.toList)).length, by
          have : (segOps (segsOf ops.toList)).length ≤ ops.size := by rw [← segLen_eq]; simpa using hlen
          omega⟩
        refine anyG_cast hee.symm ?_
        refine seg_ok hc hp hQ e _ h (hst.heapEq he) (fun x hx => numbered_get _ (hmem x hx)) (fun x hx m h1 _ => hf m (by omega)) Rel.start (by simp) hsg.1.2 (fun σ' g' a' w' hk hst' hext' hf' hn' => ?_)
        refine hK _ g' a' w' hk ⟨hst'.slots, hst'.heap, hst'.size, hst'.defers⟩ ((Ext.heapEq (g := g) he rfl rfl rfl).trans hext') (fun m hm => ?_)
        have hm' : σ.next + 8 * ops.toList.length ≤ m := hm
        have := hf' m (fun x hx => .inr (by have := numbered_lt (hmem x hx); omega)) (hf m (by omega))
        exact ⟨this.objs, this.row, this.box, this.slots, this.cells⟩
    | true =>
      rw [hok] at h
      simp only [cond_true] at h
      simp only [drawOK, Bool.and_eq_true] at hok
      have hnd := okOrder_nodup hok.2
      have hp := plain_of hok.1
      have hmem : ∀ x ∈ drawL ops.toList, x ∈ numbered 0 ops.toList := fun x hx => orderL_mem x hx
      refine wp_region_any hm (wpAny_of_G _ _ _ _ (order_ok hp hQ _ (fun x hx => numbered_get _ (hmem x hx)) ?_ Rel.start (by simp) hok.2 ?_))
      · have := orderL_len (dst := dstOf ops.toList) (all := numbered 0 ops.toList) ops.toList.length []
        simpa [drawL] using this
      · have he : ({ w with drawn := w.drawn + 1 } : World).heap = w.heap := rfl
        refine list_ok hc (fun x hx => numbered_lt (hmem x hx)) hnd.1 h (hst.heapEq he) hf (fun σ' g' a' w' hk hst' hext' hf' => ?_)
        exact hK σ' g' a' w' hk hst' ((Ext.heapEq (g := g) he rfl rfl rfl).trans hext') hf'
end

end Go.Kz
