/-
  Regions in the text's order.
-/
import Derived.Test.YtakifbcgkbfclaaKzAA
import Derived.OrdersHeld
set_option linter.unusedVariables false
set_option linter.unusedSimpArgs false
namespace Go.Kz
variable {R : Type}

theorem numbered_fst {α : Type} : (l : List α) → (i : Nat) → (numbered i l).map Prod.fst = List.range' i l.length
  | [], _ => rfl
  | x :: l, i => by simp only [numbered, List.map_cons, numbered_fst l, List.length_cons, List.range'_succ]
theorem numbered_mem {α : Type} : {l : List α} → {i : Nat} → {x : Nat × α} → x ∈ numbered i l → i ≤ x.1 ∧ l[x.1 - i]? = some x.2
  | [], _, _, h => by simp [numbered] at h
  | y :: l, i, x, h => by
    simp only [numbered, List.mem_cons] at h
    rcases h with rfl | h
    · simp
    · obtain ⟨h1, h2⟩ := numbered_mem h
      refine ⟨by omega, ?_⟩
      have e : x.1 - i = (x.1 - (i + 1)) + 1 := by omega
      rw [e]; simpa using h2
theorem numbered_nodup {α : Type} (l : List α) (i : Nat) : ((numbered i l).map Prod.fst).Nodup := by
  rw [numbered_fst]; exact List.nodup_range'
theorem nthL_get {α : Type} : (l : List α) → (i : Nat) → nthL l i = l[i]?
  | [], i => by cases i <;> rfl
  | x :: l, 0 => rfl
  | x :: l, i + 1 => by simp only [nthL, nthL_get l i]; simp

section
variable {P : Program} {ops : Array Oper} {Q : Exit → Act → World → Prop}

theorem dstOf_eq (j : Nat) : dstOf ops.toList j = (ops[j]?).bind (·.dst) := by
  simp only [dstOf, nthL_get, Array.getElem?_toList]

theorem Yield_wp {o : Oper} {a : Act} {w : World} {v : Value} {K : Act → World → Prop} (h : (execOp a.eval o).run P w = .ok (.value v) w) (hk : K (a.put o.dst v) w) : o.wp P a w K Q := by
  unfold Oper.wp; rw [h, Oper.upon_value]; exact hk

theorem wpL_ops : (L : List (Nat × Oper)) → (∀ x ∈ L, ops[x.1]? = some x.2) → (a : Act) → (w : World) → wpL P ops Q (Q .normal) L a w → wpOps P ops Q (L.map Prod.fst) a w
  | [], _, a, w, h => h
  | (i, o) :: L, hL, a, w, h => by
    have ih := wpL_ops L (fun x hx => hL x (by simp [hx]))
    have ho : ops[i]? = some o := hL (i, o) (by simp)
    simp only [List.map_cons, wpOps, ho]
    have h' : LStep P ops Q o (wpL P ops Q (Q .normal) L) a w := h
    unfold LStep at h'
    split
    · rename_i hw
      rw [if_pos hw] at h'
      left
      rcases h' with ⟨_, v, h1, h2⟩ | ⟨_, h1⟩
      · exact Yield_wp (h1 w (AgP.refl _ w)) (ih _ _ h2)
      · exact Oper.wp_mono (fun a' w' hh => ih _ _ hh.2) h1
    · rename_i hw
      rw [if_neg hw] at h'
      exact ih _ _ h'

theorem numbered_get (x : Nat × Oper) (h : x ∈ numbered 0 ops.toList) : ops[x.1]? = some x.2 := by
  have := (numbered_mem h).2
  rw [← Array.getElem?_toList]; simpa using this
theorem numbered_lt {x : Nat × Oper} (h : x ∈ numbered 0 ops.toList) : x.1 < ops.toList.length := by
  have := (numbered_mem h).2
  rw [Nat.sub_zero] at this
  exact (List.getElem?_eq_some_iff.1 this).1

theorem wp_text {id : Nat} {a : Act} {w : World} (h : wpL P ops Q (Q .normal) (numbered 0 ops.toList) a w) : (Code.region id ops false).wp P Q a w := by
  refine wp_region ?_
  have := wpL_ops _ numbered_get a w h
  rw [numbered_fst, ← List.range_eq_range'] at this
  simpa using this
end

/-- All numbers from the next one on are free. -/
def FreshUp (g : Ghost) (σ : St) : Prop := ∀ m, σ.next ≤ m → Fresh g σ m

section
variable {P : Program} {ops : Array Oper} {c : Ctx}

theorem list_ok {fuel : Nat} {L : List (Nat × Oper)} (hc : CtxOK P c) {Q : Exit → Act → World → Prop} {σ : St} {g : Ghost} {a : Act} {w : World} {k : St → Option R} {r : R} {K : Act → World → Prop}
    (hL : ∀ x ∈ L, x.1 < ops.toList.length) (hnd : (L.map Prod.fst).Nodup)
    (h : opsK c σ.next (dstOf ops.toList) fuel R [] [] L σ (fun σ' => k { σ' with next := σ.next + 8 * ops.toList.length }) = some r) (hst : StOK c.ntmps g w a σ) (hf : FreshUp g σ)
    (hK : ∀ σ' g' a' w', k σ' = some r → StOK c.ntmps g' w' a' σ' → Ext w g w' g' → FreshUp g' σ' → K a' w') : wpL P ops Q K L a w := by
  refine opsK_ok hc dstOf_eq fuel h hst (by intro s hs; simp at hs) hnd (fun x _ m h1 _ => hf m (by omega)) (fun σ' g' a' w' hk hst' hext hf' hn => ?_)
  refine hK _ g' a' w' hk ⟨hst'.slots, hst'.heap, hst'.size, hst'.defers⟩ hext (fun m hm => ?_)
  have hm' : σ.next + 8 * ops.toList.length ≤ m := hm
  have := hf' m (fun x hx => .inr (by have := hL x hx; omega)) (hf m (by omega))
  exact ⟨this.objs, this.row, this.box, this.slots, this.cells⟩
end

end Go.Kz

/-
  Regions whose order is drawn: an operation that yields its value may be taken first.
-/
namespace Go.Kz

section
variable {P : Program} {ops : Array Oper} {Q : Exit → Act → World → Prop} {md : Region.Mode} {w0 : World}

/-- Whatever order is picked; an operation that does not write lets the old blocks stand. -/
def anyG (P : Program) (md : Region.Mode) (ops : Array Oper) (Q : Exit → Act → World → Prop) : Nat → Array Bool → Act → World → Prop
  | 0, listed, a, w => Region.ready md ops listed = [] ∧ Q .normal a w
  | fuel + 1, listed, a, w =>
    (Region.ready md ops listed = [] → Q .normal a w) ∧
    ∀ i ∈ Region.ready md ops listed, wpOp P ops Q i (fun a' w' => ((∀ o, ops[i]? = some o → isM o = false → Agree w w')) ∧ anyG P md ops Q fuel (listed.setIfInBounds i true) a' w') a w

theorem wpAny_of_G : ∀ (fuel : Nat) (listed : Array Bool) (a : Act) (w : World), anyG P md ops Q fuel listed a w → wpAny P md ops Q fuel listed a w
  | 0, _, _, _, h => h
  | fuel + 1, _, _, _, h => ⟨h.1, fun i hi => wpOp_mono (fun a' w' h' => wpAny_of_G fuel _ a' w' h'.2) (h.2 i hi)⟩

/-- The operations in Lt wait, one by way of another, for i. -/
def Waits (md : Region.Mode) (ops : Array Oper) (i : Nat) (Lt : List Nat) : Prop :=
  ∀ x ∈ Lt, ∀ ox, ops[x]? = some ox → ∃ e ∈ ox.after, Region.binds md e = true ∧ (e.on = i ∨ e.on ∈ Lt)

theorem waits_not {i : Nat} {Lt : List Nat} {listed : Array Bool} (hw : Waits md ops i Lt) (hl : ∀ x ∈ Lt, listed.getD x true = false) (hi : listed.getD i true = false) {j : Nat} (hj : j ∈ Region.ready md ops listed) : j ∉ Lt := by
  intro hjl
  obtain ⟨_, oj, hoj, hall⟩ := mem_ready.1 hj
  obtain ⟨e, he, hb, hon⟩ := hw j hjl oj hoj
  have h1 := hall e he hb
  have h0 : listed.getD e.on true = false := by
    rcases hon with h | h
    · rw [h]; exact hi
    · exact hl _ h
  rcases Nat.lt_or_ge e.on listed.size with h' | h'
  · simp [h'] at h0 h1; rw [h0] at h1; cases h1
  · simp [Array.getElem?_eq_none h'] at h1

theorem anyG_first {i : Nat} {oi : Oper} {v : Value} {Lt : List Nat} (hi : ops[i]? = some oi) (hsel : ∀ (j : Nat) (o : Oper) cs b, ops[j]? = some o → o.op ≠ .select cs b)
    (hQ : ∀ c a w, ¬ Q (.panic c) a w) (hwt : Waits md ops i Lt) :
    ∀ (fuel : Nat) (listed : Array Bool) (a : Act) (w : World),
      (∀ j oj, ops[j]? = some oj → j ≠ i → listed.getD j true = false → (∀ e ∈ oj.after, Region.binds md e = true → e.on ≠ i) → oi.apart ops oj = true) →
      (∀ x ∈ Lt, listed.getD x true = false) → (∀ j oj, ops[j]? = some oj → j ≠ i → listed.getD j true = false → isM oj = true → j ∈ Lt ∨ isP oi = true) →
      i ∈ Region.ready md ops listed → YieldsIf P ops (AgP oi w0) oi v a → AgP oi w0 w →
      anyG P md ops Q fuel (listed.setIfInBounds i true) (a.put oi.dst v) w → anyG P md ops Q (fuel + 1) listed a w := by
  intro fuel
  induction fuel with
  | zero =>
    intro listed a w _ _ _ hr hy hS H
    refine ⟨fun h => (by rw [h] at hr; cases hr), fun j hj => ?_⟩
    by_cases hji : j = i
    · subst hji; exact hy.wpOp hi hS ⟨fun _ _ _ => Agree.refl w, H⟩
    · have := ready_mono hj hji
      rw [H.1] at this
      cases this
  | succ fuel ih =>
    intro listed a w hfree hlt hM hr hy hS H
    refine ⟨fun h => (by rw [h] at hr; cases hr), fun j hj => ?_⟩
    by_cases hji : j = i
    · subst hji; exact hy.wpOp hi hS ⟨fun _ _ _ => Agree.refl w, H⟩
    · have h1 := H.2 j (ready_mono hj hji)
      have hi0 := (mem_ready.1 hr).1
      have hjl := waits_not hwt hlt hi0 hj
      obtain ⟨hjun, oj, hoj, hall⟩ := mem_ready.1 hj
      have hnM : isP oi = false → isM oj = false := by
        intro hP
        cases hm : isM oj with
        | false => rfl
        | true =>
          rcases hM j oj hoj hji hjun hm with h | h
          · exact absurd h hjl
          · rw [hP] at h; simp at h
      have hnot : ∀ e ∈ oj.after, Region.binds md e = true → e.on ≠ i := fun e he hb heq => by
        have h1 := hall e he hb
        have h0 := hi0
        rw [heq] at h1
        rcases Nat.lt_or_ge i listed.size with h' | h'
        · simp [h'] at h0 h1; rw [h0] at h1; cases h1
        · simp [Array.getElem?_eq_none h'] at h1
      have h2 := wpOp_putIf hoj (hfree j oj hoj hji hjun hnot) (fun cs b => hsel i oi cs b hi) (fun cs b => hsel j oj cs b hoj) (fun c a w h => absurd h (hQ _ _ _)) hy h1
      have hsub : ∀ k, (listed.setIfInBounds j true).getD k true = false → listed.getD k true = false := fun k hun => by
        by_cases hjk : j = k
        · subst hjk; exact hjun
        · rw [getD_set_ne true hjk] at hun; exact hun
      refine wpOp_mono (fun a' w' h3 => ⟨h3.2.1, ih (listed.setIfInBounds j true) a' w' (fun k ok hk hki hun hno => hfree k ok hk hki (hsub k hun) hno) (fun x hx => ?_) (fun k ok hk hki hun hm => hM k ok hk hki (hsub k hun) hm)
        (ready_mono hr (Ne.symm hji)) h3.1 (fun hP => (hS hP).trans (h3.2.1 oj hoj (hnM hP))) ?_⟩) h2
      · have hne : j ≠ x := fun he => hjl (he ▸ hx)
        rw [getD_set_ne true hne]; exact hlt x hx
      · rw [Array.setIfInBounds_comm _ _ hji]
        exact h3.2.2
end

end Go.Kz

/-
  Regions whose order is drawn.
-/
namespace Go.Kz
variable {R : Type}

theorem memN_iff {x : Nat} : {l : List Nat} → (memN x l = true ↔ x ∈ l)
  | [] => by simp [memN]
  | y :: l => by
    simp only [memN, List.mem_cons]
    cases h : Nat.beq y x with
    | true => simp [Nat.eq_of_beq_eq_true h]
    | false =>
      have hne : x ≠ y := by intro he; subst he; rw [Nat.beq_refl] at h; simp at h
      simp [hne, memN_iff (l := l)]
theorem allIn_iff {d : List Nat} : {l : List Nat} → (allIn l d = true ↔ ∀ x ∈ l, x ∈ d)
  | [] => by simp [allIn]
  | y :: l => by simp [allIn, memN_iff, allIn_iff (l := l)]
theorem anyIn_iff {d : List Nat} : {l : List Nat} → (anyIn l d = true ↔ ∃ x ∈ l, x ∈ d)
  | [] => by simp [anyIn]
  | y :: l => by simp [anyIn, memN_iff, anyIn_iff (l := l)]
theorem noneIn_iff {d : List Nat} : {l : List Nat} → (noneIn l d = true ↔ ∀ x ∈ l, x ∉ d)
  | [] => by simp [noneIn]
  | y :: l => by
    have := memN_iff (x := y) (l := d)
    simp only [noneIn, Bool.and_eq_true, noneIn_iff (l := l), List.mem_cons, forall_eq_or_imp]
    constructor
    · rintro ⟨h1, h2⟩
      refine ⟨fun h => ?_, h2⟩
      rw [this.2 h] at h1; simp at h1
    · rintro ⟨h1, h2⟩
      refine ⟨?_, h2⟩
      cases hm : memN y d with
      | true => exact absurd (this.1 hm) h1
      | false => rfl
theorem edgeOns_mem {x : Nat} : {l : List Edge} → (x ∈ edgeOns l ↔ ∃ e ∈ l, Region.binds .any e = true ∧ e.on = x)
  | [] => by simp [edgeOns]
  | e :: l => by
    simp only [edgeOns]
    cases hb : Region.binds .any e with
    | true =>
      simp only [cond_true, List.mem_cons, edgeOns_mem (l := l), exists_eq_or_imp, hb, true_and]
      exact or_congr ⟨Eq.symm, Eq.symm⟩ Iff.rfl
    | false =>
      simp only [cond_false, List.mem_cons, edgeOns_mem (l := l), exists_eq_or_imp, hb]
      simp
theorem tmpsL_mem {t : Nat} : {l : List Operand} → (t ∈ tmpsL l ↔ .tmp t ∈ l)
  | [] => by simp [tmpsL]
  | x :: l => by cases x <;> simp [tmpsL, tmpsL_mem (l := l)]

section
variable {P : Program} {ops : Array Oper} {Q : Exit → Act → World → Prop}

theorem looksL_of {o : Oper} {t : Nat} (h : t ∈ o.looksAt ops) : looksL (dstOf ops.toList) o t = true := by
  simp only [Oper.looksAt, List.mem_append, List.mem_filterMap] at h
  simp only [looksL, Bool.or_eq_true, memN_iff, tmpsL_mem]
  rcases h with ⟨x, hx, h⟩ | h
  · left
    cases x <;> simp at h
    subst h; exact hx
  · right
    unfold guardL
    cases hg : o.guard with
    | none => rw [hg] at h; simp at h
    | some gw =>
      obtain ⟨j, want⟩ := gw
      rw [hg] at h
      simp only at h
      have e := dstOf_eq (ops := ops) j
      cases hd : (ops[j]?).bind (·.dst) with
      | none => rw [hd] at h; simp at h
      | some d =>
        rw [hd] at h e
        simp only [e]
        simpa using h

theorem apartL_ok {x y : Oper} (h : apartL (dstOf ops.toList) x y = true) : x.apart ops y = true := by
  unfold apartL at h
  simp only [Bool.and_eq_true] at h
  unfold Oper.apart
  simp only [Bool.and_eq_true]
  have hno : ∀ (o : Oper) (d : Nat), (!looksL (dstOf ops.toList) o d) = true → (!(o.looksAt ops).contains d) = true := by
    intro o d hd
    cases hc : (o.looksAt ops).contains d with
    | false => rfl
    | true =>
      have := looksL_of (ops := ops) (List.contains_iff_mem.1 hc)
      rw [this] at hd; simp at hd
  constructor
  · have h1 := h.1
    cases hx : x.dst with
    | none => rfl
    | some d =>
      rw [hx] at h1
      simp only [Bool.and_eq_true] at h1 ⊢
      refine ⟨hno y d h1.1, ?_⟩
      have h2 := h1.2
      cases hy : y.dst with
      | none => simp
      | some e =>
        rw [hy] at h2
        simp only [bne_iff_ne, ne_eq, Option.some.injEq]
        intro he
        subst he
        simp [Nat.beq_refl] at h2
  · have h2 := h.2
    cases hy : y.dst with
    | none => rfl
    | some d => rw [hy] at h2; exact hno x d h2

structure Rel (ops : Array Oper) (listed : Array Bool) (done : List Nat) : Prop where
  size : listed.size = ops.size
  get : ∀ j, j < ops.size → listed[j]? = some (memN j done)

theorem Rel.getD {listed : Array Bool} {done : List Nat} (h : Rel ops listed done) {j : Nat} (hj : j < ops.size) (d : Bool) : listed.getD j d = memN j done := by
  simp [Array.getD_eq_getD_getElem?, h.get j hj]
theorem Rel.start : Rel ops (Array.replicate ops.size false) [] := ⟨by simp, fun j hj => by simp [hj, memN]⟩
theorem Rel.add {listed : Array Bool} {done : List Nat} (h : Rel ops listed done) {i : Nat} : Rel ops (listed.setIfInBounds i true) (i :: done) := by
  refine ⟨by simp [h.size], fun j hj => ?_⟩
  rw [Array.getElem?_setIfInBounds]
  have hlt : j < listed.size := by rw [h.size]; exact hj
  by_cases hij : i = j
  · subst hij
    simp [hlt, memN, Nat.beq_refl]
  · rw [if_neg hij, h.get j hj]
    have : Nat.beq i j = false := by
      cases hb : Nat.beq i j with
      | true => exact absurd (Nat.eq_of_beq_eq_true hb) hij
      | false => rfl
    simp [memN, this]

/-- The list check's words in the kit's. -/
structure Plain' (ops : Array Oper) : Prop where
  sel : ∀ (j : Nat) (o : Oper) cs b, ops[j]? = some o → o.op ≠ .select cs b

theorem numbered_of {j : Nat} {o : Oper} (h : ops[j]? = some o) : (j, o) ∈ numbered 0 ops.toList := by
  have key : ∀ (l : List Oper) (i j : Nat), l[j]? = some o → (i + j, o) ∈ numbered i l := by
    intro l
    induction l with
    | nil => intro i j h; simp at h
    | cons x l ih =>
      intro i j h
      cases j with
      | zero => simp only [List.getElem?_cons_zero, Option.some.injEq] at h; subst h; simp [numbered]
      | succ j =>
        have := ih (i + 1) j (by simpa using h)
        simp only [numbered, List.mem_cons]
        right
        have e : i + (j + 1) = i + 1 + j := by omega
        rw [e]; exact this
  have := key ops.toList 0 j (by rw [Array.getElem?_toList]; exact h)
  simpa using this
theorem size_of {j : Nat} {o : Oper} (h : ops[j]? = some o) : j < ops.size := (Array.getElem?_eq_some_iff.1 h).1

theorem plainL_ok : (l : List (Nat × Oper)) → plainL l = true → ∀ x ∈ l, ∀ cs b, x.2.op ≠ .select cs b
  | [], _, _, hx => by simp at hx
  | (i, o) :: l, h, x, hx => by
    simp only [plainL, Bool.and_eq_true] at h
    rcases List.mem_cons.1 hx with rfl | hx
    · intro cs b hs
      have := h.1
      rw [hs] at this; simp at this
    · exact plainL_ok l h.2 x hx
theorem plain_of (h : plainL (numbered 0 ops.toList) = true) : Plain' ops :=
  ⟨fun j o cs b ho => plainL_ok _ h _ (numbered_of ho) cs b⟩

theorem ready_iff {listed : Array Bool} {done : List Nat} (hr : Rel ops listed done) {j : Nat} {o : Oper} (ho : ops[j]? = some o) :
    j ∈ Region.ready .any ops listed ↔ j ∉ done ∧ ∀ e ∈ o.after, Region.binds .any e = true → e.on ∈ done ∧ e.on < ops.size := by
  rw [mem_ready]
  have hj := size_of ho
  rw [hr.getD hj]
  have hb : ∀ x, memN x done = false ↔ x ∉ done := fun x => by
    rw [← memN_iff]; simp
  rw [hb]
  refine and_congr Iff.rfl ⟨?_, ?_⟩
  · rintro ⟨o', ho', hall⟩ e he hbe
    rw [ho] at ho'
    simp only [Option.some.injEq] at ho'
    subst ho'
    have := hall e he hbe
    by_cases hlt : e.on < ops.size
    · rw [hr.getD hlt, memN_iff] at this
      exact ⟨this, hlt⟩
    · have hn : listed[e.on]? = none := by rw [Array.getElem?_eq_none_iff, hr.size]; omega
      simp [Array.getD_eq_getD_getElem?, hn] at this
  · intro hall
    refine ⟨o, ho, fun e he hbe => ?_⟩
    obtain ⟨h1, h2⟩ := hall e he hbe
    rw [hr.getD h2, memN_iff]; exact h1

theorem memN_false {x : Nat} {l : List Nat} : memN x l = false ↔ x ∉ l := by
  rw [← memN_iff]; simp

theorem laterL_sub {i x : Nat} : {l : List (Nat × Oper)} → {acc : List Nat} → x ∈ acc → x ∈ laterL i l acc
  | [], _, h => h
  | (j, o) :: l, acc, h => by
    simp only [laterL]
    refine laterL_sub (l := l) ?_
    cases (memN i (edgeOns o.after.toList) || anyIn (edgeOns o.after.toList) acc) with
    | true => simp [h]
    | false => exact h
theorem laterL_mem {i : Nat} : {l : List (Nat × Oper)} → {acc : List Nat} → {G : Nat → Prop} →
    (∀ x ∈ acc, G x) → (∀ j o, (j, o) ∈ l → (∃ y ∈ edgeOns o.after.toList, y = i ∨ y ∈ laterL i l acc) → G j) → ∀ x ∈ laterL i l acc, G x
  | [], _, _, h, _, x, hx => h x hx
  | (j, o) :: l, acc, G, h, hG, x, hx => by
    simp only [laterL] at hx hG
    refine laterL_mem (l := l) ?_ (fun j' o' hm hy => hG j' o' (by simp [hm]) hy) x hx
    intro y hy
    cases hc : (memN i (edgeOns o.after.toList) || anyIn (edgeOns o.after.toList) acc) with
    | false => rw [hc] at hy; exact h y hy
    | true =>
      rw [hc] at hy hG
      simp only [cond_true, List.mem_cons] at hy hG
      rcases hy with rfl | hy
      · refine hG y o (by simp) ?_
        simp only [Bool.or_eq_true, memN_iff, anyIn_iff] at hc
        rcases hc with hc | ⟨z, hz, hza⟩
        · exact ⟨i, hc, .inl rfl⟩
        · exact ⟨z, hz, .inr (laterL_sub (by simp [hza]))⟩
      · exact h y hy

theorem freeL_ok {dst : Nat → Option Nat} {done later : List Nat} {i : Nat} {o : Oper} : {l : List (Nat × Oper)} → freeL dst done later i o l = true → ∀ x ∈ l,
    x.1 = i ∨ x.1 ∈ done ∨ ((i ∈ edgeOns x.2.after.toList ∨ apartL dst o x.2 = true) ∧ (isP o = true ∨ isM x.2 = false ∨ x.1 ∈ later))
  | [], _, x, hx => by simp at hx
  | (j, oj) :: l, h, x, hx => by
    simp only [freeL, Bool.and_eq_true] at h
    rcases List.mem_cons.1 hx with rfl | hx
    · have h1 := h.1
      simp only [Bool.or_eq_true, Bool.and_eq_true, memN_iff, Bool.not_eq_true'] at h1
      rcases h1 with (h1 | h1) | h1
      · exact .inl (Nat.eq_of_beq_eq_true h1)
      · exact .inr (.inl h1)
      · exact .inr (.inr ⟨h1.1, or_assoc.1 h1.2⟩)
    · exact freeL_ok h.2 x hx
theorem aloneL_ok {done : List Nat} {i : Nat} : {l : List (Nat × Oper)} → aloneL done i l = true → ∀ x ∈ l, x.1 = i ∨ x.1 ∈ done ∨ readyL done x.2 = false
  | [], _, x, hx => by simp at hx
  | (j, oj) :: l, h, x, hx => by
    simp only [aloneL, Bool.and_eq_true] at h
    rcases List.mem_cons.1 hx with rfl | hx
    · have h1 := h.1
      simp only [Bool.or_eq_true, memN_iff, Bool.not_eq_true'] at h1
      rcases h1 with (h1 | h1) | h1
      · exact .inl (Nat.eq_of_beq_eq_true h1)
      · exact .inr (.inl h1)
      · exact .inr (.inr h1)
    · exact aloneL_ok h.2 x hx

theorem readyL_iff {listed : Array Bool} {done : List Nat} (hr : Rel ops listed done) (hd : ∀ x ∈ done, x < ops.size) {j : Nat} {o : Oper} (ho : ops[j]? = some o) :
    j ∈ Region.ready .any ops listed ↔ j ∉ done ∧ readyL done o = true := by
  rw [ready_iff hr ho]
  refine and_congr Iff.rfl ?_
  unfold readyL
  rw [allIn_iff]
  constructor
  · intro h x hx
    obtain ⟨e, he, hbe, rfl⟩ := edgeOns_mem.1 hx
    exact (h e (by simpa using he) hbe).1
  · intro h e he hbe
    have := h e.on (edgeOns_mem.2 ⟨e, by simpa using he, hbe, rfl⟩)
    exact ⟨this, hd _ this⟩

theorem LStep.wpOp {i : Nat} {o : Oper} {K : Act → World → Prop} {a : Act} {w : World} (hi : ops[i]? = some o) (h : LStep P ops Q o K a w) :
    wpOp P ops Q i (fun a' w' => (∀ o, ops[i]? = some o → isM o = false → Agree w w') ∧ K a' w') a w := by
  unfold LStep at h
  unfold Go.wpOp
  simp only [hi, Option.some.injEq]
  split
  · rename_i hw
    rw [if_pos hw] at h
    left
    rcases h with ⟨_, v, h1, h2⟩ | ⟨_, h1⟩
    · exact Yield_wp (h1 w (AgP.refl _ w)) ⟨fun _ _ _ => Agree.refl w, h2⟩
    · exact Oper.wp_mono (fun a' w' hh => ⟨fun o' ho' hm => hh.1 (by rw [ho']; exact hm), hh.2⟩) h1
  · rename_i hw
    rw [if_neg hw] at h
    exact ⟨fun _ _ _ => Agree.refl w, h⟩

theorem order_ok (hp : Plain' ops) (hQ : ∀ c a w, ¬ Q (.panic c) a w) : (L : List (Nat × Oper)) → (∀ x ∈ L, ops[x.1]? = some x.2) → {listed : Array Bool} → {done : List Nat} → {a : Act} → {w : World} → {fuel : Nat} →
    L.length ≤ fuel → Rel ops listed done → (∀ x ∈ done, x < ops.size) → okOrder (dstOf ops.toList) (numbered 0 ops.toList) L done = true → wpL P ops Q (Q .normal) L a w → anyG P .any ops Q fuel listed a w
  | [], _, listed, done, a, w, fuel, _, hr, hd, ho, h => by
    simp only [okOrder] at ho
    have hnone : Region.ready .any ops listed = [] := by
      rw [List.eq_nil_iff_forall_not_mem]
      intro j hj
      obtain ⟨_, o, hoj, _⟩ := mem_ready.1 hj
      have h1 := (readyL_iff hr hd hoj).1 hj
      rcases aloneL_ok ho _ (numbered_of hoj) with h2 | h2 | h2
      · have h3 := numbered_lt (numbered_of hoj)
        have h4 : (numbered 0 ops.toList).length = ops.toList.length := by
          have := congrArg List.length (numbered_fst ops.toList 0)
          simpa using this
        simp only at h2 h3
        omega
      · exact h1.1 h2
      · rw [h1.2] at h2; simp at h2
    cases fuel with
    | zero => exact ⟨hnone, h⟩
    | succ f => exact ⟨fun _ => h, fun i hi => by rw [hnone] at hi; simp at hi⟩
  | (i, o) :: L, hL, listed, done, a, w, fuel, hf, hr, hd, ho, h => by
    simp only [okOrder, Bool.and_eq_true, Bool.not_eq_true'] at ho
    obtain ⟨⟨hni, hat⟩, hrest⟩ := ho
    have hi : ops[i]? = some o := hL (i, o) (by simp)
    have hlt := size_of hi
    obtain ⟨f, rfl⟩ : ∃ f, fuel = f + 1 := ⟨fuel - 1, by simp only [List.length_cons] at hf; omega⟩
    have hf' : L.length ≤ f := by simp only [List.length_cons] at hf; omega
    have hd' : ∀ x ∈ i :: done, x < ops.size := by
      intro x hx
      rcases List.mem_cons.1 hx with rfl | hx
      · exact hlt
      · exact hd x hx
    have ih : ∀ {a' w'}, wpL P ops Q (Q .normal) L a' w' → anyG P .any ops Q f (listed.setIfInBounds i true) a' w' := fun {a' w'} h' =>
      order_ok hp hQ L (fun x hx => hL x (by simp [hx])) hf' hr.add hd' hrest h'
    simp only [okAt, Bool.and_eq_true, Bool.or_eq_true] at hat
    have hir : i ∈ Region.ready .any ops listed := (readyL_iff hr hd hi).2 ⟨memN_false.1 hni, hat.1⟩
    have h' : LStep P ops Q o (wpL P ops Q (Q .normal) L) a w := h
    rcases hat.2 with ⟨⟨hy, hfree⟩, hnone⟩ | hal
    · have later_ok : ∀ x ∈ laterL i (numbered 0 ops.toList) [], x < ops.size ∧ ∀ ox, ops[x]? = some ox → ∃ e ∈ ox.after, Region.binds .any e = true ∧ (e.on = i ∨ e.on ∈ laterL i (numbered 0 ops.toList) []) := by
        refine laterL_mem (by simp) (fun j oj hm hy => ?_)
        have hoj := numbered_get _ hm
        refine ⟨size_of hoj, fun ox hox => ?_⟩
        simp only at hoj
        rw [hoj] at hox
        simp only [Option.some.injEq] at hox
        subst hox
        obtain ⟨y, hy1, hy2⟩ := hy
        obtain ⟨e, he, hbe, rfl⟩ := edgeOns_mem.1 hy1
        exact ⟨e, by simpa using he, hbe, hy2⟩
      have hyi : ∃ v, YieldsIf P ops (AgP o w) o v a ∧ wpL P ops Q (Q .normal) L (a.put o.dst v) w := by
        unfold LStep at h'
        split at h'
        · rename_i hw
          rcases h' with ⟨_, v, h1, h2⟩ | ⟨h1, _⟩
          · exact ⟨v, .inl ⟨hw, h1⟩, h2⟩
          · rw [hy] at h1; simp at h1
        · rename_i hw
          exact ⟨undef, .inr ⟨by simpa using hw, rfl⟩, h'⟩
      obtain ⟨v, hyv, hk⟩ := hyi
      have hun : ∀ j, j < ops.size → listed.getD j true = false → j ∉ done := fun j hj hu => by
        rw [hr.getD hj] at hu; exact memN_false.1 hu
      refine anyG_first (w0 := w) (Lt := laterL i (numbered 0 ops.toList) []) hi hp.sel hQ (fun x hx => (later_ok x hx).2) f listed a w ?_ ?_ ?_ hir hyv (AgP.refl o w) (ih hk)
      · intro j oj hoj hji hu hno
        rcases freeL_ok hfree _ (numbered_of hoj) with h1 | h1 | ⟨h1 | h1, _⟩
        · exact absurd h1 hji
        · exact absurd h1 (hun j (size_of hoj) hu)
        · obtain ⟨e, he, hbe, hei⟩ := edgeOns_mem.1 h1
          exact absurd hei (hno e (by simpa using he) hbe)
        · exact apartL_ok h1
      · intro x hx
        rw [hr.getD (later_ok x hx).1]
        exact memN_false.2 ((noneIn_iff.1 hnone) x hx)
      · intro j oj hoj hji hu hM
        rcases freeL_ok hfree _ (numbered_of hoj) with h1 | h1 | ⟨_, h1 | h1 | h1⟩
        · exact absurd h1 hji
        · exact absurd h1 (hun j (size_of hoj) hu)
        · exact .inr h1
        · rw [hM] at h1; simp at h1
        · exact .inl h1
    · refine ⟨fun h0 => (by rw [h0] at hir; cases hir), fun j hj => ?_⟩
      obtain ⟨_, oj, hoj, _⟩ := mem_ready.1 hj
      have h1 := (readyL_iff hr hd hoj).1 hj
      have hji : j = i := by
        rcases aloneL_ok hal _ (numbered_of hoj) with h2 | h2 | h2
        · exact h2
        · exact absurd h2 h1.1
        · rw [h1.2] at h2; simp at h2
      subst hji
      exact wpOp_mono (fun a' w' hh => ⟨hh.1, ih hh.2⟩) (h'.wpOp hi)

theorem orderL_mem {dst : Nat → Option Nat} {all : List (Nat × Oper)} : {n : Nat} → {done : List Nat} → ∀ x ∈ orderL dst all n done, x ∈ all
  | 0, _, x, hx => by simp [orderL] at hx
  | n + 1, done, x, hx => by
    simp only [orderL] at hx
    split at hx
    · rename_i i o hn
      have hmem : (i, o) ∈ all := by
        have key : ∀ (l : List (Nat × Oper)), nextL dst all done l = some (i, o) → (i, o) ∈ l := by
          intro l
          induction l with
          | nil => intro h; simp [nextL] at h
          | cons y l ih =>
            obtain ⟨j, oj⟩ := y
            intro h
            simp only [nextL] at h
            cases hc : (!memN j done && okAt dst all done j oj) with
            | true => rw [hc] at h; simp at h; simp [h.1, h.2]
            | false => rw [hc] at h; simp only [cond_false] at h; simp [ih h]
        exact key all hn
      rcases List.mem_cons.1 hx with rfl | hx
      · exact hmem
      · exact orderL_mem x hx
    · simp at hx
theorem orderL_len {dst : Nat → Option Nat} {all : List (Nat × Oper)} : (n : Nat) → (done : List Nat) → (orderL dst all n done).length ≤ n
  | 0, _ => by simp [orderL]
  | n + 1, done => by
    simp only [orderL]
    split
    · simp only [List.length_cons]; exact Nat.succ_le_succ (orderL_len n _)
    · simp
theorem okOrder_nodup {dst : Nat → Option Nat} {all : List (Nat × Oper)} : {L : List (Nat × Oper)} → {done : List Nat} → okOrder dst all L done = true → (L.map Prod.fst).Nodup ∧ ∀ x ∈ L, x.1 ∉ done
  | [], _, _ => ⟨by simp, by simp⟩
  | (i, o) :: L, done, h => by
    simp only [okOrder, Bool.and_eq_true, Bool.not_eq_true'] at h
    obtain ⟨h1, h2⟩ := okOrder_nodup h.2
    refine ⟨?_, fun x hx => ?_⟩
    · simp only [List.map_cons, List.nodup_cons]
      refine ⟨fun hm => ?_, h1⟩
      obtain ⟨x, hx, he⟩ := List.mem_map.1 hm
      exact h2 x hx (by simp [he])
    · rcases List.mem_cons.1 hx with rfl | hx
      · exact memN_false.1 h.1.1
      · exact fun hd => h2 x hx (by simp [hd])
end

end Go.Kz

/-
  Small facts: continuations of reads, operands in two states, what a callee is.
-/
namespace Go.Kz
variable {R : Type}

theorem castK_bind {a b : Ty} {d : a.den} {k : b.den → Option R} : castK a b d k = (castK a b d some).bind k := by
  unfold castK
  split <;> rfl
theorem nilK_bind {t : Ty} {k : t.den → Option R} : nilK t k = (nilK t some).bind k := by
  cases t <;> rfl

/-- The slots named hold the same. -/
def SameAt (l : List Operand) (σ σ' : St) : Prop := ∀ t, .tmp t ∈ l → σ'.slots t = σ.slots t
theorem ev_same {l : List Operand} {σ σ' : St} (h : SameAt l σ σ') {x : Operand} (hx : x ∈ l) : ev σ' x = ev σ x := by
  cases x with
  | tmp t => exact h t hx
  | const v =>
    unfold ev
    cases v with
    | slice a l c => cases a <;> cases l <;> cases c <;> rfl
    | _ => rfl
  | _ => rfl
theorem evs_same {l : List Operand} {σ σ' : St} (h : SameAt l σ σ') : {m : List Operand} → (∀ x ∈ m, x ∈ l) → evs σ' m = evs σ m
  | [], _ => rfl
  | x :: m, hm => by simp only [evs, ev_same h (hm x (by simp)), evs_same h (m := m) (fun y hy => hm y (by simp [hy]))]
theorem pureC_pick {a : AVal} : {l : List Callee} → {x : Callee} → pureC l = true → pickC a l = some x → ∃ p res F, x = .pure p res F
  | [], _, _, h => by simp [pickC] at h
  | .pure p res F :: l, x, hp, h => by
    simp only [pickC] at h
    cases hf : fits (Callee.pure p res F).args a with
    | true => rw [hf] at h; simp only [cond_true, Option.some.injEq] at h; exact ⟨p, res, F, h.symm⟩
    | false => rw [hf] at h; exact pureC_pick (by simpa [pureC] using hp) h
  | .mut _ _ _ _ :: l, x, hp, h => by simp [pureC] at hp
theorem calleeOf_id {σ : St} {x : Operand} {g a all : AVal} {f : Nat} (hx : ev σ x = some g) (h : calleeOf g a = some (f, all)) : calleeId σ x = some f := by
  unfold calleeOf at h
  unfold calleeId
  rw [hx]
  split at h
  · rename_i fid cap
    cases hl : leafC cap with
    | false => rw [hl] at h; simp at h
    | true =>
      rw [hl] at h
      simp only [cond_true, Option.some.injEq, Prod.mk.injEq] at h
      rw [← h.1]
  · rename_i fid t d
    cases hl : (leafC (splitC t d) && (splitC t d).sk.same t.sk) with
    | false => rw [hl] at h; simp at h
    | true =>
      rw [hl] at h
      simp only [cond_true, Option.some.injEq, Prod.mk.injEq] at h
      rw [← h.1]
  · simp at h

theorem getK_bind : (t : Ty) → (d : t.den) → (p : Path) → {R : Type} → {k : (u : Ty) → u.den → Option R} → getK t d p k = (getK t d p fun u e => some (AVal.data u e)).bind fun v => match v with
    | .data u e => k u e
    | _ => none
  | .pair a _, (x, _), .fst :: p, _, k => by simp only [getK]; exact getK_bind a x p
  | .pair _ b, (_, y), .snd :: p, _, k => by simp only [getK]; exact getK_bind b y p
  | .arr _ t, l, .idx i :: p, _, k => by
    simp only [getK]
    cases idx l i with
    | none => rfl
    | some x => exact getK_bind t x p
  | .sl true t, l, .idx i :: p, _, k => by
    simp only [getK]
    cases idx l i with
    | none => rfl
    | some x => exact getK_bind t x p
  | .int _, d, [], _, k => rfl
  | .bool, d, [], _, k => rfl
  | .str, d, [], _, k => rfl
  | .unit, d, [], _, k => rfl
  | .pair _ _, (_, _), [], _, k => rfl
  | .arr _ _, d, [], _, k => rfl
  | .sl true _, d, [], _, k => rfl
  | .sl false _, d, [], _, k => rfl
  | .ptr _, d, [], _, k => rfl
  | .fn _ _, d, [], _, k => rfl
  | .int _, d, s :: p, _, k => by cases s <;> rfl
  | .bool, d, s :: p, _, k => by cases s <;> rfl
  | .str, d, s :: p, _, k => by cases s <;> rfl
  | .unit, d, s :: p, _, k => by cases s <;> rfl
  | .sl false _, d, s :: p, _, k => by cases s <;> rfl
  | .ptr _, d, s :: p, _, k => by cases s <;> rfl
  | .fn _ _, d, s :: p, _, k => by cases s <;> rfl
  | .pair _ _, (_, _), .idx _ :: p, _, k => rfl
  | .arr _ _, d, .fst :: p, _, k => rfl
  | .arr _ _, d, .snd :: p, _, k => rfl
  | .sl true _, d, .fst :: p, _, k => rfl
  | .sl true _, d, .snd :: p, _, k => rfl
theorem getA_bind : (a : AVal) → (p : Path) → {R : Type} → {k : AVal → Option R} → getA a p k = (getA a p some).bind k
  | a, [], _, k => by cases a <;> rfl
  | .agg c, s :: p, _, k => by simp only [getA]; exact getA_bind c (s :: p)
  | .pr a _, .fst :: p, _, k => by simp only [getA]; exact getA_bind a p
  | .pr _ b, .snd :: p, _, k => by simp only [getA]; exact getA_bind b p
  | .pr _ _, .idx _ :: p, _, k => rfl
  | .data t d, s :: p, _, k => by
    simp only [getA]
    rw [getK_bind t d (s :: p), getK_bind t d (s :: p) (k := fun u e => some (AVal.data u e))]
    cases getK t d (s :: p) (fun u e => some (AVal.data u e)) with
    | none => rfl
    | some v => cases v <;> rfl
  | .nilS, s :: p, _, k => by cases s <;> rfl
  | .ref _ _ _, s :: p, _, k => by cases s <;> rfl
  | .view _ _ _ _ _, s :: p, _, k => by cases s <;> rfl
  | .bptr _ _, s :: p, _, k => by cases s <;> rfl
  | .eptr _ _ _, s :: p, _, k => by cases s <;> rfl
  | .mref _, s :: p, _, k => by cases s <;> rfl
  | .nv _ _ _ _, s :: p, _, k => by cases s <;> rfl
  | .clos _ _, s :: p, _, k => by cases s <;> rfl
  | .tup _, s :: p, _, k => by cases s <;> rfl
  | .un, s :: p, _, k => by cases s <;> rfl

theorem St.ext' {a b : St} (h1 : a.slots = b.slots) (h2 : a.objs = b.objs) (h3 : a.next = b.next) : a = b := by
  cases a; cases b; simp only at h1 h2 h3; subst h1; subst h2; subst h3; rfl


end Go.Kz

/-
  Regions whose order is drawn: the operations that may be taken one by one, ahead of the rest.
-/
namespace Go.Kz
variable {R : Type}

section
variable {P : Program} {ops : Array Oper} {Q : Exit → Act → World → Prop}

theorem addDone_mem {x : Nat} : {l : List (Nat × Oper)} → {d : List Nat} → (x ∈ addDone l d ↔ x ∈ d ∨ x ∈ l.map Prod.fst)
  | [], d => by simp [addDone]
  | (i, o) :: l, d => by
    simp only [addDone, List.map_cons, List.mem_cons]
    rw [addDone_mem (l := l)]
    simp only [List.mem_cons]
    constructor
    · rintro ((h | h) | h)
      · exact .inr (.inl h)
      · exact .inl h
      · exact .inr (.inr h)
    · rintro (h | h | h)
      · exact .inl (.inr h)
      · exact .inl (.inl h)
      · exact .inr h

/-- Whether a number is done is all that counts. -/
theorem Rel.same {listed : Array Bool} {d d' : List Nat} (h : Rel ops listed d) (he : ∀ x, x ∈ d ↔ x ∈ d') : Rel ops listed d' := by
  refine ⟨h.size, fun j hj => ?_⟩
  rw [h.get j hj]
  congr 1
  rw [Bool.eq_iff_iff, memN_iff, memN_iff]; exact he j

theorem order_pre (hp : Plain' ops) (hQ : ∀ c a w, ¬ Q (.panic c) a w) {f : Nat} : (L : List (Nat × Oper)) → (∀ x ∈ L, ops[x.1]? = some x.2) → {listed : Array Bool} → {done : List Nat} → {a : Act} → {w : World} →
    Rel ops listed done → (∀ x ∈ done, x < ops.size) → okRun (dstOf ops.toList) (numbered 0 ops.toList) L done = true →
    wpL P ops Q (fun a w => ∀ listed', Rel ops listed' (addDone L done) → anyG P .any ops Q f listed' a w) L a w → anyG P .any ops Q (L.length + f) listed a w
  | [], _, listed, done, a, w, hr, hd, ho, h => by
    rw [List.length_nil, Nat.zero_add]
    exact h listed hr
  | (i, o) :: L, hL, listed, done, a, w, hr, hd, ho, h => by
    simp only [okRun, Bool.and_eq_true, Bool.not_eq_true'] at ho
    obtain ⟨⟨hni, hat⟩, hrest⟩ := ho
    have hi : ops[i]? = some o := hL (i, o) (by simp)
    have hlt := size_of hi
    have hd' : ∀ x ∈ i :: done, x < ops.size := by
      intro x hx
      rcases List.mem_cons.1 hx with rfl | hx
      · exact hlt
      · exact hd x hx
    have e0 : ((i, o) :: L).length + f = (L.length + f) + 1 := by simp only [List.length_cons]; omega
    rw [e0]
    have ih : ∀ {a' w'}, wpL P ops Q (fun a w => ∀ listed', Rel ops listed' (addDone ((i, o) :: L) done) → anyG P .any ops Q f listed' a w) L a' w' → anyG P .any ops Q (L.length + f) (listed.setIfInBounds i true) a' w' := fun {a' w'} h' =>
      order_pre hp hQ L (fun x hx => hL x (by simp [hx])) hr.add hd' hrest h'
    simp only [okAt, Bool.and_eq_true, Bool.or_eq_true] at hat
    have hir : i ∈ Region.ready .any ops listed := (readyL_iff hr hd hi).2 ⟨memN_false.1 hni, hat.1⟩
    have h' : LStep P ops Q o (wpL P ops Q (fun a w => ∀ listed', Rel ops listed' (addDone ((i, o) :: L) done) → anyG P .any ops Q f listed' a w) L) a w := h
    rcases hat.2 with ⟨⟨hy, hfree⟩, hnone⟩ | hal
    · have later_ok : ∀ x ∈ laterL i (numbered 0 ops.toList) [], x < ops.size ∧ ∀ ox, ops[x]? = some ox → ∃ e ∈ ox.after, Region.binds .any e = true ∧ (e.on = i ∨ e.on ∈ laterL i (numbered 0 ops.toList) []) := by
        refine laterL_mem (by simp) (fun j oj hm hy => ?_)
        have hoj := numbered_get _ hm
        refine ⟨size_of hoj, fun ox hox => ?_⟩
        simp only at hoj
        rw [hoj] at hox
        simp only [Option.some.injEq] at hox
        subst hox
        obtain ⟨y, hy1, hy2⟩ := hy
        obtain ⟨e, he, hbe, rfl⟩ := edgeOns_mem.1 hy1
        exact ⟨e, by simpa using he, hbe, hy2⟩
      have hyi : ∃ v, YieldsIf P ops (AgP o w) o v a ∧ wpL P ops Q (fun a w => ∀ listed', Rel ops listed' (addDone ((i, o) :: L) done) → anyG P .any ops Q f listed' a w) L (a.put o.dst v) w := by
        unfold LStep at h'
        split at h'
        · rename_i hw
          rcases h' with ⟨_, v, h1, h2⟩ | ⟨h1, _⟩
          · exact ⟨v, .inl ⟨hw, h1⟩, h2⟩
          · rw [hy] at h1; simp at h1
        · rename_i hw
          exact ⟨undef, .inr ⟨by simpa using hw, rfl⟩, h'⟩
      obtain ⟨v, hyv, hk⟩ := hyi
      have hun : ∀ j, j < ops.size → listed.getD j true = false → j ∉ done := fun j hj hu => by
        rw [hr.getD hj] at hu; exact memN_false.1 hu
      refine anyG_first (w0 := w) (Lt := laterL i (numbered 0 ops.toList) []) hi hp.sel hQ (fun x hx => (later_ok x hx).2) _ listed a w ?_ ?_ ?_ hir hyv (AgP.refl o w) (ih hk)
      · intro j oj hoj hji hu hno
        rcases freeL_ok hfree _ (numbered_of hoj) with h1 | h1 | ⟨h1 | h1, _⟩
        · exact absurd h1 hji
        · exact absurd h1 (hun j (size_of hoj) hu)
        · obtain ⟨e, he, hbe, hei⟩ := edgeOns_mem.1 h1
          exact absurd hei (hno e (by simpa using he) hbe)
        · exact apartL_ok h1
      · intro x hx
        rw [hr.getD (later_ok x hx).1]
        exact memN_false.2 ((noneIn_iff.1 hnone) x hx)
      · intro j oj hoj hji hu hM
        rcases freeL_ok hfree _ (numbered_of hoj) with h1 | h1 | ⟨_, h1 | h1 | h1⟩
        · exact absurd h1 hji
        · exact absurd h1 (hun j (size_of hoj) hu)
        · exact .inr h1
        · rw [hM] at h1; simp at h1
        · exact .inl h1
    · refine ⟨fun h0 => (by rw [h0] at hir; cases hir), fun j hj => ?_⟩
      obtain ⟨_, oj, hoj, _⟩ := mem_ready.1 hj
      have h1 := (readyL_iff hr hd hoj).1 hj
      have hji : j = i := by
        rcases aloneL_ok hal _ (numbered_of hoj) with h2 | h2 | h2
        · exact h2
        · exact absurd h2 h1.1
        · rw [h1.2] at h2; simp at h2
      subst hji
      exact wpOp_mono (fun a' w' hh => ⟨hh.1, ih hh.2⟩) (h'.wpOp hi)

theorem apartL_dst {dst : Nat → Option Nat} {x y : Oper} (h : apartL dst x y = true) {d e : Nat} (hx : x.dst = some d) (hy : y.dst = some e) :
    d ≠ e ∧ (.tmp d) ∉ y.op.operands.toList ∧ (.tmp e) ∉ x.op.operands.toList := by
  unfold apartL at h
  rw [hx, hy] at h
  simp only [Bool.and_eq_true, Bool.not_eq_true'] at h
  obtain ⟨⟨h1, h2⟩, h3⟩ := h
  refine ⟨?_, ?_, ?_⟩
  · intro he; subst he; rw [Nat.beq_refl] at h2; simp at h2
  · intro hm
    simp only [looksL, Bool.or_eq_false_iff] at h1
    rw [memN_false] at h1
    exact h1.1 (tmpsL_mem.2 hm)
  · intro hm
    simp only [looksL, Bool.or_eq_false_iff] at h3
    rw [memN_false] at h3
    exact h3.1 (tmpsL_mem.2 hm)

theorem okRun_new {dst : Nat → Option Nat} {all : List (Nat × Oper)} : {L : List (Nat × Oper)} → {done : List Nat} → okRun dst all L done = true → (L.map Prod.fst).Nodup ∧ ∀ x ∈ L, x.1 ∉ done
  | [], _, _ => ⟨by simp, by simp⟩
  | (i, o) :: L, done, h => by
    simp only [okRun, Bool.and_eq_true, Bool.not_eq_true'] at h
    obtain ⟨h1, h2⟩ := okRun_new h.2
    refine ⟨?_, fun x hx => ?_⟩
    · simp only [List.map_cons, List.nodup_cons]
      refine ⟨fun hm => ?_, h1⟩
      obtain ⟨x, hx, he⟩ := List.mem_map.1 hm
      exact h2 x hx (by simp [he])
    · rcases List.mem_cons.1 hx with rfl | hx
      · exact memN_false.1 h.1.1
      · exact fun hd => h2 x hx (by simp [hd])
theorem anyG_cast {n m : Nat} (h : n = m) {md : Region.Mode} {l : Array Bool} {a : Act} {w : World} (hg : anyG P md ops Q n l a w) : anyG P md ops Q m l a w := h ▸ hg
end

end Go.Kz
