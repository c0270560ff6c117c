/-
  Regions whose order is drawn: operations that look at different objects may be taken in any order.
-/
import Derived.Test.YtakifbcgkbfclaaKzADE
set_option linter.unusedVariables false
set_option linter.unusedSimpArgs false
namespace Go.Kz
variable {R : Type}

/-- One operation of a run, and what it leaves. -/
structure Ent where
  i : Nat
  o : Oper
  F : List Nat
  e : Eff

structure Good (base : Nat) (t : Ent) : Prop where
  guard : t.o.guard = none
  junk : isJunk t.o = false
  sl : ∀ d v, t.e.sl = some (d, v) → t.o.dst = some d
  ob : ∀ x ∈ t.e.ob, inF base t.i t.F x.1 = true
  y : isY0 t.o = true → t.e.ob = []

def Loc (c : Ctx) (base : Nat) (t : Ent) (σ : St) : Prop :=
  ∀ τ, SameAt t.o.op.operands.toList σ τ → (∀ id, inF base t.i t.F id = true → τ.objs id = σ.objs id) → ∀ (R' : Type) (k' : St → Option R'), opK0 c τ (base + 8 * t.i) t.o k' = k' (t.e.app τ)

def Tr (c : Ctx) (base : Nat) : List Ent → St → St → Prop
  | [], σ, σE => σ = σE
  | t :: T, σ, σE => Loc c base t σ ∧ Tr c base T (t.e.app σ) σE

abbrev Ind (base : Nat) (dst : Nat → Option Nat) (s t : Ent) : Prop := indep base dst s.i s.o s.F t.i t.o t.F = true

theorem Loc.cong {c : Ctx} {base : Nat} {t : Ent} {σ σ' : St} (h : Loc c base t σ) (hs : SameAt t.o.op.operands.toList σ σ') (ho : ∀ id, inF base t.i t.F id = true → σ'.objs id = σ.objs id) : Loc c base t σ' :=
  fun τ h1 h2 => h τ (fun x hx => (h1 x hx).trans (hs x hx)) (fun id hid => (h2 id hid).trans (ho id hid))

theorem Eff.slot_objs (e : Eff) (σ : St) : (e.slot σ).objs = σ.objs := by unfold Eff.slot; split <;> rfl
theorem Eff.slot_next (e : Eff) (σ : St) : (e.slot σ).next = σ.next := by unfold Eff.slot; split <;> rfl
theorem Eff.app_off {e : Eff} {σ : St} {i : Nat} (h : i ∉ e.ob.map Prod.fst) : (e.app σ).objs i = σ.objs i := by
  unfold Eff.app
  rw [putO_off _ _ h, Eff.slot_objs]
theorem Eff.app_slots (e : Eff) (σ : St) : (e.app σ).slots = (e.slot σ).slots := putO_slots _ _
theorem Eff.app_next (e : Eff) (σ : St) : (e.app σ).next = σ.next := by
  unfold Eff.app
  rw [putO_next, Eff.slot_next]

theorem run_loc {c : Ctx} {base : Nat} {i : Nat} {o : Oper} {F : List Nat} {e : Eff} {σ : St} (h : Run c (σ.only (inF base i F)) (base + 8 * i) o e) : Loc c base ⟨i, o, F, e⟩ σ := by
  intro τ hs ho R' k'
  refine h.eq τ hs (fun id x hx => ?_) R' k'
  simp only [St.only] at hx
  cases hp : inF base i F id with
  | false => rw [hp] at hx; simp at hx
  | true => rw [hp] at hx; rw [ho id hp]; exact hx
theorem inF_range {base i : Nat} {F : List Nat} {x : Nat} (h : base + 8 * i ≤ x ∧ x < base + 8 * i + 8) : inF base i F x = true := by
  have h1 : Nat.ble (base + 8 * i) x = true := Nat.ble_eq_true_of_le h.1
  have h2 : Nat.blt x (base + 8 * i + 8) = true := Nat.ble_eq_true_of_le h.2
  simp only [inF, h1, h2, Bool.and_self, Bool.or_true]
theorem inF_iff {base i : Nat} {F : List Nat} {x : Nat} : inF base i F x = true ↔ x ∈ F ∨ (base + 8 * i ≤ x ∧ x < base + 8 * i + 8) := by
  simp only [inF, Bool.or_eq_true, Bool.and_eq_true, memN_iff]
  refine or_congr Iff.rfl (and_congr ⟨fun h => Nat.le_of_ble_eq_true h, fun h => Nat.ble_eq_true_of_le h⟩ ⟨fun h => Nat.le_of_ble_eq_true h, fun h => Nat.ble_eq_true_of_le h⟩)
theorem run_ob {c : Ctx} {base : Nat} {i : Nat} {o : Oper} {F : List Nat} {e : Eff} {σ : St} (h : Run c (σ.only (inF base i F)) (base + 8 * i) o e) : ∀ x ∈ e.ob, inF base i F x.1 = true := by
  intro x hx
  rcases h.ob x hx with ⟨y, hy⟩ | h2
  · simp only [St.only] at hy
    cases hp : inF base i F x.1 with
    | false => rw [hp] at hy; simp at hy
    | true => rfl
  · exact inF_range h2
theorem over_eq {p : Nat → Bool} {e : Eff} {σ : St} (h : ∀ x ∈ e.ob, p x.1 = true) : σ.over (e.app (σ.only p)) p = e.app σ := by
  refine St.ext' ?_ ?_ ?_
  · simp only [St.over, Eff.app_slots]
    unfold Eff.slot
    split <;> rfl
  · funext i
    simp only [St.over]
    cases hp : p i with
    | true =>
      simp only [cond_true]
      by_cases hm : i ∈ e.ob.map Prod.fst
      · exact putO_on _ _ _ hm
      · rw [Eff.app_off hm, Eff.app_off hm]
        simp only [St.only, hp, cond_true]
    | false =>
      simp only [cond_false]
      rw [Eff.app_off]
      intro hm
      obtain ⟨x, hx, he⟩ := List.mem_map.1 hm
      have := h x hx
      rw [he, hp] at this
      simp at this
  · exact (Eff.app_next e σ).symm

theorem pureG_only {c : Ctx} {σ : St} {p : Nat → Bool} {o : Oper} (h : pureG c σ o = true) : pureG c (σ.only p) o = true := by
  have he : ∀ x, ev (σ.only p) x = ev σ x := fun x => ev_same (l := [x]) (fun _ _ => rfl) (by simp)
  have hc : ∀ x, calleeId (σ.only p) x = calleeId σ x := fun x => by unfold calleeId; rw [he]
  unfold pureG at h ⊢
  simp only [hc]
  exact h

theorem okAcc_ok {base : Nat} {dst : Nat → Option Nat} {j : Nat} {p : Oper} {G : List Nat} : {acc : GAcc} → okAcc base dst j p G acc = true → ∀ a ∈ acc, j ∈ a.2.2 ∨ indep base dst a.1.1 a.1.2 a.2.1 j p G = true
  | [], _, a, ha => by simp at ha
  | ((i, o), F, lat) :: l, h, a, ha => by
    simp only [okAcc, Bool.and_eq_true, Bool.or_eq_true, memN_iff] at h
    rcases List.mem_cons.1 ha with rfl | ha
    · exact h.1
    · exact okAcc_ok h.2 a ha

theorem genK_tr {c : Ctx} {base : Nat} {dst : Nat → Option Nat} {all : List (Nat × Oper)} : (B : List (Nat × Oper)) → {acc : GAcc} → {σ : St} → {k : St → Option R} → {r : R} → plainG B = true → genK c base dst all B acc σ k = some r →
    ∃ T σE, T.map (fun t : Ent => (t.i, t.o)) = B ∧ Tr c base T σ σE ∧ k σE = some r ∧ (∀ t ∈ T, Good base t) ∧ (∀ t ∈ T, ∀ a ∈ acc, t.i ∈ a.2.2 ∨ indep base dst a.1.1 a.1.2 a.2.1 t.i t.o t.F = true) ∧
      T.Pairwise fun s t => t.i ∈ laterL s.i all [] ∨ Ind base dst s t
  | [], acc, σ, k, r, _, h => ⟨[], σ, rfl, rfl, h, by simp, by simp, List.Pairwise.nil⟩
  | (i, o) :: B, acc, σ, k, r, hp, h => by
    simp only [plainG, Bool.and_eq_true, Bool.not_eq_true'] at hp
    simp only [genK] at h
    obtain ⟨hc, h⟩ := cond_run h
    simp only [Bool.and_eq_true] at hc
    obtain ⟨e, h, hrun⟩ := opK0_run (pureG_only hc.1) h
    have hob := run_ob hrun
    rw [over_eq hob] at h
    obtain ⟨T, σE, h1, h2, h3, h4, h5, h6⟩ := genK_tr B hp.2 h
    refine ⟨⟨i, o, footG σ o, e⟩ :: T, σE, by simp [h1], ⟨run_loc hrun, h2⟩, h3, ?_, ?_, ?_⟩
    · intro t ht
      rcases List.mem_cons.1 ht with rfl | ht
      · refine ⟨?_, hp.1.2, hrun.sl, hob, hrun.y⟩
        have := hp.1.1
        cases hg : o.guard with
        | none => rfl
        | some g => rw [hg] at this; simp at this
      · exact h4 t ht
    · intro t ht a ha
      rcases List.mem_cons.1 ht with rfl | ht
      · exact okAcc_ok hc.2 a ha
      · exact h5 t ht a (by simp [ha])
    · refine List.pairwise_cons.2 ⟨fun t ht => ?_, h6⟩
      exact h5 t ht _ (List.mem_cons_self ..)

theorem outR_ok {base i : Nat} : {l : List Nat} → outR base i l = true → ∀ x ∈ l, ¬ (base + 8 * i ≤ x ∧ x < base + 8 * i + 8)
  | [], _, x, hx => by simp at hx
  | y :: l, h, x, hx => by
    simp only [outR, Bool.and_eq_true, Bool.not_eq_true'] at h
    rcases List.mem_cons.1 hx with rfl | hx
    · intro hr
      have h1 : Nat.ble (base + 8 * i) x = true := Nat.ble_eq_true_of_le hr.1
      have h2 : Nat.blt x (base + 8 * i + 8) = true := Nat.ble_eq_true_of_le hr.2
      rw [h1, h2] at h
      simp at h
    · exact outR_ok h.2 x hx

structure Apart (base : Nat) (dst : Nat → Option Nat) (s t : Ent) : Prop where
  ne : s.i ≠ t.i
  ap : apartL dst s.o t.o = true
  st : ∀ x ∈ s.e.ob, inF base t.i t.F x.1 = false
  ts : ∀ x ∈ t.e.ob, inF base s.i s.F x.1 = false
theorem ind_apart {base : Nat} {dst : Nat → Option Nat} {s t : Ent} (hs : Good base s) (ht : Good base t) (h : Ind base dst s t) : Apart base dst s t := by
  unfold Ind indep at h
  simp only [Bool.and_eq_true, Bool.or_eq_true, Bool.not_eq_true'] at h
  obtain ⟨⟨⟨⟨h1, h2⟩, h3⟩, h4⟩, h5⟩ := h
  have hne : s.i ≠ t.i := by
    intro he
    rw [he, Nat.beq_refl] at h1; simp at h1
  have h4' := outR_ok h4
  have h5' := outR_ok h5
  have fl : ∀ {b : Bool}, (b = true → False) → b = false := fun {b} h => by cases b; rfl; exact (h rfl).elim
  refine ⟨hne, h2, fun x hx => fl fun hin => ?_, fun x hx => fl fun hin => ?_⟩
  · rcases h3 with ⟨hy, _⟩ | hno
    · rw [hs.y hy] at hx; simp at hx
    · rw [noneIn_iff] at hno
      rcases inF_iff.1 (hs.ob x hx) with h | h <;> rcases inF_iff.1 hin with h' | h'
      · exact hno _ h h'
      · exact h5' _ h h'
      · exact h4' _ h' h
      · omega
  · rcases h3 with ⟨_, hy⟩ | hno
    · rw [ht.y hy] at hx; simp at hx
    · rw [noneIn_iff] at hno
      rcases inF_iff.1 (ht.ob x hx) with h | h <;> rcases inF_iff.1 hin with h' | h'
      · exact hno _ h' h
      · exact h4' _ h h'
      · exact h5' _ h' h
      · omega

theorem apartL_look {dst : Nat → Option Nat} {x y : Oper} (h : apartL dst x y = true) :
    (∀ d, x.dst = some d → (.tmp d) ∉ y.op.operands.toList) ∧ (∀ d, y.dst = some d → (.tmp d) ∉ x.op.operands.toList) ∧ ∀ d, x.dst = some d → y.dst ≠ some d := by
  unfold apartL at h
  simp only [Bool.and_eq_true] at h
  obtain ⟨h1, h2⟩ := h
  refine ⟨fun d hd hm => ?_, fun d hd hm => ?_, fun d hd he => ?_⟩
  · rw [hd] at h1
    simp only [Bool.and_eq_true, Bool.not_eq_true', looksL, Bool.or_eq_false_iff] at h1
    rw [memN_false] at h1
    exact h1.1.1 (tmpsL_mem.2 hm)
  · rw [hd] at h2
    simp only [Bool.not_eq_true', looksL, Bool.or_eq_false_iff] at h2
    rw [memN_false] at h2
    exact h2.1 (tmpsL_mem.2 hm)
  · rw [hd, he] at h1
    simp [Nat.beq_refl] at h1

theorem same_app {base : Nat} {s : Ent} {l : List Operand} (hs : Good base s) (h : ∀ d, s.o.dst = some d → (.tmp d) ∉ l) (σ : St) : SameAt l σ (s.e.app σ) := by
  intro x hx
  rw [Eff.app_slots]
  unfold Eff.slot
  split
  · rename_i d v hsl
    simp only [St.set, upd]
    have hb : Nat.beq x d = false := by
      cases hb : Nat.beq x d with
      | false => rfl
      | true =>
        have he := Nat.eq_of_beq_eq_true hb
        subst he
        exact absurd hx (h x (hs.sl x v hsl))
    rw [hb]; rfl
  · rfl
theorem objs_app {base i : Nat} {F : List Nat} {s : Ent} (h : ∀ x ∈ s.e.ob, inF base i F x.1 = false) (σ : St) : ∀ id, inF base i F id = true → (s.e.app σ).objs id = σ.objs id := by
  intro id hid
  refine Eff.app_off fun hm => ?_
  obtain ⟨x, hx, he⟩ := List.mem_map.1 hm
  have := h x hx
  rw [he, hid] at this; simp at this

theorem app_comm {base : Nat} {dst : Nat → Option Nat} {s t : Ent} (hs : Good base s) (ht : Good base t) (h : Apart base dst s t) (σ : St) : t.e.app (s.e.app σ) = s.e.app (t.e.app σ) := by
  have hno : ∀ i, i ∈ s.e.ob.map Prod.fst → i ∉ t.e.ob.map Prod.fst := by
    intro i h1 h2
    obtain ⟨x, hx, rfl⟩ := List.mem_map.1 h1
    obtain ⟨y, hy, he⟩ := List.mem_map.1 h2
    have q1 := h.st x hx
    have q2 := ht.ob y hy
    rw [he, q1] at q2; simp at q2
  refine St.ext' ?_ ?_ ?_
  · rw [Eff.app_slots, Eff.app_slots]
    funext i
    have e1 : ∀ (e : Eff) (a b : St), a.slots = b.slots → (e.slot a).slots = (e.slot b).slots := by
      intro e a b hab
      unfold Eff.slot
      split
      · simp only [St.set, hab]
      · exact hab
    rw [e1 t.e _ _ (Eff.app_slots s.e σ), e1 s.e _ _ (Eff.app_slots t.e σ)]
    unfold Eff.slot
    cases hsl : s.e.sl with
    | none => rfl
    | some x =>
      obtain ⟨d, v⟩ := x
      cases htl : t.e.sl with
      | none => rfl
      | some y =>
        obtain ⟨d', v'⟩ := y
        have hd := hs.sl d v hsl
        have hd' := ht.sl d' v' htl
        have hne : d ≠ d' := fun he => (apartL_look h.ap).2.2 d hd (by rw [he]; exact hd')
        simp only [St.set, upd]
        cases hb : Nat.beq i d' with
        | false => rfl
        | true =>
          have he := Nat.eq_of_beq_eq_true hb
          subst he
          have : Nat.beq i d = false := by
            cases hb2 : Nat.beq i d with
            | false => rfl
            | true => exact absurd (Nat.eq_of_beq_eq_true hb2).symm hne
          rw [this]; rfl
  · funext i
    by_cases h1 : i ∈ s.e.ob.map Prod.fst
    · rw [Eff.app_off (hno i h1)]
      exact putO_on _ _ _ h1
    · rw [Eff.app_off h1]
      by_cases h2 : i ∈ t.e.ob.map Prod.fst
      · exact putO_on _ _ _ h2
      · rw [Eff.app_off h2, Eff.app_off h2, Eff.app_off h1]
  · simp only [Eff.app_next]

/-- Any of them may be taken first. -/
theorem tr_front {c : Ctx} {base : Nat} {dst : Nat → Option Nat} {t : Ent} {post : List Ent} {σE : St} (ht : Good base t) : (pre : List Ent) → {σ : St} → (∀ s ∈ pre, Good base s ∧ Ind base dst s t) → Tr c base (pre ++ t :: post) σ σE →
    Loc c base t σ ∧ Tr c base (pre ++ post) (t.e.app σ) σE
  | [], σ, _, h => h
  | s :: pre, σ, hp, h => by
    obtain ⟨hg, hi⟩ := hp s (by simp)
    have ha := ind_apart hg ht hi
    obtain ⟨h1, h2⟩ := h
    obtain ⟨h3, h4⟩ := tr_front ht pre (fun x hx => hp x (by simp [hx])) h2
    have hl := apartL_look ha.ap
    have hsame : SameAt t.o.op.operands.toList σ (s.e.app σ) := same_app hg hl.1 σ
    refine ⟨h3.cong (fun x hx => (hsame x hx).symm) (fun id hid => (objs_app ha.st σ id hid).symm), ?_⟩
    refine ⟨h1.cong (same_app ht hl.2.1 σ) (objs_app ha.ts σ), ?_⟩
    rw [← app_comm hg ht ha]
    exact h4

/-- Each waits for those that are done or stand ahead of it. -/
def Lin : List Nat → List (Nat × Oper) → Prop
  | _, [] => True
  | d, (i, o) :: l => (∀ x ∈ edgeOns o.after.toList, x ∈ d) ∧ Lin (i :: d) l
theorem Lin.mono : {l : List (Nat × Oper)} → {d d' : List Nat} → (∀ x ∈ d, x ∈ d') → Lin d l → Lin d' l
  | [], _, _, _, _ => trivial
  | (i, o) :: l, d, d', hd, h => ⟨fun x hx => hd x (h.1 x hx), Lin.mono (fun x hx => by
      rcases List.mem_cons.1 hx with rfl | hx
      · simp
      · simp [hd x hx]) h.2⟩
theorem Lin.take {j : Nat} {p : Oper} {post : List (Nat × Oper)} : (pre : List (Nat × Oper)) → {d : List Nat} → Lin d (pre ++ (j, p) :: post) → Lin (j :: d) (pre ++ post)
  | [], d, h => h.2
  | (i, o) :: pre, d, h => ⟨fun x hx => List.mem_cons_of_mem _ (h.1 x hx), by
      refine (Lin.take pre h.2).mono fun x hx => ?_
      simp only [List.mem_cons] at hx ⊢
      rcases hx with h | h | h
      · exact .inr (.inl h)
      · exact .inl h
      · exact .inr (.inr h)⟩

section
variable {P : Program} {ops : Array Oper} {Q : Exit → Act → World → Prop}

theorem later_wait {b : Nat} : Waits .any ops b (laterL b (numbered 0 ops.toList) []) ∧ ∀ x ∈ laterL b (numbered 0 ops.toList) [], x < ops.size := by
  have := laterL_mem (i := b) (l := numbered 0 ops.toList) (acc := []) (G := fun x => x < ops.size ∧ ∀ ox, ops[x]? = some ox → ∃ e ∈ ox.after, Region.binds .any e = true ∧ (e.on = b ∨ e.on ∈ laterL b (numbered 0 ops.toList) [])) (by simp) (fun j oj hm hy => by
    have hoj := numbered_get _ hm
    refine ⟨size_of hoj, fun ox hox => ?_⟩
    simp only at hoj
    rw [hoj] at hox
    simp only [Option.some.injEq] at hox
    subst hox
    obtain ⟨y, hy1, hy2⟩ := hy
    obtain ⟨e, he, hbe, rfl⟩ := edgeOns_mem.1 hy1
    exact ⟨e, by simpa using he, hbe, hy2⟩)
  exact ⟨fun x hx => (this x hx).2, fun x hx => (this x hx).1⟩

theorem gen_ok {c : Ctx} {base : Nat} {g0 : Ghost} {w0 : World} {σ0 σE : St} {B0 : List Nat} (hc : CtxOK P c)
    (HK : ∀ g a w, StOK c.ntmps g w a σE → Ext w0 g0 w g → (∀ m, (∀ i ∈ B0, m < base + 8 * i ∨ base + 8 * i + 8 ≤ m) → Fresh g0 σ0 m → Fresh g σE m) → Q .normal a w) :
    (n : Nat) → {T : List Ent} → T.length = n → {σ : St} → {g : Ghost} → {a : Act} → {w : World} → {listed : Array Bool} → {done : List Nat} →
    Tr c base T σ σE → (∀ t ∈ T, Good base t ∧ ops[t.i]? = some t.o ∧ t.i ∈ B0) → (T.Pairwise fun s t => t.i ∈ laterL s.i (numbered 0 ops.toList) [] ∨ Ind base (dstOf ops.toList) s t) → (T.map Ent.i).Nodup →
    Lin done (T.map fun t => (t.i, t.o)) → StOK c.ntmps g w a σ → (∀ t ∈ T, ∀ m, base + 8 * t.i ≤ m → m < base + 8 * t.i + 8 → Fresh g σ m) → Rel ops listed done → (∀ x ∈ done, x < ops.size) → (∀ x, x < ops.size → (x ∈ done ↔ x ∉ T.map Ent.i)) →
    (∀ t ∈ T, ∀ x ∈ laterL t.i (numbered 0 ops.toList) [], x ∉ done) → Ext w0 g0 w g → (∀ m, (∀ i ∈ B0, m < base + 8 * i ∨ base + 8 * i + 8 ≤ m) → Fresh g0 σ0 m → Fresh g σ m) → anyG P .any ops Q n listed a w
  | 0, T, hl, σ, g, a, w, listed, done, htr, _, _, _, _, hst, _, hrel, hds, hdn, _, hext, hfo => by
    have hT : T = [] := List.eq_nil_of_length_eq_zero hl
    subst hT
    have htr' : σ = σE := htr
    subst htr'
    refine ⟨?_, HK g a w hst hext hfo⟩
    rw [List.eq_nil_iff_forall_not_mem]
    intro j hj
    obtain ⟨_, oj, hoj, _⟩ := mem_ready.1 hj
    have h1 := (readyL_iff hrel hds hoj).1 hj
    exact h1.1 ((hdn j (size_of hoj)).2 (by simp))
  | n + 1, T, hl, σ, g, a, w, listed, done, htr, hT, hpw, hnd, hlin, hst, hfr, hrel, hds, hdn, hinv, hext, hfo => by
    refine ⟨fun h0 => ?_, fun j hj => ?_⟩
    · exfalso
      cases T with
      | nil => simp at hl
      | cons t T =>
        obtain ⟨_, hto, _⟩ := hT t (by simp)
        have : t.i ∈ Region.ready .any ops listed := by
          refine (readyL_iff hrel hds hto).2 ⟨fun hd => ?_, ?_⟩
          · exact (hdn _ (size_of hto)).1 hd (by simp)
          · unfold readyL
            rw [allIn_iff]
            exact hlin.1
        rw [h0] at this; simp at this
    · obtain ⟨hjun, oj, hoj, _⟩ := mem_ready.1 hj
      have hrd := (readyL_iff hrel hds hoj).1 hj
      have hjT : j ∈ T.map Ent.i := by
        refine Classical.byContradiction fun hn => ?_
        exact hrd.1 ((hdn j (size_of hoj)).2 hn)
      obtain ⟨t, htT, hti⟩ := List.mem_map.1 hjT
      obtain ⟨pre, post, rfl⟩ := List.append_of_mem htT
      obtain ⟨hg, hto, htB⟩ := hT t htT
      have hmem : ∀ x ∈ pre ++ post, x ∈ pre ++ t :: post := by
        intro x hx
        rcases List.mem_append.1 hx with h | h
        · exact List.mem_append.2 (.inl h)
        · exact List.mem_append.2 (.inr (List.mem_cons_of_mem _ h))
      have hpre : ∀ s ∈ pre, Good base s ∧ Ind base (dstOf ops.toList) s t := by
        intro s hs
        have hsT : s ∈ pre ++ t :: post := List.mem_append.2 (.inl hs)
        obtain ⟨hgs, hso, _⟩ := hT s hsT
        refine ⟨hgs, ?_⟩
        rcases (List.pairwise_append.1 hpw).2.2 s hs t (by simp) with h | h
        · exfalso
          have hw := later_wait (ops := ops) (b := s.i)
          refine waits_not hw.1 (fun x hx => ?_) ?_ hj (hti ▸ h)
          · rw [hrel.getD (hw.2 x hx)]
            exact memN_false.2 (hinv s hsT x hx)
          · rw [hrel.getD (size_of hso)]
            refine memN_false.2 fun hd => ?_
            exact (hdn _ (size_of hso)).1 hd (List.mem_map.2 ⟨s, hsT, rfl⟩)
        · exact h
      obtain ⟨hloc, htr'⟩ := tr_front hg pre hpre htr
      have hojt : oj = t.o := by
        rw [← hti, hto] at hoj
        simpa using hoj.symm
      subst hojt
      subst hti
      have hne : ∀ x ∈ pre ++ post, x.i ≠ t.i := by
        intro x hx he
        have h1 : ((pre ++ t :: post).map Ent.i).Nodup := hnd
        rw [List.map_append, List.map_cons, List.nodup_append] at h1
        rcases List.mem_append.1 hx with hx | hx
        · exact h1.2.2 x.i (List.mem_map.2 ⟨x, hx, rfl⟩) t.i (by simp) he
        · exact (List.nodup_cons.1 h1.2.1).1 (List.mem_map.2 ⟨x, hx, he⟩)
      have hk : opK c σ (base + 8 * t.i) t.o some = some (t.e.app σ) := by
        simp only [opK, hg.junk, cond_false]
        exact hloc σ (fun _ _ => rfl) (fun _ _ => rfl) St some
      have hop : t.o.wp P a w (fun a' w' => (isM t.o = false → Agree w w') ∧ anyG P .any ops Q n (listed.setIfInBounds t.i true) a' w') Q := by
        refine op_ok (base := base + 8 * t.i) hc hst (fun m h1 h2 => hfr t htT m h1 h2) hk ?_
        intro σ1 g1 a1 w1 h1 hst1 hext1 hf1 hn1 hag
        refine ⟨hag, ?_⟩
        simp only [Option.some.injEq] at h1
        subst h1
        refine gen_ok hc HK n (T := pre ++ post) ?_ htr' (fun x hx => hT x (hmem x hx)) ?_ ?_ ?_ hst1 (fun x hx m q1 q2 => hf1 m ?_ (hfr x (hmem x hx) m q1 q2)) hrel.add (fun x hx => ?_) (fun x hx => ?_) (fun x hx y hy => ?_) (hext.trans hext1) (fun m hm hf => hf1 m (hm _ htB) (hfo m hm hf))
        · simp only [List.length_append, List.length_cons] at hl ⊢; omega
        · exact hpw.sublist (List.Sublist.append_left (List.sublist_cons_self _ _) pre)
        · exact hnd.sublist ((List.Sublist.append_left (List.sublist_cons_self _ _) pre).map _)
        · rw [List.map_append] at hlin ⊢
          exact Lin.take _ hlin
        · have := hne x hx; omega
        · rcases List.mem_cons.1 hx with rfl | hx
          · exact size_of hto
          · exact hds x hx
        · have h1 := hdn x hx
          simp only [List.mem_cons, h1, List.map_append, List.map_cons, List.mem_append, not_or]
          constructor
          · rintro (rfl | ⟨q1, q2, q3⟩)
            · refine ⟨fun hm => ?_, fun hm => ?_⟩
              · obtain ⟨y, hy, he⟩ := List.mem_map.1 hm
                exact hne y (List.mem_append.2 (.inl hy)) he
              · obtain ⟨y, hy, he⟩ := List.mem_map.1 hm
                exact hne y (List.mem_append.2 (.inr hy)) he
            · exact ⟨q1, q3⟩
          · rintro ⟨q1, q2⟩
            by_cases he : x = t.i
            · exact .inl he
            · exact .inr ⟨q1, he, q2⟩
        · intro hyd
          have hxT := hmem x hx
          obtain ⟨_, hxo, _⟩ := hT x hxT
          rcases List.mem_cons.1 hyd with rfl | hyd
          · have hw := later_wait (ops := ops) (b := x.i)
            refine waits_not hw.1 (fun z hz => ?_) ?_ hj hy
            · rw [hrel.getD (hw.2 z hz)]
              exact memN_false.2 (hinv x hxT z hz)
            · rw [hrel.getD (size_of hxo)]
              refine memN_false.2 fun hd => ?_
              exact (hdn _ (size_of hxo)).1 hd (List.mem_map.2 ⟨x, hxT, rfl⟩)
          · exact hinv x hxT y hy hyd
      unfold Go.wpOp
      simp only [hto]
      have hw : Region.wanted t.o (yielded ops a.tmps) = true := wanted_none hg.guard
      rw [if_pos hw]
      left
      refine Oper.wp_mono (fun a' w' hh => ⟨fun o' ho' hm => hh.1 (by simp only [Option.some.injEq] at ho'; rw [ho']; exact hm), hh.2⟩) hop
theorem linG_ok {all : List (Nat × Oper)} {done : List Nat} : {l : List (Nat × Oper)} → {d : List Nat} → linG all done d l = true → Lin d l ∧ ∀ x ∈ l, ∀ y ∈ laterL x.1 all [], y ∉ done
  | [], d, _ => ⟨trivial, by simp⟩
  | (i, o) :: l, d, h => by
    simp only [linG, Bool.and_eq_true] at h
    obtain ⟨h1, h2⟩ := linG_ok h.2
    refine ⟨⟨allIn_iff.1 h.1.1, h1⟩, fun x hx => ?_⟩
    rcases List.mem_cons.1 hx with rfl | hx
    · exact noneIn_iff.1 h.1.2
    · exact h2 x hx
theorem restL_mem {done : List Nat} {x : Nat × Oper} : {l : List (Nat × Oper)} → (x ∈ restL done l ↔ x ∈ l ∧ x.1 ∉ done)
  | [] => by simp [restL]
  | (i, o) :: l => by
    simp only [restL]
    cases hm : memN i done with
    | true =>
      rw [cond_true, restL_mem (l := l)]
      have := memN_iff.1 hm
      constructor
      · exact fun h => ⟨List.mem_cons_of_mem _ h.1, h.2⟩
      · rintro ⟨h1, h2⟩
        rcases List.mem_cons.1 h1 with rfl | h1
        · exact absurd this h2
        · exact ⟨h1, h2⟩
    | false =>
      rw [cond_false, List.mem_cons, restL_mem (l := l)]
      have := memN_false.1 hm
      constructor
      · rintro (rfl | h)
        · exact ⟨by simp, this⟩
        · exact ⟨List.mem_cons_of_mem _ h.1, h.2⟩
      · rintro ⟨h1, h2⟩
        rcases List.mem_cons.1 h1 with rfl | h1
        · exact .inl rfl
        · exact .inr ⟨h1, h2⟩
theorem restL_sub {done : List Nat} : (l : List (Nat × Oper)) → (restL done l).Sublist l
  | [] => List.Sublist.slnil
  | (i, o) :: l => by
    simp only [restL]
    cases memN i done with
    | true => exact (restL_sub l).cons _
    | false => exact (restL_sub l).cons_cons _
theorem lenN_eq : (l : List (Nat × Oper)) → lenN l = l.length
  | [] => rfl
  | _ :: l => by simp only [lenN, lenN_eq l, List.length_cons]
end

section
variable {P : Program} {c : Ctx}
theorem region_ok (hc : CtxOK P c) (hm : P.follows .mixedOrders = true) {id : Nat} {ops : Array Oper} {draw : Bool} {Q : Exit → Act → World → Prop} {σ : St} {g : Ghost} {a : Act} {w : World} {k : St → Option R} {r : R}
    (hQ : ∀ c a w, ¬ Q (.panic c) a w) (h : regionK c ops draw σ k = some r) (hst : StOK c.ntmps g w a σ) (hf : FreshUp g σ)
    (hK : ∀ σ' g' a' w', k σ' = some r → StOK c.ntmps g' w' a' σ' → Ext w g w' g' → FreshUp g' σ' → Q .normal a' w') : (Code.region id ops draw).wp P Q a w := by
  unfold regionK at h
  cases draw with
  | false =>
    simp only [cond_false] at h
    exact wp_text (list_ok hc (fun x hx => numbered_lt hx) (numbered_nodup _ _) h hst hf hK)
  | true =>
    simp only [cond_true] at h
    cases hok : drawOK ops.toList with
    | false =>
      rw [hok] at h
      simp only [cond_false] at h
      obtain ⟨hge, h⟩ := cond_run h
      simp only [genOK, Bool.and_eq_true] at hge
      obtain ⟨⟨⟨⟨hpl, hrun⟩, hpg⟩, hlg⟩, hlen⟩ := hge
      have hlen := Nat.eq_of_beq_eq_true hlen
      rw [lenN_eq, lenN_eq] at hlen
      unfold genRunK at h
      have hp := plain_of hpl
      have he : ({ w with drawn := w.drawn + 1 } : World).heap = w.heap := rfl
      have hmem : ∀ x ∈ drawL ops.toList, x ∈ numbered 0 ops.toList := fun x hx => orderL_mem x hx
      have hLN := okRun_new hrun
      obtain ⟨hlin, hlat⟩ := linG_ok hlg
      have hdone : ∀ x, x ∈ addDone (drawL ops.toList) [] ↔ x ∈ (drawL ops.toList).map Prod.fst := fun x => by rw [addDone_mem]; simp
      have hdsz : ∀ x ∈ addDone (drawL ops.toList) [], x < ops.size := by
        intro x hx
        obtain ⟨y, hy, rfl⟩ := List.mem_map.1 ((hdone x).1 hx)
        exact size_of (numbered_get _ (hmem y hy))
      refine wp_region_any hm (wpAny_of_G _ _ _ _ ?_)
      refine anyG_cast (n := (drawL ops.toList).length + (restL (addDone (drawL ops.toList) []) (numbered 0 ops.toList)).length) (by rw [hlen]; simp) ?_
      refine order_pre hp hQ _ (fun x hx => numbered_get _ (hmem x hx)) Rel.start (by simp) hrun ?_
      refine opsK_ok hc dstOf_eq _ h (hst.heapEq he) (by intro s hs; simp at hs) hLN.1 (fun x _ m h1 _ => hf m (by omega)) (fun σ1 g1 a1 w1 h1 hst1 hext1 hf1 hn1 => ?_)
      intro listed hrel
      obtain ⟨T, σE, hT, htr, hk, hgood, _, hpw⟩ := genK_tr _ hpg h1
      have hTi : T.map Ent.i = (restL (addDone (drawL ops.toList) []) (numbered 0 ops.toList)).map Prod.fst := by
        rw [← hT, List.map_map]; rfl
      have hTm : ∀ t ∈ T, (t.i, t.o) ∈ restL (addDone (drawL ops.toList) []) (numbered 0 ops.toList) := by
        intro t ht
        rw [← hT]
        exact List.mem_map.2 ⟨t, ht, rfl⟩
      have hTl : T.length = (restL (addDone (drawL ops.toList) []) (numbered 0 ops.toList)).length := by
        rw [← hT, List.length_map]
      refine anyG_cast hTl ?_
      have hheap : ({ w with drawn := w.drawn + 1 } : World).heap = w.heap := rfl
      refine gen_ok (base := σ.next) (g0 := g1) (w0 := w1) (σ0 := σ1) (σE := σE) (B0 := T.map Ent.i) hc (fun g' a' w' hst' hext' hf' => ?_) T.length rfl htr (fun t ht => ⟨hgood t ht, numbered_get _ (restL_mem.1 (hTm t ht)).1, List.mem_map.2 ⟨t, ht, rfl⟩⟩) hpw ?_ ?_ hst1 (fun t ht m q1 q2 => ?_) hrel hdsz (fun x hx => ?_) (fun t ht => hlat _ (hTm t ht)) (Ext.refl _ _) (fun m _ hf => hf)
      · refine hK _ g' a' w' hk ⟨hst'.slots, hst'.heap, hst'.size, hst'.defers⟩ ((Ext.heapEq (g := g) he rfl rfl rfl).trans (hext1.trans hext')) (fun m hm => ?_)
        have hm' : σ.next + 8 * ops.toList.length ≤ m := hm
        have := hf' m (fun i hi => .inr ?_) (hf1 m (fun x hx => .inr (by have := numbered_lt (hmem x hx); omega)) (hf m (by omega)))
        · exact ⟨this.objs, this.row, this.box, this.slots, this.cells⟩
        · rw [hTi] at hi
          obtain ⟨y, hy, rfl⟩ := List.mem_map.1 hi
          have := numbered_lt (restL_mem.1 hy).1
          omega
      · rw [hTi]
        exact (numbered_nodup ops.toList 0).sublist ((restL_sub _).map _)
      · rw [hT]; exact hlin
      · refine hf1 m (fun x hx => ?_) (hf m (by omega))
        have hne : x.1 ≠ t.i := by
          intro he2
          have := (restL_mem.1 (hTm t ht)).2
          simp only at this
          exact this ((hdone _).2 (List.mem_map.2 ⟨x, hx, he2⟩))
        omega
      · rw [hTi]
        constructor
        · intro hd hm2
          obtain ⟨y, hy, rfl⟩ := List.mem_map.1 hm2
          exact (restL_mem.1 hy).2 hd
        · intro hn
          refine Classical.byContradiction fun hd => hn ?_
          obtain ⟨o, ho⟩ : ∃ o, ops[x]? = some o := ⟨ops[x], by simp [hx]⟩
          exact List.mem_map.2 ⟨(x, o), restL_mem.2 ⟨numbered_of ho, hd⟩, rfl⟩
    | true =>
      rw [hok] at h
      simp only [cond_true] at h
      simp only [drawOK, Bool.and_eq_true] at hok
      have hnd := okOrder_nodup hok.2
      have hp := plain_of hok.1
      have hmem : ∀ x ∈ drawL ops.toList, x ∈ numbered 0 ops.toList := fun x hx => orderL_mem x hx
      refine wp_region_any hm (wpAny_of_G _ _ _ _ (order_ok hp hQ _ (fun x hx => numbered_get _ (hmem x hx)) ?_ Rel.start (by simp) hok.2 ?_))
      · have := orderL_len (dst := dstOf ops.toList) (all := numbered 0 ops.toList) ops.toList.length []
        simpa [drawL] using this
      · have he : ({ w with drawn := w.drawn + 1 } : World).heap = w.heap := rfl
        refine list_ok hc (fun x hx => numbered_lt (hmem x hx)) hnd.1 h (hst.heapEq he) hf (fun σ' g' a' w' hk hst' hext' hf' => ?_)
        exact hK σ' g' a' w' hk hst' ((Ext.heapEq (g := g) he rfl rfl rfl).trans hext') hf'
end

end Go.Kz
