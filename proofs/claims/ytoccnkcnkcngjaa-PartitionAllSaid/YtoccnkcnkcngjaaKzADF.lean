/-
  What an operation makes of a part of a state, it makes of the whole.
-/
import Derived.Test.YtoccnkcnkcngjaaKzADB
set_option linter.unusedVariables false
set_option linter.unusedSimpArgs false
namespace Go.Kz
variable {R : Type}

/-- Every object of the one is an object of the other. -/
def OLe (σ τ : St) : Prop := ∀ id x, σ.objs id = some x → τ.objs id = some x
theorem OLe.refl (σ : St) : OLe σ σ := fun _ _ h => h

def putO : List (Nat × Option Obj) → St → St
  | [], σ => σ
  | (i, o) :: l, σ => putO l { σ with objs := upd σ.objs i o }
theorem putO_append (l m : List (Nat × Option Obj)) (σ : St) : putO (l ++ m) σ = putO m (putO l σ) := by
  induction l generalizing σ with
  | nil => rfl
  | cons x l ih => obtain ⟨i, o⟩ := x; exact ih _
theorem OLe.upd {σ τ : St} (h : OLe σ τ) (i : Nat) (o : Option Obj) : OLe { σ with objs := upd σ.objs i o } { τ with objs := Go.Kz.upd τ.objs i o } := by
  intro id x hx
  simp only [Go.Kz.upd] at hx ⊢
  cases hb : Nat.beq id i with
  | true => rw [hb] at hx; exact hx
  | false => rw [hb] at hx; exact h id x hx
theorem OLe.putO {σ τ : St} (h : OLe σ τ) : (l : List (Nat × Option Obj)) → OLe (Go.Kz.putO l σ) (Go.Kz.putO l τ)
  | [] => h
  | (i, o) :: l => OLe.putO (h.upd i o) l
theorem putO_slots : (l : List (Nat × Option Obj)) → (σ : St) → (putO l σ).slots = σ.slots
  | [], _ => rfl
  | (_, _) :: l, σ => putO_slots l _
theorem putO_next : (l : List (Nat × Option Obj)) → (σ : St) → (putO l σ).next = σ.next
  | [], _ => rfl
  | (_, _) :: l, σ => putO_next l _
theorem putO_off {i : Nat} : (l : List (Nat × Option Obj)) → (σ : St) → i ∉ l.map Prod.fst → (putO l σ).objs i = σ.objs i
  | [], _, _ => rfl
  | (j, o) :: l, σ, h => by
    simp only [List.map_cons, List.mem_cons, not_or] at h
    simp only [putO]
    rw [putO_off l _ h.2]
    have hb : Nat.beq i j = false := by
      cases hb : Nat.beq i j with
      | true => exact absurd (Nat.eq_of_beq_eq_true hb) h.1
      | false => rfl
    simp only [upd, hb, cond_false]
/-- What is put is put everywhere alike. -/
theorem putO_on {i : Nat} : (l : List (Nat × Option Obj)) → (σ τ : St) → i ∈ l.map Prod.fst → (putO l σ).objs i = (putO l τ).objs i
  | [], _, _, h => by simp at h
  | (j, o) :: l, σ, τ, h => by
    simp only [putO]
    by_cases hm : i ∈ l.map Prod.fst
    · exact putO_on l _ _ hm
    · rw [putO_off l _ hm, putO_off l _ hm]
      simp only [List.map_cons, List.mem_cons] at h
      rcases h with rfl | h
      · simp only [upd, Nat.beq_refl, cond_true]
      · exact absurd h hm

/-- Where objects are put: where some were, or at new numbers. -/
def Dom (n : Nat) (σ : St) (ob : List (Nat × Option Obj)) : Prop := ∀ x ∈ ob, (∃ y, σ.objs x.1 = some y) ∨ (n ≤ x.1 ∧ x.1 < n + 8)
theorem Dom.nil {n : Nat} {σ : St} : Dom n σ [] := by intro x hx; simp at hx
theorem Dom.append {n : Nat} {σ : St} {l m : List (Nat × Option Obj)} (h : Dom n σ l) (h' : Dom n (putO l σ) m) : Dom n σ (l ++ m) := by
  intro x hx
  rcases List.mem_append.1 hx with hx | hx
  · exact h x hx
  · rcases h' x hx with ⟨y, hy⟩ | h2
    · by_cases hm : x.1 ∈ l.map Prod.fst
      · obtain ⟨z, hz, he⟩ := List.mem_map.1 hm
        rw [← he]; exact h z hz
      · rw [putO_off l σ hm] at hy; exact .inl ⟨y, hy⟩
    · exact .inr h2
theorem Dom.old {n : Nat} {σ : St} {i : Nat} {y : Obj} {o : Option Obj} (h : σ.objs i = some y) : Dom n σ [(i, o)] := by
  intro x hx
  simp only [List.mem_singleton] at hx
  subst hx
  exact .inl ⟨y, h⟩
theorem Dom.new {n : Nat} {σ : St} {o : Option Obj} : Dom n σ [(n, o)] := by
  intro x hx
  simp only [List.mem_singleton] at hx
  subst hx
  exact .inr ⟨Nat.le_refl _, by omega⟩

theorem castK_run {a b : Ty} {d : a.den} {k : b.den → Option R} {r : R} (h : castK a b d k = some r) : ∃ e, k e = some r ∧ ∀ (R' : Type) (k' : b.den → Option R'), castK a b d k' = k' e := by
  rw [castK_bind] at h
  obtain ⟨e, he, hk⟩ := Option.bind_eq_some_iff.1 h
  exact ⟨e, hk, fun R' k' => by rw [castK_bind, he]; rfl⟩
theorem nilK_run {t : Ty} {k : t.den → Option R} {r : R} (h : nilK t k = some r) : ∃ e, k e = some r ∧ ∀ (R' : Type) (k' : t.den → Option R'), nilK t k' = k' e := by
  rw [nilK_bind] at h
  obtain ⟨e, he, hk⟩ := Option.bind_eq_some_iff.1 h
  exact ⟨e, hk, fun R' k' => by rw [nilK_bind, he]; rfl⟩
theorem getA_run {a : AVal} {p : Path} {k : AVal → Option R} {r : R} (h : getA a p k = some r) : ∃ e, k e = some r ∧ ∀ (R' : Type) (k' : AVal → Option R'), getA a p k' = k' e := by
  rw [getA_bind] at h
  obtain ⟨e, he, hk⟩ := Option.bind_eq_some_iff.1 h
  exact ⟨e, hk, fun R' k' => by rw [getA_bind, he]; rfl⟩

theorem getK_run : (t : Ty) → (d : t.den) → (p : Path) → {k : (u : Ty) → u.den → Option R} → {r : R} → getK t d p k = some r →
    ∃ (u : Ty) (e : u.den), k u e = some r ∧ ∀ (R' : Type) (k' : (u : Ty) → u.den → Option R'), getK t d p k' = k' u e
  | t, d, [], k, r, h => ⟨t, d, by cases t <;> simpa [getK] using h, fun R' k' => by cases t <;> simp [getK]⟩
  | .pair a _, (x, _), .fst :: p, k, r, h => by simp only [getK] at h ⊢; exact getK_run a x p h
  | .pair _ b, (_, y), .snd :: p, k, r, h => by simp only [getK] at h ⊢; exact getK_run b y p h
  | .arr _ t, l, .idx i :: p, k, r, h => by
    simp only [getK] at h ⊢
    obtain ⟨x, hx, h⟩ := Option.bind_eq_some_iff.1 h
    obtain ⟨u, e, hk, ha⟩ := getK_run t x p h
    exact ⟨u, e, hk, fun R' k' => by rw [hx, Option.bind_some]; exact ha _ _⟩
  | .sl true t, l, .idx i :: p, k, r, h => by
    simp only [getK] at h ⊢
    obtain ⟨x, hx, h⟩ := Option.bind_eq_some_iff.1 h
    obtain ⟨u, e, hk, ha⟩ := getK_run t x p h
    exact ⟨u, e, hk, fun R' k' => by rw [hx, Option.bind_some]; exact ha _ _⟩
  | .int _, d, s :: p, k, r, h => by cases s <;> simp [getK] at h
  | .bool, d, s :: p, k, r, h => by cases s <;> simp [getK] at h
  | .str, d, s :: p, k, r, h => by cases s <;> simp [getK] at h
  | .unit, d, s :: p, k, r, h => by cases s <;> simp [getK] at h
  | .sl false _, d, s :: p, k, r, h => by cases s <;> simp [getK] at h
  | .ptr _, d, s :: p, k, r, h => by cases s <;> simp [getK] at h
  | .fn _ _, d, s :: p, k, r, h => by cases s <;> simp [getK] at h
  | .pair _ _, (_, _), .idx _ :: p, k, r, h => by simp [getK] at h
  | .arr _ _, d, .fst :: p, k, r, h => by simp [getK] at h
  | .arr _ _, d, .snd :: p, k, r, h => by simp [getK] at h
  | .sl true _, d, .fst :: p, k, r, h => by simp [getK] at h
  | .sl true _, d, .snd :: p, k, r, h => by simp [getK] at h

theorem setK_run {u : Ty} {e : u.den} : (t : Ty) → (d : t.den) → (p : Path) → {k : t.den → Option R} → {r : R} → setK t d p u e k = some r →
    ∃ d', k d' = some r ∧ ∀ (R' : Type) (k' : t.den → Option R'), setK t d p u e k' = k' d'
  | t, d, [], k, r, h => by
    have h' : castK u t e k = some r := by cases t <;> simpa [setK] using h
    obtain ⟨d', hk, ha⟩ := castK_run h'
    exact ⟨d', hk, fun R' k' => by rw [← ha R' k']; cases t <;> simp [setK]⟩
  | .pair a _, (x, y), .fst :: p, k, r, h => by
    simp only [setK] at h ⊢
    obtain ⟨x', hk, ha⟩ := setK_run a x p h
    exact ⟨(x', y), hk, fun R' k' => ha R' _⟩
  | .pair _ b, (x, y), .snd :: p, k, r, h => by
    simp only [setK] at h ⊢
    obtain ⟨y', hk, ha⟩ := setK_run b y p h
    exact ⟨(x, y'), hk, fun R' k' => ha R' _⟩
  | .arr _ t, l, .idx i :: p, k, r, h => by
    simp only [setK] at h ⊢
    obtain ⟨x, hx, h⟩ := Option.bind_eq_some_iff.1 h
    obtain ⟨x', hk, ha⟩ := setK_run t x p h
    exact ⟨_, hk, fun R' k' => by rw [hx, Option.bind_some]; exact ha _ _⟩
  | .sl true t, l, .idx i :: p, k, r, h => by
    simp only [setK] at h ⊢
    obtain ⟨x, hx, h⟩ := Option.bind_eq_some_iff.1 h
    obtain ⟨x', hk, ha⟩ := setK_run t x p h
    exact ⟨_, hk, fun R' k' => by rw [hx, Option.bind_some]; exact ha _ _⟩
  | .int _, d, s :: p, k, r, h => by cases s <;> simp [setK] at h
  | .bool, d, s :: p, k, r, h => by cases s <;> simp [setK] at h
  | .str, d, s :: p, k, r, h => by cases s <;> simp [setK] at h
  | .unit, d, s :: p, k, r, h => by cases s <;> simp [setK] at h
  | .sl false _, d, s :: p, k, r, h => by cases s <;> simp [setK] at h
  | .ptr _, d, s :: p, k, r, h => by cases s <;> simp [setK] at h
  | .fn _ _, d, s :: p, k, r, h => by cases s <;> simp [setK] at h
  | .pair _ _, (_, _), .idx _ :: p, k, r, h => by simp [setK] at h
  | .arr _ _, d, .fst :: p, k, r, h => by simp [setK] at h
  | .arr _ _, d, .snd :: p, k, r, h => by simp [setK] at h
  | .sl true _, d, .fst :: p, k, r, h => by simp [setK] at h
  | .sl true _, d, .snd :: p, k, r, h => by simp [setK] at h

theorem setSplit_run {new : AVal} : (t : Ty) → (d : t.den) → (p : Path) → {k : AVal → Option R} → {r : R} → setSplit new t d p k = some r →
    ∃ u, k u = some r ∧ ∀ (R' : Type) (k' : AVal → Option R'), setSplit new t d p k' = k' u
  | .pair a b, (x, y), [.fst], k, r, h => ⟨_, h, fun _ _ => rfl⟩
  | .pair a b, (x, y), .fst :: s :: p, k, r, h => by
    simp only [setSplit] at h ⊢
    obtain ⟨u, hk, ha⟩ := setSplit_run a x (s :: p) h
    exact ⟨_, hk, fun R' k' => ha R' _⟩
  | .pair a b, (x, y), .snd :: p, k, r, h => by
    have e : ∀ (R' : Type) (k' : AVal → Option R'), setSplit new (.pair a b) (x, y) (.snd :: p) k' = setSplit new b y p fun u => k' (.pr (.data a x) u) := fun R' k' => by simp [setSplit]
    rw [e] at h
    obtain ⟨u, hk, ha⟩ := setSplit_run b y p h
    exact ⟨_, hk, fun R' k' => by rw [e]; exact ha R' _⟩
  | .pair _ _, _, [], _, _, hk => by simp [setSplit] at hk
  | .pair _ _, _, .idx _ :: _, _, _, hk => by simp [setSplit] at hk
  | .int _, _, _, _, _, hk => by simp [setSplit] at hk
  | .bool, _, _, _, _, hk => by simp [setSplit] at hk
  | .str, _, _, _, _, hk => by simp [setSplit] at hk
  | .unit, _, _, _, _, hk => by simp [setSplit] at hk
  | .arr _ _, _, _, _, _, hk => by simp [setSplit] at hk
  | .sl _ _, _, _, _, _, hk => by simp [setSplit] at hk
  | .ptr _, _, _, _, _, hk => by simp [setSplit] at hk
  | .fn _ _, _, _, _, _, hk => by simp [setSplit] at hk

theorem setA_run {new : AVal} : (a : AVal) → (p : Path) → {k : AVal → Option R} → {r : R} → setA new a p k = some r →
    ∃ u, k u = some r ∧ ∀ (R' : Type) (k' : AVal → Option R'), setA new a p k' = k' u
  | a, [], k, r, h => ⟨new, by cases a <;> simpa [setA] using h, fun R' k' => by cases a <;> rfl⟩
  | .agg c, s :: p, k, r, h => by
    simp only [setA] at h ⊢
    obtain ⟨u, hk, ha⟩ := setA_run c (s :: p) h
    exact ⟨_, hk, fun R' k' => ha R' _⟩
  | .pr a b, .fst :: p, k, r, h => by
    simp only [setA] at h ⊢
    obtain ⟨u, hk, ha⟩ := setA_run a p h
    exact ⟨_, hk, fun R' k' => ha R' _⟩
  | .pr a b, .snd :: p, k, r, h => by
    simp only [setA] at h ⊢
    obtain ⟨u, hk, ha⟩ := setA_run b p h
    exact ⟨_, hk, fun R' k' => ha R' _⟩
  | .data t d, s :: p, k, r, h => by
    have e : ∀ (R' : Type) (k' : AVal → Option R'), setA new (.data t d) (s :: p) k' = cond (fitsAt t (s :: p) new) (setFit new t d (s :: p) k')
      (setSplit new t d (s :: p) fun u => cond (u.sk.same t.sk) (k' (.agg u)) none) := fun R' k' => by cases s <;> rfl
    rw [e] at h
    cases hf : fitsAt t (s :: p) new with
    | true =>
      rw [hf, cond_true] at h
      unfold setFit at h
      split at h
      · rename_i u e'
        obtain ⟨d', hk, ha⟩ := setK_run _ _ _ h
        exact ⟨_, hk, fun R' k' => by rw [e, hf, cond_true]; simp only [setFit]; exact ha R' _⟩
      · simp at h
    | false =>
      rw [hf, cond_false] at h
      obtain ⟨u, hk, ha⟩ := setSplit_run _ _ _ h
      cases hs : u.sk.same t.sk with
      | false => rw [hs] at hk; simp at hk
      | true =>
        rw [hs, cond_true] at hk
        exact ⟨_, hk, fun R' k' => by rw [e, hf, cond_false, ha, hs, cond_true]⟩
  | .nilS, s :: _, _, _, h => by cases s <;> simp [setA] at h
  | .ref _ _ _, s :: _, _, _, h => by cases s <;> simp [setA] at h
  | .view _ _ _ _ _, s :: _, _, _, h => by cases s <;> simp [setA] at h
  | .bptr _ _, s :: _, _, _, h => by cases s <;> simp [setA] at h
  | .eptr _ _ _, s :: _, _, _, h => by cases s <;> simp [setA] at h
  | .mref _, s :: _, _, _, h => by cases s <;> simp [setA] at h
  | .nv _ _ _ _, s :: _, _, _, h => by cases s <;> simp [setA] at h
  | .clos _ _, s :: _, _, _, h => by cases s <;> simp [setA] at h
  | .ifc _ _, s :: _, _, _, h => by cases s <;> simp [setA] at h
  | .tup _, s :: _, _, _, h => by cases s <;> simp [setA] at h
  | .un, s :: _, _, _, h => by cases s <;> simp [setA] at h
  | .pr _ _, .idx _ :: _, _, _, h => by simp [setA] at h

theorem fetchK_run {σ : St} {id : Nat} {p : Path} {ep : Nat} {k : (u : Ty) → List u.den → Option R} {r : R} (h : fetchK σ id p ep k = some r) :
    ∃ u l, k u l = some r ∧ ∀ τ, OLe σ τ → ∀ (R' : Type) (k' : (u : Ty) → List u.den → Option R'), fetchK τ id p ep k' = k' u l := by
  unfold fetchK at h
  split at h
  · rename_i t l e ho
    cases hb : Nat.beq e ep with
    | false => rw [hb] at h; simp at h
    | true =>
      rw [hb, cond_true] at h
      unfold rowK at h
      obtain ⟨u, d, hk, ha⟩ := getK_run _ _ _ h
      split at hk
      · rename_i v l'
        refine ⟨v, l', hk, fun τ hle R' k' => ?_⟩
        unfold fetchK
        rw [hle _ _ ho]
        simp only [hb, cond_true, rowK]
        rw [ha]
      · simp at hk
  · simp at h
theorem efetchK_run {σ : St} {id : Nat} {p : Path} {ep : Nat} {k : (u : Ty) → u.den → Option R} {r : R} (h : efetchK σ id p ep k = some r) :
    ∃ u d, k u d = some r ∧ ∀ τ, OLe σ τ → ∀ (R' : Type) (k' : (u : Ty) → u.den → Option R'), efetchK τ id p ep k' = k' u d := by
  unfold efetchK at h
  split at h
  · rename_i t l e ho
    cases hb : Nat.beq e ep with
    | false => rw [hb] at h; simp at h
    | true =>
      rw [hb, cond_true] at h
      unfold rowK at h
      obtain ⟨u, d, hk, ha⟩ := getK_run _ _ _ h
      refine ⟨u, d, hk, fun τ hle R' k' => ?_⟩
      unfold efetchK
      rw [hle _ _ ho]
      simp only [hb, cond_true, rowK]
      exact ha R' k'
  · simp at h
theorem bfetchK_run {σ : St} {id : Nat} {p : Path} {k : AVal → Option R} {r : R} (h : bfetchK σ id p k = some r) :
    ∃ a, k a = some r ∧ ∀ τ, OLe σ τ → ∀ (R' : Type) (k' : AVal → Option R'), bfetchK τ id p k' = k' a := by
  unfold bfetchK at h
  split at h
  · rename_i a ho
    obtain ⟨u, hk, ha⟩ := getA_run h
    refine ⟨u, hk, fun τ hle R' k' => ?_⟩
    unfold bfetchK
    rw [hle _ _ ho]
    exact ha R' k'
  · simp at h

theorem nfetchK_run {σ : St} {pt : Bool} {id : Nat} {p : Path} {ep : Nat} {k : (u : Ty) → u.den → Option R} {r : R} (h : nfetchK σ pt id p ep k = some r) :
    ∃ u d, k u d = some r ∧ ∀ τ, OLe σ τ → innerOf τ id = innerOf σ id ∧ ∀ (R' : Type) (k' : (u : Ty) → u.den → Option R'), nfetchK τ pt id p ep k' = k' u d := by
  unfold nfetchK at h
  split at h
  · rename_i t l e i ho
    cases hb : Nat.beq (nep pt p e i) ep with
    | false => rw [hb] at h; simp at h
    | true =>
      rw [hb, cond_true] at h
      unfold rowK at h
      obtain ⟨u, d, hk, ha⟩ := getK_run _ _ _ h
      refine ⟨u, d, hk, fun τ hle => ⟨?_, fun R' k' => ?_⟩⟩
      · unfold innerOf; rw [hle _ _ ho, ho]
      · unfold nfetchK
        rw [hle _ _ ho]
        simp only [hb, cond_true, rowK]
        exact ha R' k'
  · simp at h
theorem nrowK_run {σ : St} {id : Nat} {p : Path} {ep : Nat} {k : (v : Ty) → List v.den → Option R} {r : R} (h : nrowK σ id p ep k = some r) :
    ∃ v l, k v l = some r ∧ ∀ τ, OLe σ τ → innerOf τ id = innerOf σ id ∧ ∀ (R' : Type) (k' : (v : Ty) → List v.den → Option R'), nrowK τ id p ep k' = k' v l := by
  unfold nrowK at h
  obtain ⟨u, d, hk, ha⟩ := nfetchK_run h
  split at hk
  · rename_i v l
    refine ⟨v, l, hk, fun τ hle => ⟨(ha τ hle).1, fun R' k' => ?_⟩⟩
    unfold nrowK
    rw [(ha τ hle).2]
  · simp at hk

theorem asData_run {σ : St} : (m : Nat) → {R : Type} → (a : AVal) → (t : Ty) → {k : t.den → Option R} → {r : R} → asData σ m a t k = some r →
    ∃ d, k d = some r ∧ ∀ τ, OLe σ τ → ∀ (R' : Type) (k' : t.den → Option R'), asData τ m a t k' = k' d
  | 0, _, _, _, _, _, h => by simp [asData] at h
  | m + 1, _, .data t' d, t, k, r, h => by
    simp only [asData] at h ⊢
    obtain ⟨e, hk, ha⟩ := castK_run h
    exact ⟨e, hk, fun _ _ R' k' => ha R' k'⟩
  | m + 1, _, .nilS, t, k, r, h => by
    simp only [asData] at h ⊢
    cases hr : t.isRo with
    | false => rw [hr] at h; simp at h
    | true =>
      rw [hr, cond_true] at h
      obtain ⟨e, hk, ha⟩ := nilK_run h
      exact ⟨e, hk, fun _ _ R' k' => by rw [cond_true]; exact ha R' k'⟩
  | m + 1, _, .ref id p ep, t, k, r, h => by
    simp only [asData] at h ⊢
    obtain ⟨u, l, hk, ha⟩ := fetchK_run h
    obtain ⟨e, hk, hb⟩ := castK_run hk
    exact ⟨e, hk, fun τ hle R' k' => by rw [ha τ hle]; exact hb R' k'⟩
  | m + 1, _, .view id p ep a b, t, k, r, h => by
    simp only [asData] at h ⊢
    obtain ⟨u, l, hk, ha⟩ := fetchK_run h
    obtain ⟨e, hk, hb⟩ := castK_run hk
    exact ⟨e, hk, fun τ hle R' k' => by rw [ha τ hle]; exact hb R' k'⟩
  | m + 1, _, .bptr id p, .ptr t, k, r, h => by
    simp only [asData] at h ⊢
    obtain ⟨a, hk, ha⟩ := bfetchK_run h
    obtain ⟨e, hk, hb⟩ := asData_run m a t hk
    exact ⟨e, hk, fun τ hle R' k' => by rw [ha τ hle]; exact hb τ hle R' k'⟩
  | m + 1, _, .eptr id p ep, .ptr t, k, r, h => by
    simp only [asData] at h ⊢
    obtain ⟨u, d, hk, ha⟩ := efetchK_run h
    obtain ⟨e, hk, hb⟩ := castK_run hk
    exact ⟨e, hk, fun τ hle R' k' => by rw [ha τ hle]; exact hb R' k'⟩
  | m + 1, _, .clos f c, .fn g t, k, r, h => by
    simp only [asData] at h ⊢
    cases hb : Nat.beq f g with
    | false => rw [hb] at h; simp at h
    | true =>
      rw [hb, cond_true] at h
      obtain ⟨e, hk, ha⟩ := asData_run m c t h
      exact ⟨e, hk, fun τ hle R' k' => by rw [cond_true]; exact ha τ hle R' k'⟩
  | m + 1, _, .agg c, t, k, r, h => by
    simp only [asData] at h ⊢
    exact asData_run m c t h
  | m + 1, _, .pr a b, .pair t u, k, r, h => by
    simp only [asData] at h ⊢
    obtain ⟨x, hk, ha⟩ := asData_run m a t h
    obtain ⟨y, hk, hb⟩ := asData_run m b u hk
    exact ⟨(x, y), hk, fun τ hle R' k' => by rw [ha τ hle]; exact hb τ hle R' _⟩
  | m + 1, _, .un, .unit, k, r, h => by
    simp only [asData] at h ⊢
    exact ⟨(), h, fun _ _ _ _ => trivial⟩
  | m + 1, _, .tup _, t, k, r, h => by simp [asData] at h
  | m + 1, _, .mref _, t, k, r, h => by simp [asData] at h
  | m + 1, _, .nv true _ _ _, t, k, r, h => by simp [asData] at h
  | m + 1, _, .nv false id p ep, t, k, r, h => by
    simp only [asData] at h ⊢
    obtain ⟨u, l, hk, ha⟩ := nrowK_run h
    obtain ⟨e, hk, hb⟩ := castK_run hk
    exact ⟨e, hk, fun τ hle R' k' => by rw [(ha τ hle).2]; exact hb R' k'⟩
  | m + 1, _, .bptr _ _, .int _, _, _, h | m + 1, _, .bptr _ _, .bool, _, _, h | m + 1, _, .bptr _ _, .str, _, _, h | m + 1, _, .bptr _ _, .unit, _, _, h | m + 1, _, .bptr _ _, .pair _ _, _, _, h | m + 1, _, .bptr _ _, .arr _ _, _, _, h | m + 1, _, .bptr _ _, .sl _ _, _, _, h | m + 1, _, .bptr _ _, .fn _ _, _, _, h => by simp [asData] at h
  | m + 1, _, .eptr _ _ _, .int _, _, _, h | m + 1, _, .eptr _ _ _, .bool, _, _, h | m + 1, _, .eptr _ _ _, .str, _, _, h | m + 1, _, .eptr _ _ _, .unit, _, _, h | m + 1, _, .eptr _ _ _, .pair _ _, _, _, h | m + 1, _, .eptr _ _ _, .arr _ _, _, _, h | m + 1, _, .eptr _ _ _, .sl _ _, _, _, h | m + 1, _, .eptr _ _ _, .fn _ _, _, _, h => by simp [asData] at h
  | m + 1, _, .clos _ _, .int _, _, _, h | m + 1, _, .clos _ _, .bool, _, _, h | m + 1, _, .clos _ _, .str, _, _, h | m + 1, _, .clos _ _, .unit, _, _, h | m + 1, _, .clos _ _, .pair _ _, _, _, h | m + 1, _, .clos _ _, .arr _ _, _, _, h | m + 1, _, .clos _ _, .sl _ _, _, _, h | m + 1, _, .clos _ _, .ptr _, _, _, h => by simp [asData] at h
  | m + 1, _, .pr _ _, .int _, _, _, h | m + 1, _, .pr _ _, .bool, _, _, h | m + 1, _, .pr _ _, .str, _, _, h | m + 1, _, .pr _ _, .unit, _, _, h | m + 1, _, .pr _ _, .ptr _, _, _, h | m + 1, _, .pr _ _, .arr _ _, _, _, h | m + 1, _, .pr _ _, .sl _ _, _, _, h | m + 1, _, .pr _ _, .fn _ _, _, _, h => by simp [asData] at h
  | m + 1, _, .un, .int _, _, _, h | m + 1, _, .un, .bool, _, _, h | m + 1, _, .un, .str, _, _, h | m + 1, _, .un, .pair _ _, _, _, h | m + 1, _, .un, .ptr _, _, _, h | m + 1, _, .un, .arr _ _, _, _, h | m + 1, _, .un, .sl _ _, _, _, h | m + 1, _, .un, .fn _ _, _, _, h => by simp [asData] at h

/-- What is handed over leaves the state. -/
theorem give_run {n : Nat} : (m : Nat) → {R : Type} → {σ : St} → (a : AVal) → (u : Ty) → {k : u.den → St → Option R} → {r : R} → give m a u σ k = some r →
    ∃ d ob, k d (putO ob σ) = some r ∧ Dom n σ ob ∧ ∀ τ, OLe σ τ → ∀ (R' : Type) (k' : u.den → St → Option R'), give m a u τ k' = k' d (putO ob τ)
  | 0, _, _, _, _, _, _, h => by simp [give] at h
  | m + 1, _, σ, .data t' d, t, k, r, h => by
    simp only [give] at h ⊢
    obtain ⟨e, hk, ha⟩ := castK_run h
    exact ⟨e, [], hk, Dom.nil, fun τ _ R' k' => ha R' (fun d => k' d τ)⟩
  | m + 1, _, σ, .nilS, t, k, r, h => by
    simp only [give] at h ⊢
    obtain ⟨e, hk, ha⟩ := nilK_run h
    exact ⟨e, [], hk, Dom.nil, fun τ _ R' k' => ha R' (fun d => k' d τ)⟩
  | m + 1, _, σ, .ref id [] ep, u, k, r, h => by
    simp only [give] at h
    split at h
    · rename_i t l e ho
      cases hb : Nat.beq e ep with
      | false => rw [hb] at h; simp at h
      | true =>
        rw [hb, cond_true] at h
        cases u with
        | sl ow v =>
          cases ow with
          | true =>
            obtain ⟨d, hk, ha⟩ := castK_run h
            refine ⟨d, [(id, none)], hk, Dom.old ho, fun τ hle R' k' => ?_⟩
            simp only [give]
            rw [hle _ _ ho]
            simp only [hb, cond_true]
            exact ha R' _
          | false =>
            obtain ⟨d, hk, ha⟩ := castK_run h
            refine ⟨d, [(id, none)], hk, Dom.old ho, fun τ hle R' k' => ?_⟩
            simp only [give]
            rw [hle _ _ ho]
            simp only [hb, cond_true]
            exact ha R' _
        | _ => simp at h
    · simp at h
  | m + 1, _, σ, .bptr id [], .ptr u, k, r, h => by
    simp only [give] at h
    split at h
    · rename_i a ho
      obtain ⟨d, ob, hk, hd, ha⟩ := give_run (n := n) m a u h
      refine ⟨d, (id, none) :: ob, hk, Dom.append (l := [(id, none)]) (Dom.old ho) hd, fun τ hle R' k' => ?_⟩
      simp only [give]
      rw [hle _ _ ho]
      exact ha (τ.kill id) (hle.upd id none) R' k'
    · simp at h
  | m + 1, _, σ, .clos f c, .fn g t, k, r, h => by
    simp only [give] at h ⊢
    cases hb : Nat.beq f g with
    | false => rw [hb] at h; simp at h
    | true =>
      rw [hb, cond_true] at h
      obtain ⟨d, ob, hk, hd, ha⟩ := give_run (n := n) m c t h
      exact ⟨d, ob, hk, hd, fun τ hle R' k' => by rw [cond_true]; exact ha τ hle R' k'⟩
  | m + 1, _, σ, .agg c, t, k, r, h => by
    simp only [give] at h ⊢
    exact give_run (n := n) m c t h
  | m + 1, _, σ, .pr a b, .pair t u, k, r, h => by
    simp only [give] at h ⊢
    obtain ⟨x, ob, hk, hd, ha⟩ := give_run (n := n) m a t h
    obtain ⟨y, oc, hk, hd', hb⟩ := give_run (n := n) m b u hk
    refine ⟨(x, y), ob ++ oc, by rw [putO_append]; exact hk, hd.append hd', fun τ hle R' k' => ?_⟩
    rw [ha τ hle, putO_append]
    exact hb _ (hle.putO ob) R' _
  | m + 1, _, σ, .un, .unit, k, r, h => by
    simp only [give] at h ⊢
    exact ⟨(), [], h, Dom.nil, fun _ _ _ _ => rfl⟩
  | m + 1, _, _, .tup _, t, k, r, h => by simp [give] at h
  | m + 1, _, _, .mref _, t, k, r, h => by simp [give] at h
  | m + 1, _, _, .nv true _ _ _, t, k, r, h => by simp [give] at h
  | m + 1, _, _, .nv false _ (_ :: _) _, t, k, r, h => by simp [give] at h
  | m + 1, _, σ, .nv false id [] ep, u, k, r, h => by
    simp only [give] at h
    split at h
    · rename_i t l e i ho
      cases hb : Nat.beq e ep with
      | false => rw [hb] at h; simp at h
      | true =>
        rw [hb, cond_true] at h
        cases u with
        | sl ow v =>
          cases ow with
          | true => simp at h
          | false =>
            obtain ⟨d, hk, ha⟩ := castK_run h
            refine ⟨d, [(id, none)], hk, Dom.old ho, fun τ hle R' k' => ?_⟩
            simp only [give]
            rw [hle _ _ ho]
            simp only [hb, cond_true]
            exact ha R' _
        | _ => simp at h
    · simp at h
  | m + 1, _, _, .view _ _ _ _ _, t, k, r, h => by simp [give] at h
  | m + 1, _, _, .eptr _ _ _, t, k, r, h => by simp [give] at h
  | m + 1, _, _, .ref _ (_ :: _) _, t, k, r, h => by simp [give] at h
  | m + 1, _, _, .bptr _ (_ :: _), t, k, r, h => by cases t <;> simp [give] at h
  | m + 1, _, _, .bptr _ [], .int _, _, _, h | m + 1, _, _, .bptr _ [], .bool, _, _, h | m + 1, _, _, .bptr _ [], .str, _, _, h | m + 1, _, _, .bptr _ [], .unit, _, _, h | m + 1, _, _, .bptr _ [], .pair _ _, _, _, h | m + 1, _, _, .bptr _ [], .arr _ _, _, _, h | m + 1, _, _, .bptr _ [], .sl _ _, _, _, h | m + 1, _, _, .bptr _ [], .fn _ _, _, _, h => by simp [give] at h
  | m + 1, _, _, .clos _ _, .int _, _, _, h | m + 1, _, _, .clos _ _, .bool, _, _, h | m + 1, _, _, .clos _ _, .str, _, _, h | m + 1, _, _, .clos _ _, .unit, _, _, h | m + 1, _, _, .clos _ _, .pair _ _, _, _, h | m + 1, _, _, .clos _ _, .arr _ _, _, _, h | m + 1, _, _, .clos _ _, .sl _ _, _, _, h | m + 1, _, _, .clos _ _, .ptr _, _, _, h => by simp [give] at h
  | m + 1, _, _, .pr _ _, .int _, _, _, h | m + 1, _, _, .pr _ _, .bool, _, _, h | m + 1, _, _, .pr _ _, .str, _, _, h | m + 1, _, _, .pr _ _, .unit, _, _, h | m + 1, _, _, .pr _ _, .ptr _, _, _, h | m + 1, _, _, .pr _ _, .arr _ _, _, _, h | m + 1, _, _, .pr _ _, .sl _ _, _, _, h | m + 1, _, _, .pr _ _, .fn _ _, _, _, h => by simp [give] at h
  | m + 1, _, _, .un, .int _, _, _, h | m + 1, _, _, .un, .bool, _, _, h | m + 1, _, _, .un, .str, _, _, h | m + 1, _, _, .un, .pair _ _, _, _, h | m + 1, _, _, .un, .ptr _, _, _, h | m + 1, _, _, .un, .arr _ _, _, _, h | m + 1, _, _, .un, .sl _ _, _, _, h | m + 1, _, _, .un, .fn _ _, _, _, h => by simp [give] at h

end Go.Kz

/-
  What an operation makes of a part of a state, it makes of the whole: operation by operation.
-/
namespace Go.Kz
variable {R : Type}

theorem chk_run {b : Bool} {x : Option R} {r : R} (h : chk b x = some r) : b = true ∧ x = some r := by
  cases b with
  | true => exact ⟨rfl, h⟩
  | false => simp [chk] at h
theorem cond_run {b : Bool} {x : Option R} {r : R} (h : cond b x none = some r) : b = true ∧ x = some r := by
  cases b with
  | true => exact ⟨rfl, h⟩
  | false => simp at h
theorem binInt_run {op : BinOp} {kd : IntKind} {a b : Int} {f : AVal → Option R} {r : R} (h : binInt op kd a b f = some r) : ∃ v, f v = some r ∧ ∀ (R' : Type) (f' : AVal → Option R'), binInt op kd a b f' = f' v := by
  cases op <;> simp only [binInt] at h ⊢
  case quo =>
    cases hb : (b == 0) with
    | true => rw [hb] at h; simp at h
    | false => rw [hb] at h; exact ⟨_, h, fun _ _ => rfl⟩
  case rem =>
    cases hb : (b == 0) with
    | true => rw [hb] at h; simp at h
    | false => rw [hb] at h; exact ⟨_, h, fun _ _ => rfl⟩
  all_goals first
    | exact ⟨_, h, fun _ _ => rfl⟩
    | simp at h
theorem shiftInt_run {op : BinOp} {kd : IntKind} {a b : Int} {f : AVal → Option R} {r : R} (h : shiftInt op kd a b f = some r) : ∃ v, f v = some r ∧ ∀ (R' : Type) (f' : AVal → Option R'), shiftInt op kd a b f' = f' v := by
  cases op <;> simp only [shiftInt] at h ⊢
  case shl =>
    cases hb : decide (b < 0) with
    | true => rw [hb] at h; simp at h
    | false => rw [hb] at h; exact ⟨_, h, fun _ _ => rfl⟩
  case shr =>
    cases hb : decide (b < 0) with
    | true => rw [hb] at h; simp at h
    | false => rw [hb] at h; exact ⟨_, h, fun _ _ => rfl⟩
  all_goals simp at h
theorem binBool_run {op : BinOp} {a b : Bool} {f : AVal → Option R} {r : R} (h : binBool op a b f = some r) : ∃ v, f v = some r ∧ ∀ (R' : Type) (f' : AVal → Option R'), binBool op a b f' = f' v := by
  cases op <;> simp only [binBool] at h ⊢
  all_goals first
    | exact ⟨_, h, fun _ _ => rfl⟩
    | simp at h
theorem eqRes_run {op : BinOp} {b : Bool} {f : AVal → Option R} {r : R} (h : eqRes op b f = some r) : ∃ v, f v = some r ∧ ∀ (R' : Type) (f' : AVal → Option R'), eqRes op b f' = f' v := by
  cases op <;> simp only [eqRes] at h ⊢
  all_goals first
    | exact ⟨_, h, fun _ _ => rfl⟩
    | simp at h
theorem unK_run {op : UnOp} {x : AVal} {f : AVal → Option R} {r : R} (h : unK op x f = some r) : ∃ v, f v = some r ∧ ∀ (R' : Type) (f' : AVal → Option R'), unK op x f' = f' v := by
  unfold unK at h
  split at h
  · exact ⟨_, h, fun _ _ => rfl⟩
  · exact ⟨_, h, fun _ _ => rfl⟩
  · exact ⟨_, h, fun _ _ => rfl⟩
  · simp at h

def binL (σ : St) (q : Bool) (t : Option Ty) (op : BinOp) (x y : AVal) (f : AVal → Option R) : Option R := match t with
  | some u => cond (q && eqTy u && x.val && y.val) (asData σ 20 x u fun d => asData σ 20 y u fun e => eqRes op (eqD u d e) f) none
  | none => none
theorem binL_run {σ : St} {q : Bool} {t : Option Ty} {op : BinOp} {x y : AVal} {f : AVal → Option R} {r : R} (h : binL σ q t op x y f = some r) :
    ∃ v, f v = some r ∧ ∀ τ, OLe σ τ → ∀ (R' : Type) (f' : AVal → Option R'), binL τ q t op x y f' = f' v := by
  unfold binL at h
  split at h
  · rename_i u
    obtain ⟨hc, h⟩ := cond_run h
    obtain ⟨d, h, h1⟩ := asData_run _ _ _ h
    obtain ⟨e, h, h2⟩ := asData_run _ _ _ h
    obtain ⟨v, h, h3⟩ := eqRes_run h
    refine ⟨v, h, fun τ hle R' f' => ?_⟩
    simp only [binL, hc, cond_true]
    rw [h1 τ hle, h2 τ hle, h3]
  · simp at h
theorem binK_run {σ : St} {q : Bool} {t : Option Ty} {op : BinOp} {x y : AVal} {f : AVal → Option R} {r : R} (h : binK σ q t op x y f = some r) :
    ∃ v, f v = some r ∧ ∀ τ, OLe σ τ → ∀ (R' : Type) (f' : AVal → Option R'), binK τ q t op x y f' = f' v := by
  by_cases h1 : ∃ k a j b, x = .data (.int k) a ∧ y = .data (.int j) b
  · obtain ⟨kd, a, j, b, rfl, rfl⟩ := h1
    simp only [binK] at h ⊢
    cases hs : isShift op with
    | true =>
      rw [hs] at h
      simp only [cond_true] at h ⊢
      obtain ⟨v, h, ha⟩ := shiftInt_run h
      exact ⟨v, h, fun τ _ R' f' => ha R' f'⟩
    | false =>
      rw [hs] at h
      simp only [cond_false] at h ⊢
      split at h
      · obtain ⟨v, h, ha⟩ := binInt_run h
        exact ⟨v, h, fun τ _ R' f' => ha R' f'⟩
      · simp at h
  · by_cases h2 : ∃ a b, x = .data .bool a ∧ y = .data .bool b
    · obtain ⟨a, b, rfl, rfl⟩ := h2
      simp only [binK] at h ⊢
      split at h
      · obtain ⟨v, h, ha⟩ := binBool_run h
        exact ⟨v, h, fun τ _ R' f' => ha R' f'⟩
      · simp at h
    · have e : ∀ (σ : St) (R' : Type) (f' : AVal → Option R'), binK σ q t op x y f' = binL σ q t op x y f' := by
        intro σ R' f'
        unfold binK binL
        split
        · exact absurd ⟨_, _, _, _, rfl, rfl⟩ h1
        · exact absurd ⟨_, _, rfl, rfl⟩ h2
        · rfl
      rw [e] at h
      obtain ⟨v, h, ha⟩ := binL_run h
      exact ⟨v, h, fun τ hle R' f' => by rw [e]; exact ha τ hle R' f'⟩

theorem holds_run {σ τ : St} {a : AVal} (hle : OLe σ τ) (h : holds σ a = true) : holds τ a = true := by
  unfold holds at h ⊢
  split at h
  · rfl
  · rename_i id _
    split at h
    · rename_i ho; rw [hle _ _ ho]
    · simp at h
  · rename_i id _ ep
    split at h
    · rename_i ho; simp only [hle _ _ ho]; exact h
    · simp at h
  · rename_i id _ ep
    split at h
    · rename_i ho; simp only [hle _ _ ho]; exact h
    · simp at h
  · simp at h

theorem lenK_run {σ : St} {x : AVal} {f : Int → Option R} {r : R} (h : lenK σ x f = some r) : ∃ v, f v = some r ∧ ∀ τ, OLe σ τ → ∀ (R' : Type) (f' : Int → Option R'), lenK τ x f' = f' v := by
  unfold lenK at h
  split at h
  · exact ⟨_, h, fun _ _ _ _ => rfl⟩
  · exact ⟨_, h, fun _ _ _ _ => rfl⟩
  · obtain ⟨u, l, h, ha⟩ := fetchK_run h
    exact ⟨_, h, fun τ hle R' f' => by simp only [lenK]; rw [ha τ hle]⟩
  · obtain ⟨u, l, h, ha⟩ := fetchK_run h
    exact ⟨_, h, fun τ hle R' f' => by simp only [lenK]; rw [ha τ hle]⟩
  · obtain ⟨u, l, h, ha⟩ := nrowK_run h
    exact ⟨_, h, fun τ hle R' f' => by simp only [lenK]; rw [(ha τ hle).2]⟩
  · simp at h
theorem mapK_run {σ : St} {mt : Option (Ty × Ty)} {a : AVal} {f : (id : Nat) → (kt vt : Ty) → List (kt.den × vt.den) → Option R} {r : R} (h : mapK σ mt a f = some r) :
    ∃ id kt vt m, (∃ y, σ.objs id = some y) ∧ f id kt vt m = some r ∧ ∀ τ, OLe σ τ → ∀ (R' : Type) (f' : (id : Nat) → (kt vt : Ty) → List (kt.den × vt.den) → Option R'), mapK τ mt a f' = f' id kt vt m := by
  unfold mapK at h
  split at h
  · rename_i id kt' vt'
    split at h
    · rename_i kt vt m ho
      cases hc : ((Ty.same kt kt').isSome && (Ty.same vt vt').isSome && keyTy kt && vt.noSl) with
      | false => rw [hc] at h; simp at h
      | true =>
        rw [hc, cond_true] at h
        refine ⟨id, kt, vt, m, ⟨_, ho⟩, h, fun τ hle R' f' => ?_⟩
        simp only [mapK]
        rw [hle _ _ ho]
        simp only [hc, cond_true]
    · simp at h
  · simp at h
theorem sliceK_run {σ : St} {u : Ty} {x : AVal} {lo : Int} {hi : Option Int} {f : AVal → Option R} {r : R} (h : sliceK σ u x lo hi f = some r) :
    ∃ v, f v = some r ∧ ∀ τ, OLe σ τ → ∀ (R' : Type) (f' : AVal → Option R'), sliceK τ u x lo hi f' = f' v := by
  unfold sliceK at h
  split at h
  · obtain ⟨hb, h⟩ := chk_run h
    exact ⟨_, h, fun τ _ R' f' => by simp only [sliceK, hb, chk, cond_true]⟩
  · obtain ⟨hc, h⟩ := cond_run h
    obtain ⟨hb, h⟩ := chk_run h
    exact ⟨_, h, fun τ _ R' f' => by simp only [sliceK, hc, hb, chk, cond_true]⟩
  · obtain ⟨t, l, h, ha⟩ := fetchK_run h
    obtain ⟨hc, h⟩ := cond_run h
    obtain ⟨hb, h⟩ := chk_run h
    exact ⟨_, h, fun τ hle R' f' => by simp only [sliceK]; rw [ha τ hle]; simp only [hc, hb, chk, cond_true]⟩
  · simp at h
theorem foldInts_run {g : Int → Int → Int} {kd : IntKind} : {c : AVal} → {x : Int} → {f : Int → Option R} → {r : R} → foldInts g kd x c f = some r → ∃ v, f v = some r ∧ ∀ (R' : Type) (f' : Int → Option R'), foldInts g kd x c f' = f' v
  | .un, x, f, r, h => ⟨x, h, fun _ _ => rfl⟩
  | .pr (.data (.int j) y) c, x, f, r, h => by
    simp only [foldInts] at h ⊢
    split at h
    · rename_i he _
      obtain ⟨v, h, ha⟩ := foldInts_run (c := c) h
      refine ⟨v, h, fun R' f' => ?_⟩
      exact ha R' f'
    · simp at h
  | .data _ _, _, _, _, h => by simp [foldInts] at h
  | .nilS, _, _, _, h => by simp [foldInts] at h
  | .ref _ _ _, _, _, _, h => by simp [foldInts] at h
  | .view _ _ _ _ _, _, _, _, h => by simp [foldInts] at h
  | .bptr _ _, _, _, _, h => by simp [foldInts] at h
  | .eptr _ _ _, _, _, _, h => by simp [foldInts] at h
  | .mref _, _, _, _, h => by simp [foldInts] at h
  | .nv _ _ _ _, _, _, _, h => by simp [foldInts] at h
  | .clos _ _, _, _, _, h => by simp [foldInts] at h
  | .ifc _ _, _, _, _, h => by simp [foldInts] at h
  | .agg _, _, _, _, h => by simp [foldInts] at h
  | .tup _, _, _, _, h => by simp [foldInts] at h
  | .pr (.data .bool _) _, _, _, _, h => by simp [foldInts] at h
  | .pr (.data .str _) _, _, _, _, h => by simp [foldInts] at h
  | .pr (.data .unit _) _, _, _, _, h => by simp [foldInts] at h
  | .pr (.data (.pair _ _) _) _, _, _, _, h => by simp [foldInts] at h
  | .pr (.data (.arr _ _) _) _, _, _, _, h => by simp [foldInts] at h
  | .pr (.data (.sl _ _) _) _, _, _, _, h => by simp [foldInts] at h
  | .pr (.data (.ptr _) _) _, _, _, _, h => by simp [foldInts] at h
  | .pr (.data (.fn _ _) _) _, _, _, _, h => by simp [foldInts] at h
  | .pr .nilS _, _, _, _, h => by simp [foldInts] at h
  | .pr (.ref _ _ _) _, _, _, _, h => by simp [foldInts] at h
  | .pr (.view _ _ _ _ _) _, _, _, _, h => by simp [foldInts] at h
  | .pr (.bptr _ _) _, _, _, _, h => by simp [foldInts] at h
  | .pr (.eptr _ _ _) _, _, _, _, h => by simp [foldInts] at h
  | .pr (.mref _) _, _, _, _, h => by simp [foldInts] at h
  | .pr (.nv _ _ _ _) _, _, _, _, h => by simp [foldInts] at h
  | .pr (.clos _ _) _, _, _, _, h => by simp [foldInts] at h
  | .pr (.ifc _ _) _, _, _, _, h => by simp [foldInts] at h
  | .pr (.agg _) _, _, _, _, h => by simp [foldInts] at h
  | .pr (.tup _) _, _, _, _, h => by simp [foldInts] at h
  | .pr (.pr _ _) _, _, _, _, h => by simp [foldInts] at h
  | .pr .un _, _, _, _, h => by simp [foldInts] at h

theorem nrow_obj {σ : St} {id : Nat} {p : Path} {ep : Nat} {k : (v : Ty) → List v.den → Option R} {r : R} (h : nrowK σ id p ep k = some r) : ∃ t l e i, σ.objs id = some (.nest t l e i none) := by
  unfold nrowK nfetchK at h
  split at h
  · rename_i t l e i ho
    exact ⟨t, l, e, i, ho⟩
  · simp at h
theorem indexK_run {σ : St} {u : Ty} {x : AVal} {i : Int} {f : AVal → Option R} {r : R} (h : indexK σ u x i f = some r) :
    ∃ v, f v = some r ∧ ∀ τ, OLe σ τ → ∀ (R' : Type) (f' : AVal → Option R'), indexK τ u x i f' = f' v := by
  unfold indexK at h
  split at h
  · obtain ⟨hc, h⟩ := cond_run h
    obtain ⟨d, hd, h⟩ := Option.bind_eq_some_iff.1 h
    exact ⟨_, h, fun τ _ R' f' => by simp only [indexK, hc, cond_true, hd, Option.bind_some]⟩
  · obtain ⟨hc, h⟩ := cond_run h
    obtain ⟨d, hd, h⟩ := Option.bind_eq_some_iff.1 h
    exact ⟨_, h, fun τ _ R' f' => by simp only [indexK, hc, cond_true, hd, Option.bind_some]⟩
  · obtain ⟨t, l, h, ha⟩ := fetchK_run h
    obtain ⟨hc, h⟩ := cond_run h
    obtain ⟨hb, h⟩ := chk_run h
    exact ⟨_, h, fun τ hle R' f' => by simp only [indexK]; rw [ha τ hle]; simp only [hc, hb, chk, cond_true]⟩
  · obtain ⟨t, l, h, ha⟩ := fetchK_run h
    obtain ⟨hc, h⟩ := cond_run h
    obtain ⟨hb, h⟩ := chk_run h
    exact ⟨_, h, fun τ hle R' f' => by simp only [indexK]; rw [ha τ hle]; simp only [hc, hb, chk, cond_true]⟩
  · rename_i id p ep _ u
    cases hb0 : (noP p && holed σ id) with
    | true =>
      rw [hb0, cond_true] at h
      unfold holeK at h
      split at h
      · rename_i t l e n hp ho
        obtain ⟨hc, h⟩ := cond_run h
        obtain ⟨hb, h⟩ := chk_run h
        refine ⟨_, h, fun τ hle R' f' => ?_⟩
        have ht := hle _ _ ho
        have hq : (noP p && holed τ id) = true := by
          simp only [Bool.and_eq_true] at hb0 ⊢
          exact ⟨hb0.1, by simp [holed, ht]⟩
        simp only [indexK, hq, cond_true, holeK, ht, hc, hb, chk]
      · simp at h
    | false =>
      rw [hb0, cond_false] at h
      obtain ⟨t0, l0, e0, i0, ho⟩ := nrow_obj h
      obtain ⟨t, l, h, ha⟩ := nrowK_run h
      obtain ⟨hc, h⟩ := cond_run h
      obtain ⟨hb, h⟩ := chk_run h
      refine ⟨_, h, fun τ hle R' f' => ?_⟩
      have hq : (noP p && holed τ id) = false := by
        have : holed τ id = false := by simp [holed, hle _ _ ho]
        rw [this, Bool.and_false]
      simp only [indexK, hq, cond_false]
      rw [(ha τ hle).2]
      simp only [hc, hb, chk, cond_true, (ha τ hle).1]
  · obtain ⟨a, h, ha⟩ := bfetchK_run h
    split at h
    · obtain ⟨hc, h⟩ := cond_run h
      obtain ⟨hb, h⟩ := chk_run h
      exact ⟨_, h, fun τ hle R' f' => by simp only [indexK]; rw [ha τ hle]; simp only [hc, hb, chk, cond_true]⟩
    · simp at h
  · simp at h
theorem loadK_run {σ : St} {x : AVal} {f : AVal → Option R} {r : R} (h : loadK σ x f = some r) :
    ∃ v, f v = some r ∧ ∀ τ, OLe σ τ → ∀ (R' : Type) (f' : AVal → Option R'), loadK τ x f' = f' v := by
  unfold loadK at h
  split at h
  · exact ⟨_, h, fun _ _ _ _ => rfl⟩
  · split at h
    · simp at h
    · obtain ⟨u, d, h, ha⟩ := efetchK_run h
      exact ⟨_, h, fun τ hle R' f' => by simp only [loadK]; rw [ha τ hle]⟩
  · obtain ⟨a, h, ha⟩ := bfetchK_run h
    exact ⟨_, h, fun τ hle R' f' => by simp only [loadK]; rw [ha τ hle]⟩
  · rename_i id p ep
    obtain ⟨u, d, h, ha⟩ := nfetchK_run h
    cases hro : u.isRo with
    | true =>
      rw [hro] at h
      exact ⟨_, h, fun τ hle R' f' => by simp only [loadK]; rw [(ha τ hle).2]; simp only [hro, cond_true]⟩
    | false =>
      rw [hro, cond_false] at h
      split at h
      · exact ⟨_, h, fun τ hle R' f' => by simp only [loadK]; rw [(ha τ hle).2]; simp only [hro, cond_false]⟩
      · simp at h
  · simp at h
theorem fieldK_run {σ : St} {u : Ty} {x : AVal} {i : Nat} {f : AVal → Option R} {r : R} (h : fieldK σ u x i f = some r) :
    ∃ v, f v = some r ∧ ∀ τ, OLe σ τ → ∀ (R' : Type) (f' : AVal → Option R'), fieldK τ u x i f' = f' v := by
  unfold fieldK at h
  split at h
  · obtain ⟨hc, h⟩ := cond_run h
    obtain ⟨v, e, h, ha⟩ := getK_run _ _ _ h
    exact ⟨_, h, fun τ _ R' f' => by simp only [fieldK, hc, cond_true]; rw [ha]⟩
  · obtain ⟨a, h, ha⟩ := bfetchK_run h
    obtain ⟨hc, h⟩ := cond_run h
    exact ⟨_, h, fun τ hle R' f' => by simp only [fieldK]; rw [ha τ hle]; simp only [hc, cond_true]⟩
  · split at h
    · simp at h
    · obtain ⟨t, d, h, ha⟩ := efetchK_run h
      obtain ⟨hc, h⟩ := cond_run h
      exact ⟨_, h, fun τ hle R' f' => by simp only [fieldK]; rw [ha τ hle]; simp only [hc, cond_true]⟩
  · obtain ⟨t, d, h, ha⟩ := nfetchK_run h
    obtain ⟨hc, h⟩ := cond_run h
    exact ⟨_, h, fun τ hle R' f' => by simp only [fieldK]; rw [(ha τ hle).2]; simp only [hc, cond_true]⟩
  · simp at h
theorem tailK_run {σ : St} {t : Ty} {x : AVal} {f : List t.den → Option R} {r : R} (h : tailK σ t x f = some r) :
    ∃ v, f v = some r ∧ ∀ τ, OLe σ τ → ∀ (R' : Type) (f' : List t.den → Option R'), tailK τ t x f' = f' v := by
  unfold tailK at h
  obtain ⟨hc, h⟩ := cond_run h
  obtain ⟨d, h, ha⟩ := asData_run _ _ _ h
  exact ⟨d, h, fun τ hle R' f' => by unfold tailK; rw [hc, cond_true]; exact ha τ hle R' f'⟩
theorem elemTy_run {σ τ : St} (hle : OLe σ τ) {x : AVal} {t : Ty} (h : elemTy σ x = some t) : elemTy τ x = some t := by
  unfold elemTy at h ⊢
  split at h
  · exact h
  · obtain ⟨u, l, h, ha⟩ := fetchK_run h
    rw [ha τ hle]; exact h
  · obtain ⟨u, l, h, ha⟩ := fetchK_run h
    rw [ha τ hle]; exact h
  · obtain ⟨u, l, h, ha⟩ := nrowK_run h
    rw [(ha τ hle).2]; exact h
  · simp at h

theorem giveRow_run {n : Nat} {σ : St} {a : AVal} {v : Ty} {k : List v.den → St → Option R} {r : R} (h : giveRow σ a v k = some r) :
    ∃ d ob, k d (putO ob σ) = some r ∧ Dom n σ ob ∧ ∀ τ, OLe σ τ → ∀ (R' : Type) (k' : List v.den → St → Option R'), giveRow τ a v k' = k' d (putO ob τ) := by
  unfold giveRow at h
  split at h
  · exact ⟨[], [], h, Dom.nil, fun _ _ _ _ => rfl⟩
  · rename_i id ep
    split at h
    · rename_i t l e ho
      obtain ⟨hc, h⟩ := cond_run h
      obtain ⟨d, h, ha⟩ := castK_run h
      refine ⟨d, [(id, none)], h, Dom.old ho, fun τ hle R' k' => ?_⟩
      simp only [giveRow]
      rw [hle _ _ ho]
      simp only [hc, cond_true]
      exact ha R' _
    · simp at h
  · simp at h
theorem fillK_run {n : Nat} {σ : St} {id : Nat} {t : Ty} {l : List t.den} {e i : Nat} {h0 : Option Path} {p : Path} {a : AVal} {f : St → Option R} {r : R} (ho : σ.objs id = some (.nest t l e i h0)) (h : fillK σ id t l e i p a f = some r) :
    ∃ ob, f (putO ob σ) = some r ∧ Dom n σ ob ∧ ∀ τ, OLe σ τ → ∀ (R' : Type) (f' : St → Option R'), fillK τ id t l e i p a f' = f' (putO ob τ) := by
  unfold fillK at h
  split at h
  · rename_i v hv
    obtain ⟨hc, h⟩ := cond_run h
    obtain ⟨d, ob, h, hd, ha⟩ := giveRow_run (n := n) h
    obtain ⟨l', h, hs⟩ := setK_run _ _ _ h
    refine ⟨ob ++ [(id, some (.nest t l' e (i + 1) none))], by rw [putO_append]; exact h, ?_, fun τ hle R' f' => ?_⟩
    · intro x hx
      rcases List.mem_append.1 hx with hx | hx
      · exact hd x hx
      · exact Dom.old ho x hx
    · unfold fillK
      rw [hv]
      simp only [hc, cond_true]
      rw [ha τ hle, hs, putO_append]
      rfl
  · simp at h
theorem nstoreK_run {n : Nat} {σ : St} {id : Nat} {p : Path} {ep : Nat} {a : AVal} {f : St → Option R} {r : R} (h : nstoreK σ id p ep a f = some r) :
    ∃ ob, f (putO ob σ) = some r ∧ Dom n σ ob ∧ ∀ τ, OLe σ τ → ∀ (R' : Type) (f' : St → Option R'), nstoreK τ id p ep a f' = f' (putO ob τ) := by
  unfold nstoreK at h
  split at h
  · rename_i t l e i ho
    obtain ⟨hc, h⟩ := cond_run h
    cases hs : (tyR t p).isSome with
    | true =>
      rw [hs, cond_true] at h
      obtain ⟨ob, h, hd, ha⟩ := fillK_run (n := n) ho h
      refine ⟨ob, h, hd, fun τ hle R' f' => ?_⟩
      unfold nstoreK
      rw [hle _ _ ho]
      simp only [hc, hs, cond_true]
      exact ha τ hle R' f'
    | false =>
      rw [hs, cond_false] at h
      split at h
      · rename_i s p1 j q hl
        obtain ⟨U, X, h, hg1⟩ := getK_run _ _ _ h
        split at h
        · rename_i v l1
          obtain ⟨hro, h⟩ := cond_run h
          obtain ⟨u, x, h, hg2⟩ := getK_run _ _ _ h
          obtain ⟨d, ob, h, hd, hb⟩ := give_run (n := n) _ _ _ h
          split at h
          · rename_i t2 l2 e2 i2 ho2
            obtain ⟨l1', h, hs1⟩ := setK_run _ _ _ h
            obtain ⟨l', h, hs2⟩ := setK_run _ _ _ h
            refine ⟨ob ++ [(id, some (.nest t l' e i none))], by rw [putO_append]; exact h, ?_, fun τ hle R' f' => ?_⟩
            · intro x hx
              rcases List.mem_append.1 hx with hx | hx
              · exact hd x hx
              · exact Dom.old ho x hx
            · unfold nstoreK
              rw [hle _ _ ho]
              simp only [hc, hs, cond_true, cond_false, hl]
              rw [hg1]
              simp only [hro, cond_true]
              rw [hg2, hb τ hle, hle.putO ob _ _ ho2]
              simp only
              rw [hs1, hs2, putO_append]
              rfl
          · simp at h
        · simp at h
      · simp at h
  · rename_i t l e i h0 ho
    obtain ⟨hc, h⟩ := cond_run h
    obtain ⟨hp, h⟩ := chk_run h
    obtain ⟨ob, h, hd, ha⟩ := fillK_run (n := n) ho h
    refine ⟨ob, h, hd, fun τ hle R' f' => ?_⟩
    unfold nstoreK
    rw [hle _ _ ho]
    simp only [hc, hp, chk, cond_true]
    exact ha τ hle R' f'
  · simp at h

theorem storeK_run {n : Nat} {σ : St} {x a : AVal} {f : St → Option R} {r : R} (h : storeK σ x a f = some r) :
    ∃ ob, f (putO ob σ) = some r ∧ Dom n σ ob ∧ ∀ τ, OLe σ τ → ∀ (R' : Type) (f' : St → Option R'), storeK τ x a f' = f' (putO ob τ) := by
  unfold storeK at h
  split at h
  · rename_i id p ep
    split at h
    · simp at h
    · rename_i s q
      obtain ⟨u, e, h, ha⟩ := efetchK_run h
      obtain ⟨d, ob, h, hd, hb⟩ := give_run (n := n) _ _ _ h
      split at h
      · rename_i t l e' ho
        obtain ⟨hc, h⟩ := cond_run h
        obtain ⟨l', h, hs⟩ := setK_run _ _ _ h
        refine ⟨ob ++ [(id, some (.row t l' e'))], by rw [putO_append]; exact h, hd.append (Dom.old ho), fun τ hle R' f' => ?_⟩
        simp only [storeK]
        rw [ha τ hle, hb τ hle]
        rw [hle.putO ob _ _ ho]
        simp only [hc, cond_true]
        rw [hs, putO_append]
        rfl
      · simp at h
  · rename_i id p
    split at h
    · rename_i whole ho
      obtain ⟨old, h, ha⟩ := getA_run h
      obtain ⟨hc, h⟩ := cond_run h
      obtain ⟨w, h, hs⟩ := setA_run _ _ h
      refine ⟨[(id, some (.cell w))], h, Dom.old ho, fun τ hle R' f' => ?_⟩
      simp only [storeK]
      rw [hle _ _ ho]
      simp only
      rw [ha]
      simp only [hc, cond_true]
      rw [hs]; rfl
    · simp at h
  · obtain ⟨ob, h, hd, ha⟩ := nstoreK_run (n := n) h
    exact ⟨ob, h, hd, fun τ hle R' f' => by simp only [storeK]; exact ha τ hle R' f'⟩
  · simp at h

theorem appendK_run {n : Nat} {σ : St} {u : Ty} {s x : AVal} {f : AVal → St → Option R} {r : R} (h : appendK σ n u s x f = some r) :
    ∃ v ob, f v (putO ob σ) = some r ∧ Dom n σ ob ∧ ∀ τ, OLe σ τ → ∀ (R' : Type) (f' : AVal → St → Option R'), appendK τ n u s x f' = f' v (putO ob τ) := by
  unfold appendK at h
  split at h
  · split at h
    · rename_i t ht
      obtain ⟨hc, h⟩ := cond_run h
      obtain ⟨m, h, ha⟩ := tailK_run h
      obtain ⟨hb, h⟩ := chk_run h
      refine ⟨_, [(n, some (.row t m 1))], h, Dom.new, fun τ hle R' f' => ?_⟩
      simp only [appendK]
      rw [elemTy_run hle ht]
      simp only [hc, cond_true]
      rw [ha τ hle, hb]; rfl
    · simp at h
  · rename_i id ep
    split at h
    · rename_i t l e ho
      obtain ⟨hc, h⟩ := cond_run h
      obtain ⟨m, h, ha⟩ := tailK_run h
      obtain ⟨hb, h⟩ := chk_run h
      refine ⟨_, [(id, some (.row t (l ++ m) (e + 1)))], h, Dom.old ho, fun τ hle R' f' => ?_⟩
      simp only [appendK]
      rw [hle _ _ ho]
      simp only [hc, cond_true]
      rw [ha τ hle, hb]; rfl
    · simp at h
  · rename_i id ep a b
    split at h
    · rename_i t l e ho
      obtain ⟨hc, h⟩ := cond_run h
      obtain ⟨m, h, ha⟩ := tailK_run h
      obtain ⟨hb, h⟩ := chk_run h
      refine ⟨_, [(id, some (.row t (sub l a b ++ m) (e + 2)))], h, Dom.old ho, fun τ hle R' f' => ?_⟩
      simp only [appendK]
      rw [hle _ _ ho]
      simp only [hc, cond_true]
      rw [ha τ hle, hb]; rfl
    · simp at h
  · rename_i id q p ep
    split at h
    · rename_i t l e i ho
      obtain ⟨hc, h⟩ := cond_run h
      obtain ⟨U, X, h, hg⟩ := getK_run _ _ _ h
      split at h
      · rename_i v l1
        obtain ⟨hc2, h⟩ := cond_run h
        obtain ⟨m, h, ha⟩ := tailK_run h
        obtain ⟨hb, h⟩ := chk_run h
        refine ⟨_, [(id, some (.nest t l e i (some (q :: p))))] ++ [(n, some (.row v (l1 ++ m) 1))], h, Dom.append (Dom.old ho) Dom.new, fun τ hle R' f' => ?_⟩
        simp only [appendK]
        rw [hle _ _ ho]
        simp only [hc, cond_true]
        rw [hg]
        simp only [hc2, cond_true]
        rw [ha τ hle, hb]; rfl
      · simp at h
    · simp at h
  · simp at h

theorem parts_run {n : Nat} {lo : List Operand} {t : Ty} : {ps : List (Nat × Operand)} → {R : Type} → {σ : St} → {k : List t.den → St → Option R} → {r : R} → (∀ x ∈ ps, x.2 ∈ lo) → parts σ t ps k = some r →
    ∃ ds ob, k ds (putO ob σ) = some r ∧ Dom n σ ob ∧ ∀ τ, SameAt lo σ τ → OLe σ τ → ∀ (R' : Type) (k' : List t.den → St → Option R'), parts τ t ps k' = k' ds (putO ob τ)
  | [], _, σ, k, r, _, h => ⟨[], [], h, Dom.nil, fun _ _ _ _ _ => rfl⟩
  | (i, x) :: ps, _, σ, k, r, hm, h => by
    simp only [parts] at h
    split at h
    · rename_i a hx
      obtain ⟨hc, h⟩ := cond_run h
      obtain ⟨d, ob, h, hd, ha⟩ := give_run (n := n) _ _ _ h
      obtain ⟨ds, oc, h, hd', hb⟩ := parts_run (n := n) (fun y hy => hm y (by simp [hy])) h
      refine ⟨d :: ds, ob ++ oc, by rw [putO_append]; exact h, hd.append hd', fun τ hs hle R' k' => ?_⟩
      simp only [parts]
      rw [ev_same hs (hm (i, x) (by simp)), hx]
      simp only [hc, cond_true]
      rw [ha τ hle, hb (putO ob τ) (fun t ht => by rw [putO_slots, putO_slots]; exact hs t ht) (hle.putO ob), putO_append]
    · simp at h

/-- What a function is given, as data. -/
theorem matchArgs_run {σ : St} : (p : APat) → {R : Type} → (a : AVal) → {b : Bnd} → {k : p.den → Bnd → Option R} → {r : R} → chainP p = true → matchArgs σ p a b k = some r →
    ∃ d b', k d b' = some r ∧ ∀ τ, OLe σ τ → ∀ (R' : Type) (k' : p.den → Bnd → Option R'), matchArgs τ p a b k' = k' d b'
  | .un, _, .un, b, k, r, _, h => ⟨(), b, h, fun _ _ _ _ => rfl⟩
  | .pr (.val t) q, _, .pr x y, b, k, r, hp, h => by
    simp only [matchArgs] at h ⊢
    obtain ⟨d, h, ha⟩ := asData_run _ _ _ h
    obtain ⟨e, b', h, hb⟩ := matchArgs_run q y (by simpa [chainP] using hp) h
    exact ⟨(d, e), b', h, fun τ hle R' k' => by rw [ha τ hle]; exact hb τ hle R' _⟩
  | .un, _, .data _ _, _, _, _, _, h | .un, _, .nilS, _, _, _, _, h | .un, _, .ref _ _ _, _, _, _, _, h | .un, _, .view _ _ _ _ _, _, _, _, _, h | .un, _, .bptr _ _, _, _, _, _, h | .un, _, .eptr _ _ _, _, _, _, _, h | .un, _, .mref _, _, _, _, _, h | .un, _, .nv _ _ _ _, _, _, _, _, h
  | .un, _, .clos _ _, _, _, _, _, h | .un, _, .agg _, _, _, _, _, h | .un, _, .tup _, _, _, _, _, h | .un, _, .pr _ _, _, _, _, _, h => by simp [matchArgs] at h
  | .pr (.val _) _, _, .data _ _, _, _, _, _, h | .pr (.val _) _, _, .nilS, _, _, _, _, h | .pr (.val _) _, _, .ref _ _ _, _, _, _, _, h | .pr (.val _) _, _, .view _ _ _ _ _, _, _, _, _, h | .pr (.val _) _, _, .bptr _ _, _, _, _, _, h | .pr (.val _) _, _, .eptr _ _ _, _, _, _, _, h | .pr (.val _) _, _, .mref _, _, _, _, _, h | .pr (.val _) _, _, .nv _ _ _ _, _, _, _, _, h
  | .pr (.val _) _, _, .clos _ _, _, _, _, _, h | .pr (.val _) _, _, .agg _, _, _, _, _, h | .pr (.val _) _, _, .tup _, _, _, _, _, h | .pr (.val _) _, _, .un, _, _, _, _, h => by simp [matchArgs] at h
  | .val _, _, _, _, _, _, hp, _ | .ref _, _, _, _, _, _, hp, _ | .bptr _, _, _, _, _, _, hp, _ | .clos _ _, _, _, _, _, _, hp, _ | .agg _, _, _, _, _, _, hp, _
  | .pr (.ref _) _, _, _, _, _, _, hp, _ | .pr (.bptr _) _, _, _, _, _, _, hp, _ | .pr (.clos _ _) _, _, _, _, _, _, hp, _ | .pr (.agg _) _, _, _, _, _, _, hp, _ | .pr (.pr _ _) _, _, _, _, _, _, hp, _ | .pr .un _, _, _, _, _, _, hp, _ => by simp [chainP] at hp

def obsOf : Nat → List Obj → List (Nat × Option Obj)
  | _, [] => []
  | n, o :: os => (n, some o) :: obsOf (n + 1) os
theorem addObjs_putO : (os : List Obj) → (n : Nat) → (σ : St) → σ.addObjs n os = putO (obsOf n os) σ
  | [], _, _ => rfl
  | o :: os, n, σ => by simp only [St.addObjs, obsOf, putO]; exact addObjs_putO os (n + 1) _
theorem obsOf_dom {m : Nat} {σ : St} : (os : List Obj) → (n : Nat) → m ≤ n → n + os.length ≤ m + 8 → Dom m σ (obsOf n os)
  | [], _, _, _ => Dom.nil
  | o :: os, n, h1, h2 => by
    intro x hx
    simp only [obsOf, List.mem_cons] at hx
    simp only [List.length_cons] at h2
    rcases hx with rfl | hx
    · exact .inr ⟨h1, by simp only; omega⟩
    · exact obsOf_dom os (n + 1) (by omega) (by omega) x hx

theorem callPure_run {n : Nat} {σ : St} {all : AVal} {p : APat} {res : List Ty} {F : p.den → Option (resDen res)} {f : AVal → St → Option R} {r : R} (h : callPure σ n all p res F f = some r) :
    ∃ v ob, f v (putO ob σ) = some r ∧ Dom n σ ob ∧ ∀ τ, OLe σ τ → ∀ (R' : Type) (f' : AVal → St → Option R'), callPure τ n all p res F f' = f' v (putO ob τ) := by
  unfold callPure at h
  obtain ⟨hc, h⟩ := cond_run h
  have hp : chainP p = true := by simp only [Bool.and_eq_true] at hc; exact hc.1.1
  obtain ⟨d, b, h, ha⟩ := matchArgs_run p all hp h
  obtain ⟨y, hy, h⟩ := Option.bind_eq_some_iff.1 h
  obtain ⟨hl, h⟩ := cond_run h
  rw [addObjs_putO] at h
  refine ⟨_, _, h, obsOf_dom _ _ (Nat.le_refl _) (by have := Nat.le_of_ble_eq_true hl; omega), fun τ hle R' f' => ?_⟩
  unfold callPure
  rw [hc, cond_true, ha τ hle, hy]
  simp only [Option.bind_some, hl, cond_true, addObjs_putO]
theorem callK_run {c : Ctx} {n : Nat} {σ : St} {g args : AVal} {f : AVal → St → Option R} {r : R} (hp : ∀ fid all, calleeOf g args = some (fid, all) → pureC (c.env fid) = true) (h : callK c σ n g args f = some r) :
    ∃ v ob, f v (putO ob σ) = some r ∧ Dom n σ ob ∧ ∀ τ, OLe σ τ → ∀ (R' : Type) (f' : AVal → St → Option R'), callK c τ n g args f' = f' v (putO ob τ) := by
  unfold callK at h
  split at h
  · rename_i fid all hco
    cases hpk : pickC all (c.env fid) with
    | none => rw [hpk] at h; simp at h
    | some x =>
      obtain ⟨p, res, F, rfl⟩ := pureC_pick (hp fid all hco) hpk
      rw [hpk] at h
      obtain ⟨v, ob, h, hd, ha⟩ := callPure_run h
      refine ⟨v, ob, h, hd, fun τ hle R' f' => ?_⟩
      unfold callK
      rw [hco]
      simp only
      rw [hpk]
      exact ha τ hle R' f'
  · simp at h

end Go.Kz

/-
  What an operation makes of a part of a state, it makes of the whole: every operation.
-/
namespace Go.Kz
variable {R : Type}

/-- What an operation leaves: a value in a slot, objects. -/
structure Eff where
  sl : Option (Nat × AVal)
  ob : List (Nat × Option Obj)
def Eff.slot (e : Eff) (σ : St) : St := match e.sl with
  | some (d, v) => σ.set d v
  | none => σ
def Eff.app (e : Eff) (σ : St) : St := putO e.ob (e.slot σ)

structure Run (c : Ctx) (σ : St) (n : Nat) (o : Oper) (e : Eff) : Prop where
  sl : ∀ d v, e.sl = some (d, v) → o.dst = some d
  ob : Dom n σ e.ob
  eq : ∀ τ, SameAt o.op.operands.toList σ τ → OLe σ τ → ∀ (R' : Type) (k' : St → Option R'), opK0 c τ n o k' = k' (e.app τ)
  y : isY0 o = true → e.ob = []

theorem putO_set (d : Nat) (v : AVal) : (l : List (Nat × Option Obj)) → (σ : St) → (putO l σ).set d v = putO l (σ.set d v)
  | [], _ => rfl
  | (i, o) :: l, σ => by simp only [putO]; rw [putO_set d v l]; rfl

theorem putK_run {c : Ctx} {σ : St} {d : Option Nat} {v : AVal} {k : St → Option R} {r : R} (h : σ.putK c d v k = some r) :
    ∃ sl : Option (Nat × AVal), (∀ d' v', sl = some (d', v') → d = some d') ∧ k (Eff.slot ⟨sl, []⟩ σ) = some r ∧ ∀ (τ : St) (R' : Type) (k' : St → Option R'), τ.putK c d v k' = k' (Eff.slot ⟨sl, []⟩ τ) := by
  cases d with
  | none => exact ⟨none, by simp, h, fun _ _ _ => rfl⟩
  | some i =>
    simp only [St.putK] at h ⊢
    obtain ⟨hb, h⟩ := cond_run h
    exact ⟨some (i, v), by simp, h, fun _ _ _ => by rw [hb]; rfl⟩

/-- An operation that gives a value. -/
theorem run_val {c : Ctx} {σ : St} {n : Nat} {o : Oper} {k : St → Option R} {r : R} {v : AVal} (h : σ.putK c o.dst v k = some r)
    (ha : ∀ τ, SameAt o.op.operands.toList σ τ → OLe σ τ → ∀ (R' : Type) (k' : St → Option R'), opK0 c τ n o k' = τ.putK c o.dst v k') :
    ∃ e : Eff, k (e.app σ) = some r ∧ Run c σ n o e := by
  obtain ⟨sl, h1, h2, h3⟩ := putK_run h
  exact ⟨⟨sl, []⟩, h2, h1, Dom.nil, fun τ hs hle R' k' => by rw [ha τ hs hle, h3]; rfl, fun _ => rfl⟩

/-- An operation that makes objects and gives a value. -/
theorem run_obj {c : Ctx} {σ : St} {n : Nat} {o : Oper} {k : St → Option R} {r : R} {v : AVal} {ob : List (Nat × Option Obj)} (hy : isY0 o = false) (hd : Dom n σ ob) (h : (putO ob σ).putK c o.dst v k = some r)
    (ha : ∀ τ, SameAt o.op.operands.toList σ τ → OLe σ τ → ∀ (R' : Type) (k' : St → Option R'), opK0 c τ n o k' = (putO ob τ).putK c o.dst v k') :
    ∃ e : Eff, k (e.app σ) = some r ∧ Run c σ n o e := by
  obtain ⟨sl, h1, h2, h3⟩ := putK_run h
  have e : ∀ τ, Eff.slot ⟨sl, []⟩ (putO ob τ) = Eff.app ⟨sl, ob⟩ τ := by
    intro τ
    cases sl with
    | none => rfl
    | some x => exact putO_set _ _ ob τ
  refine ⟨⟨sl, ob⟩, by rw [← e]; exact h2, h1, hd, fun τ hs hle R' k' => by rw [ha τ hs hle, h3, e], fun h => ?_⟩
  rw [hy] at h; simp at h

theorem evI_same {l : List Operand} {σ τ : St} (h : SameAt l σ τ) {x : Option Operand} (hx : ∀ y, x = some y → y ∈ l) : evI τ x = evI σ x := by
  cases x with
  | none => rfl
  | some y => simp only [evI]; rw [ev_same h (hx y rfl)]

theorem fillA_same {l : List Operand} {σ τ : St} (h : SameAt l σ τ) : {u : Ty} → {i : Nat} → {m : List (Nat × Operand)} → (∀ x ∈ m, x.2 ∈ l) → fillA τ u i m = fillA σ u i m
  | .unit, _, [], _ => rfl
  | .unit, _, _ :: _, _ => rfl
  | .pair a b, i, [], hm => by simp only [fillA]; rw [fillA_same h (u := b) hm]
  | .pair a b, i, (j, x) :: m, hm => by
    simp only [fillA]
    rw [fillA_same h (u := b) hm, fillA_same h (u := b) (m := m) (fun y hy => hm y (by simp [hy])), ev_same h (hm (j, x) (by simp))]
  | .int _, _, _, _ => rfl
  | .bool, _, _, _ => rfl
  | .str, _, _, _ => rfl
  | .arr _ _, _, _, _ => rfl
  | .sl _ _, _, _, _ => rfl
  | .ptr _, _, _, _ => rfl
  | .fn _ _, _, _, _ => rfl
theorem chainD_run {t : Ty} : {a : AVal} → {f : List t.den → Option R} → {r : R} → chainD t a f = some r → ∃ v, f v = some r ∧ ∀ (R' : Type) (f' : List t.den → Option R'), chainD t a f' = f' v
  | .un, f, r, h => ⟨[], h, fun _ _ => rfl⟩
  | .pr (.data u d) c, f, r, h => by
    simp only [chainD] at h
    obtain ⟨e, h, he⟩ := castK_run h
    obtain ⟨l, h, hl⟩ := chainD_run h
    exact ⟨e :: l, h, fun R' f' => by simp only [chainD]; rw [he, hl]⟩
  | .pr (.nilS) _, _, _, h => by simp [chainD] at h
  | .pr (.ref _ _ _) _, _, _, h => by simp [chainD] at h
  | .pr (.view _ _ _ _ _) _, _, _, h => by simp [chainD] at h
  | .pr (.bptr _ _) _, _, _, h => by simp [chainD] at h
  | .pr (.eptr _ _ _) _, _, _, h => by simp [chainD] at h
  | .pr (.mref _) _, _, _, h => by simp [chainD] at h
  | .pr (.nv _ _ _ _) _, _, _, h => by simp [chainD] at h
  | .pr (.clos _ _) _, _, _, h => by simp [chainD] at h
  | .pr (.ifc _ _) _, _, _, h => by simp [chainD] at h
  | .pr (.agg _) _, _, _, h => by simp [chainD] at h
  | .pr (.tup _) _, _, _, h => by simp [chainD] at h
  | .pr (.pr _ _) _, _, _, h => by simp [chainD] at h
  | .pr .un _, _, _, h => by simp [chainD] at h
  | .data _ _, _, _, h => by simp [chainD] at h
  | .nilS, _, _, h => by simp [chainD] at h
  | .ref _ _ _, _, _, h => by simp [chainD] at h
  | .view _ _ _ _ _, _, _, h => by simp [chainD] at h
  | .bptr _ _, _, _, h => by simp [chainD] at h
  | .eptr _ _ _, _, _, h => by simp [chainD] at h
  | .mref _, _, _, h => by simp [chainD] at h
  | .nv _ _ _ _, _, _, h => by simp [chainD] at h
  | .clos _ _, _, _, h => by simp [chainD] at h
  | .ifc _ _, _, _, h => by simp [chainD] at h
  | .agg _, _, _, h => by simp [chainD] at h
  | .tup _, _, _, h => by simp [chainD] at h

theorem opK0_run {c : Ctx} {σ : St} {n : Nat} {o : Oper} {k : St → Option R} {r : R} (hp : pureG c σ o = true) (h : opK0 c σ n o k = some r) : ∃ e : Eff, k (e.app σ) = some r ∧ Run c σ n o e := by
  unfold opK0 at h
  split at h
  · -- move
    rename_i x hop
    split at h
    · rename_i a hx
      exact run_val h fun τ hs _ R' k' => by simp only [opK0, hop]; rw [ev_same hs (by rw [hop]; simp [Op.operands]), hx]
    · simp at h
  · rename_i x hop
    split at h
    · rename_i a hx
      exact run_val h fun τ hs _ R' k' => by simp only [opK0, hop]; rw [ev_same hs (by rw [hop]; simp [Op.operands]), hx]
    · simp at h
  · -- pick
    rename_i t x y hop
    split at h
    · rename_i b ht
      cases b with
      | true =>
        simp only [cond_true] at h
        split at h
        · rename_i a hx
          exact run_val h fun τ hs _ R' k' => by
            simp only [opK0, hop]
            rw [ev_same hs (x := t) (by rw [hop]; simp [Op.operands]), ht, ev_same hs (x := x) (by rw [hop]; simp [Op.operands]), hx]; rfl
        · simp at h
      | false =>
        simp only [cond_false] at h
        split at h
        · rename_i a hx
          exact run_val h fun τ hs _ R' k' => by
            simp only [opK0, hop]
            rw [ev_same hs (x := t) (by rw [hop]; simp [Op.operands]), ht, ev_same hs (x := y) (by rw [hop]; simp [Op.operands]), hx]; rfl
        · simp at h
    · simp at h
  · -- binOp
    rename_i op t x y z hop
    split at h
    · rename_i a b hx hy
      obtain ⟨v, h, ha⟩ := binK_run h
      exact run_val h fun τ hs hle R' k' => by
        simp only [opK0, hop]
        rw [ev_same hs (x := x) (by rw [hop]; simp [Op.operands]), hx, ev_same hs (x := y) (by rw [hop]; simp [Op.operands]), hy]
        exact ha τ hle R' _
    · simp at h
  · -- unOp
    rename_i op t x hop
    split at h
    · rename_i a hx
      obtain ⟨v, h, ha⟩ := unK_run h
      exact run_val h fun τ hs hle R' k' => by
        simp only [opK0, hop]
        rw [ev_same hs (x := x) (by rw [hop]; simp [Op.operands]), hx]
        exact ha R' _
    · simp at h
  · -- convert
    rename_i t t' x hop
    split at h
    · rename_i kj j ks kd hx ht ht'
      exact run_val h fun τ hs _ R' k' => by simp only [opK0, hop]; rw [ev_same hs (by rw [hop]; simp [Op.operands]), hx, ht, ht']
    · simp at h
  · -- indexAddr
    rename_i t x i hop
    split at h
    · rename_i a kd j u hx hi ht
      obtain ⟨v, h, ha⟩ := indexK_run h
      exact run_val h fun τ hs hle R' k' => by
        simp only [opK0, hop]
        rw [ev_same hs (x := x) (by rw [hop]; simp [Op.operands]), hx, ev_same hs (x := i) (by rw [hop]; simp [Op.operands]), hi, ht]
        exact ha τ hle R' _
    · simp at h
  · -- fieldAddr
    rename_i t x i hop
    split at h
    · rename_i a u hx ht
      obtain ⟨v, h, ha⟩ := fieldK_run h
      exact run_val h fun τ hs hle R' k' => by
        simp only [opK0, hop]
        rw [ev_same hs (x := x) (by rw [hop]; simp [Op.operands]), hx, ht]
        exact ha τ hle R' _
    · simp at h
  · -- index
    rename_i t x i hop
    split at h
    · rename_i nn t' l kd j m u hx hi ht
      obtain ⟨hc, h⟩ := cond_run h
      obtain ⟨d, hd, h⟩ := Option.bind_eq_some_iff.1 h
      exact run_val h fun τ hs hle R' k' => by
        simp only [opK0, hop]
        rw [ev_same hs (x := x) (by rw [hop]; simp [Op.operands]), hx, ev_same hs (x := i) (by rw [hop]; simp [Op.operands]), hi, ht]
        simp only [hc, cond_true, hd, Option.bind_some]
    · simp at h
  · -- field
    rename_i t x i hop
    split at h
    · rename_i a u hx ht
      obtain ⟨hc, h⟩ := cond_run h
      obtain ⟨v, h, ha⟩ := getA_run h
      obtain ⟨hc2, h⟩ := cond_run h
      exact run_val h fun τ hs hle R' k' => by
        simp only [opK0, hop]
        rw [ev_same hs (x := x) (by rw [hop]; simp [Op.operands]), hx, ht]
        simp only [hc, cond_true]
        rw [ha]
        simp only [hc2, cond_true]
    · simp at h
  · -- nilCheck
    rename_i x hop
    split at h
    · rename_i a hx
      obtain ⟨hc, h⟩ := cond_run h
      exact run_val h fun τ hs hle R' k' => by
        simp only [opK0, hop]
        rw [ev_same hs (x := x) (by rw [hop]; simp [Op.operands]), hx]
        simp only [holds_run hle hc, cond_true]
    · simp at h
  · -- load
    rename_i t x hop
    split at h
    · rename_i a u hx ht
      obtain ⟨v, h, ha⟩ := loadK_run h
      obtain ⟨hc, h⟩ := cond_run h
      exact run_val h fun τ hs hle R' k' => by
        simp only [opK0, hop]
        rw [ev_same hs (x := x) (by rw [hop]; simp [Op.operands]), hx, ht]
        simp only
        rw [ha τ hle]
        simp only [hc, cond_true]
    · simp at h
  · -- store
    rename_i t x y hop
    split at h
    · rename_i a b u hx hy ht hdst
      obtain ⟨hc, h⟩ := cond_run h
      obtain ⟨ob, h, hd, ha⟩ := storeK_run (n := n) h
      refine ⟨⟨none, ob⟩, h, by simp, hd, fun τ hs hle R' k' => ?_, fun hy => ?_⟩
      · simp only [opK0, hop]
        rw [ev_same hs (x := x) (by rw [hop]; simp [Op.operands]), hx, ev_same hs (x := y) (by rw [hop]; simp [Op.operands]), hy, ht, hdst]
        simp only [hc, cond_true]
        exact ha τ hle R' k'
      · simp [isY0, hop] at hy
    · simp at h
  · -- extract
    rename_i x i hop
    split at h
    · rename_i a hx
      split at h
      · rename_i v hv
        exact run_val h fun τ hs hle R' k' => by
          simp only [opK0, hop]
          rw [ev_same hs (x := x) (by rw [hop]; simp [Op.operands]), hx]
          simp only [hv]
      · simp at h
    · simp at h
  · -- alloc
    rename_i t hop
    split at h
    · rename_i z hz
      refine run_obj (v := .bptr n []) (ob := [(n, some (.cell z))]) (by simp [isY0, hop]) Dom.new (k := k) ?_ fun τ hs hle R' k' => ?_
      · cases hdst : o.dst with
        | none => rw [hdst] at h; exact h
        | some i => rw [hdst] at h; exact h
      · simp only [opK0, hop]
        rw [hz]
        cases o.dst <;> rfl
    · simp at h
  · -- box
    rename_i t x hop
    split at h
    · rename_i a hx
      obtain ⟨hc, h⟩ := cond_run h
      refine run_obj (v := .bptr n []) (ob := [(n, some (.cell a))]) (by simp [isY0, hop]) Dom.new (k := k) ?_ fun τ hs hle R' k' => ?_
      · cases hdst : o.dst with
        | none => rw [hdst] at h; exact h
        | some i => rw [hdst] at h; exact h
      · simp only [opK0, hop]
        rw [ev_same hs (x := x) (by rw [hop]; simp [Op.operands]), hx]
        simp only [hc, cond_true]
        cases o.dst <;> rfl
    · simp at h
  · -- makeFunc
    rename_i f first cap hop
    split at h
    · rename_i hf
      split at h
      · rename_i a ha
        obtain ⟨hc, h⟩ := cond_run h
        exact run_val h fun τ hs hle R' k' => by
          simp only [opK0, hop, hf]
          rw [evs_same hs (m := cap.toList) (fun x hx => by rw [hop]; simp only [Op.operands, Array.toList_append, List.mem_append]; exact .inr hx), ha]
          simp only [hc, cond_true]
      · simp at h
    · simp at h
  · -- makeSlice
    rename_i t len cap hop
    split at h
    · rename_i ow u htf
      split at h
      · rename_i z k1 l k2 m hz hl hm
        cases hu : u.isRo with
        | false =>
          rw [hu, cond_false] at h
          obtain ⟨hc, h⟩ := cond_run h
          obtain ⟨hb, h⟩ := chk_run h
          refine run_obj (v := .nv false n [] 0) (ob := [(n, some (.nest u (List.replicate l.toNat z) 0 0 none))]) (by simp [isY0, hop]) Dom.new (k := k) ?_ fun τ hs hle R' k' => ?_
          · cases hdst : o.dst with
            | none => rw [hdst] at h; exact h
            | some i => rw [hdst] at h; exact h
          · simp only [opK0, hop, htf]
            rw [hz, ev_same hs (x := len) (by rw [hop]; simp [Op.operands]), hl, ev_same hs (x := cap) (by rw [hop]; simp [Op.operands]), hm]
            simp only [hu, cond_false, hc, cond_true, hb, chk]
            cases o.dst <;> rfl
        | true =>
        rw [hu, cond_true] at h
        have hc := hu
        obtain ⟨hb, h⟩ := chk_run h
        refine run_obj (v := .ref n [] 0) (ob := [(n, some (.row u (List.replicate l.toNat z) 0))]) (by simp [isY0, hop]) Dom.new (k := k) ?_ fun τ hs hle R' k' => ?_
        · cases hdst : o.dst with
          | none => rw [hdst] at h; exact h
          | some i => rw [hdst] at h; exact h
        · simp only [opK0, hop, htf]
          rw [hz, ev_same hs (x := len) (by rw [hop]; simp [Op.operands]), hl, ev_same hs (x := cap) (by rw [hop]; simp [Op.operands]), hm]
          simp only [hc, cond_true, hb, chk]
          cases o.dst <;> rfl
      · simp at h
    · simp at h
  · -- build
    rename_i t ps hop
    split at h
    · rename_i x y ht
      split at h
      · rename_i a ha
        obtain ⟨hc, h⟩ := cond_run h
        exact run_val h fun τ hs hle R' k' => by
          simp only [opK0, hop, ht]
          rw [fillA_same hs (fun x hx => by rw [hop]; simp only [Op.operands]; exact List.mem_map.2 ⟨x, hx, rfl⟩), ha]
          simp only [hc, cond_true]
      · simp at h
    · rename_i n u ht
      split at h
      · rename_i a ha
        obtain ⟨hc, h⟩ := cond_run h
        obtain ⟨v, h, hv⟩ := chainD_run h
        exact run_val h fun τ hs hle R' k' => by
          simp only [opK0, hop, ht]
          rw [evs_same hs (m := ps.toList.map (·.2)) (fun x hx => by rw [hop]; simp only [Op.operands]; exact hx), ha]
          simp only [hc, cond_true]
          rw [hv]
      · simp at h
    · simp at h
  · -- buildSlice
    rename_i t len ps hop
    split at h
    · rename_i ow u htf
      obtain ⟨hc, h⟩ := cond_run h
      obtain ⟨ds, ob, h, hd, ha⟩ := parts_run (n := n) (lo := o.op.operands.toList) (fun x hx => by rw [hop]; simp only [Op.operands]; exact List.mem_map.2 ⟨x, hx, rfl⟩) h
      cases hfz : froz c o.dst with
      | true =>
        rw [hfz, cond_true] at h
        refine run_obj (v := .data (.sl false u) ds) (ob := ob) (by simp [isY0, hop]) hd (k := k) ?_ fun τ hs hle R' k' => ?_
        · cases hdst : o.dst with
          | none => rw [hdst] at h; exact h
          | some i => rw [hdst] at h; exact h
        · simp only [opK0, hop, htf]
          simp only [hc, cond_true]
          rw [ha τ hs hle]
          simp only [hfz, cond_true]
          try (cases o.dst <;> rfl)
      | false =>
      rw [hfz, cond_false] at h
      refine run_obj (v := .ref n [] 0) (ob := ob ++ [(n, some (.row u ds 0))]) (by simp [isY0, hop]) (hd.append Dom.new) (k := k) ?_ fun τ hs hle R' k' => ?_
      · rw [putO_append]
        cases hdst : o.dst with
        | none => rw [hdst] at h; exact h
        | some i => rw [hdst] at h; exact h
      · simp only [opK0, hop, htf]
        simp only [hc, cond_true]
        rw [ha τ hs hle, putO_append]
        simp only [hfz, cond_false]
        cases o.dst <;> rfl
    · simp at h
  · -- makeMap
    rename_i t hop
    simp [pureG, hop] at hp
  · -- lookup
    rename_i t x i ok hop
    split at h
    · rename_i a b hx hi
      obtain ⟨id, kt, vt, m, _, h, ha⟩ := mapK_run h
      obtain ⟨hc, h⟩ := cond_run h
      obtain ⟨key, h, hb⟩ := asData_run _ _ _ h
      split at h
      · rename_i z hz
        cases ok with
        | true =>
          simp only [cond_true] at h
          exact run_val h fun τ hs hle R' k' => by
            simp only [opK0, hop]
            rw [ev_same hs (x := x) (by rw [hop]; simp [Op.operands]), hx, ev_same hs (x := i) (by rw [hop]; simp [Op.operands]), hi]
            simp only
            rw [ha τ hle]
            simp only [hc, cond_true]
            rw [hb τ hle]
            simp only [hz]
        | false =>
          simp only [cond_false] at h
          exact run_val h fun τ hs hle R' k' => by
            simp only [opK0, hop]
            rw [ev_same hs (x := x) (by rw [hop]; simp [Op.operands]), hx, ev_same hs (x := i) (by rw [hop]; simp [Op.operands]), hi]
            simp only
            rw [ha τ hle]
            simp only [hc, cond_true]
            rw [hb τ hle]
            simp only [hz, cond_false]
      · simp at h
    · simp at h
  · -- mapUpdate
    rename_i t x i y hop
    simp [pureG, hop] at hp
  · -- slice
    rename_i t x lo hi hop
    split at h
    · rename_i a ow u lo' hi' hx ht hlo hhi
      obtain ⟨v, h, ha⟩ := sliceK_run h
      exact run_val h fun τ hs hle R' k' => by
        simp only [opK0, hop]
        rw [ev_same hs (x := x) (by rw [hop]; simp [Op.operands]), hx, ht, evI_same hs (x := lo) (fun y hy => by rw [hop, hy]; simp [Op.operands]), hlo, evI_same hs (x := hi) (fun y hy => by rw [hop, hy]; simp [Op.operands]), hhi]
        exact ha τ hle R' _
    · simp at h
  · -- slice, its room cut
    rename_i t x hi mx hop
    split at h
    · rename_i id ep k1 h1 k2 m ow u hx hhi hmx ht
      split at h
      · rename_i t' l e ho
        obtain ⟨hc, h⟩ := cond_run h
        obtain ⟨hb, h⟩ := chk_run h
        refine run_obj (v := .ref id [] (e + 1)) (ob := [(id, some (.row t' (sub l 0 h1) (e + 1)))]) (by simp [isY0, hop]) (Dom.old ho) (k := k) ?_ fun τ hs hle R' k' => ?_
        · cases hdst : o.dst with
          | none => rw [hdst] at h; exact h
          | some i => rw [hdst] at h; exact h
        · simp only [opK0, hop]
          rw [ev_same hs (x := x) (by rw [hop]; simp [Op.operands]), hx, ev_same hs (x := hi) (by rw [hop]; simp [Op.operands]), hhi, ev_same hs (x := mx) (by rw [hop]; simp [Op.operands]), hmx, ht]
          simp only
          rw [hle _ _ ho]
          simp only [hc, cond_true, hb, chk]
          cases o.dst <;> rfl
      · simp at h
    · simp at h
  · -- len
    rename_i args ts hop
    split at h
    · rename_i x t hargs hts
      have hx' : x ∈ o.op.operands.toList := by rw [hop]; simp [Op.operands, Call.operands, hargs]
      split at h
      · rename_i a ow u hx ht
        obtain ⟨v, h, ha⟩ := lenK_run h
        exact run_val h fun τ hs hle R' k' => by
          simp only [opK0, hop, hargs, hts]
          rw [ev_same hs hx', hx, ht]
          exact ha τ hle R' _
      · rename_i a hx ht
        obtain ⟨id, kt, vt, m, _, h, ha⟩ := mapK_run h
        obtain ⟨hb, h⟩ := chk_run h
        exact run_val h fun τ hs hle R' k' => by
          simp only [opK0, hop, hargs, hts]
          rw [ev_same hs hx', hx, ht]
          simp only
          rw [ha τ hle]
          simp only [hb, chk, cond_true]
      · simp at h
    · simp at h
  · -- max
    rename_i args ts hop
    split at h
    · rename_i kd x rest hx
      obtain ⟨v, h, ha⟩ := foldInts_run h
      exact run_val h fun τ hs hle R' k' => by
        simp only [opK0, hop]
        rw [evs_same hs (m := args.toList) (fun x hx => by rw [hop]; simp [Op.operands, Call.operands]; simpa using hx), hx]
        exact ha R' _
    · simp at h
  · -- min
    rename_i args ts hop
    split at h
    · rename_i kd x rest hx
      obtain ⟨v, h, ha⟩ := foldInts_run h
      exact run_val h fun τ hs hle R' k' => by
        simp only [opK0, hop]
        rw [evs_same hs (m := args.toList) (fun x hx => by rw [hop]; simp [Op.operands, Call.operands]; simpa using hx), hx]
        exact ha R' _
    · simp at h
  · -- append
    rename_i args ts hop
    split at h
    · rename_i x y t t' hargs hts
      split at h
      · rename_i a b ow u hx hy ht
        obtain ⟨hc, h⟩ := cond_run h
        obtain ⟨v, ob, h, hd, ha⟩ := appendK_run h
        refine run_obj (by simp [isY0, hop]) hd h fun τ hs hle R' k' => ?_
        simp only [opK0, hop, hargs, hts]
        rw [ev_same hs (x := x) (by rw [hop]; simp [Op.operands, Call.operands, hargs]), hx, ev_same hs (x := y) (by rw [hop]; simp [Op.operands, Call.operands, hargs]), hy, ht]
        simp only [hc, cond_true]
        exact ha τ hle R' _
      · simp at h
    · simp at h
  · -- clear
    rename_i args ts hop
    split at h
    · rename_i x t hargs hts
      split at h
      · rename_i id ep av bv ow u hx ht
        split at h
        · rename_i t' l e ho
          obtain ⟨hc, h⟩ := cond_run h
          split at h
          · rename_i z hz
            refine run_obj (v := .tup .un) (ob := [(id, some (.row t' (clearL z l av bv) e))]) (by simp [isY0, hop]) (Dom.old ho) (k := k) ?_ fun τ hs hle R' k' => ?_
            · cases hdst : o.dst with
              | none => rw [hdst] at h; exact h
              | some i => rw [hdst] at h; exact h
            · simp only [opK0, hop, hargs, hts]
              rw [ev_same hs (x := x) (by rw [hop]; simp [Op.operands, Call.operands, hargs]), hx, ht]
              simp only
              rw [hle _ _ ho]
              simp only [hc, cond_true, hz]
              cases o.dst <;> rfl
          · simp at h
        · simp at h
      · simp at h
    · simp at h
  · -- call
    rename_i g args ts hop
    split at h
    · rename_i gv av hg hav
      have hpc : ∀ fid all, calleeOf gv av = some (fid, all) → pureC (c.env fid) = true := by
        intro fid all hco
        simp only [pureG, hop] at hp
        rw [calleeOf_id hg hco] at hp
        exact hp
      obtain ⟨v, ob, h, hd, ha⟩ := callK_run hpc h
      refine run_obj (by simp [isY0, hop]) hd h fun τ hs hle R' k' => ?_
      simp only [opK0, hop]
      rw [ev_same hs (x := g) (by rw [hop]; simp [Op.operands, Call.operands]), hg, evs_same hs (m := args.toList) (fun x hx => by rw [hop]; simp [Op.operands, Call.operands]; right; simpa using hx), hav]
      exact ha τ hle R' _
    · simp at h
  · -- invoke
    rename_i x nm args ts hop
    simp [pureG, hop] at hp
  · -- makeInterface
    rename_i t x hop
    split at h
    · rename_i a hx
      obtain ⟨hc, h⟩ := cond_run h
      exact run_val h fun τ hs _ R' k' => by
        simp only [opK0, hop]
        rw [ev_same hs (x := x) (by rw [hop]; simp [Op.operands]), hx]
        simp only [hc, cond_true]
    · simp at h
  · -- typeAssert
    rename_i x xt t ok hop
    split at h
    · rename_i u a hx
      obtain ⟨hc, h⟩ := cond_run h
      cases ok with
      | true =>
        simp only [cond_true] at h
        exact run_val h fun τ hs _ R' k' => by
          simp only [opK0, hop]
          rw [ev_same hs (x := x) (by rw [hop]; simp [Op.operands]), hx]
          simp only [hc, cond_true]
      | false =>
        simp only [cond_false] at h
        exact run_val h fun τ hs _ R' k' => by
          simp only [opK0, hop]
          rw [ev_same hs (x := x) (by rw [hop]; simp [Op.operands]), hx]
          simp only [hc, cond_true, cond_false]
    · simp at h
  · simp at h

end Go.Kz

/-
  Regions whose order is drawn: operations that look at different objects may be taken in any order.
-/
namespace Go.Kz
variable {R : Type}

/-- One operation of a run, and what it leaves. -/
structure Ent where
  i : Nat
  o : Oper
  F : List Nat
  e : Eff

structure Good (base : Nat) (t : Ent) : Prop where
  guard : t.o.guard = none
  junk : isJunk t.o = false
  sl : ∀ d v, t.e.sl = some (d, v) → t.o.dst = some d
  ob : ∀ x ∈ t.e.ob, inF base t.i t.F x.1 = true
  y : isY0 t.o = true → t.e.ob = []

def Loc (c : Ctx) (base : Nat) (t : Ent) (σ : St) : Prop :=
  ∀ τ, SameAt t.o.op.operands.toList σ τ → (∀ id, inF base t.i t.F id = true → τ.objs id = σ.objs id) → ∀ (R' : Type) (k' : St → Option R'), opK0 c τ (base + 8 * t.i) t.o k' = k' (t.e.app τ)

def Tr (c : Ctx) (base : Nat) : List Ent → St → St → Prop
  | [], σ, σE => σ = σE
  | t :: T, σ, σE => Loc c base t σ ∧ Tr c base T (t.e.app σ) σE

abbrev Ind (base : Nat) (dst : Nat → Option Nat) (s t : Ent) : Prop := indep base dst s.i s.o s.F t.i t.o t.F = true

theorem Loc.cong {c : Ctx} {base : Nat} {t : Ent} {σ σ' : St} (h : Loc c base t σ) (hs : SameAt t.o.op.operands.toList σ σ') (ho : ∀ id, inF base t.i t.F id = true → σ'.objs id = σ.objs id) : Loc c base t σ' :=
  fun τ h1 h2 => h τ (fun x hx => (h1 x hx).trans (hs x hx)) (fun id hid => (h2 id hid).trans (ho id hid))

theorem Eff.slot_objs (e : Eff) (σ : St) : (e.slot σ).objs = σ.objs := by unfold Eff.slot; split <;> rfl
theorem Eff.slot_next (e : Eff) (σ : St) : (e.slot σ).next = σ.next := by unfold Eff.slot; split <;> rfl
theorem Eff.app_off {e : Eff} {σ : St} {i : Nat} (h : i ∉ e.ob.map Prod.fst) : (e.app σ).objs i = σ.objs i := by
  unfold Eff.app
  rw [putO_off _ _ h, Eff.slot_objs]
theorem Eff.app_slots (e : Eff) (σ : St) : (e.app σ).slots = (e.slot σ).slots := putO_slots _ _
theorem Eff.app_next (e : Eff) (σ : St) : (e.app σ).next = σ.next := by
  unfold Eff.app
  rw [putO_next, Eff.slot_next]

theorem run_loc {c : Ctx} {base : Nat} {i : Nat} {o : Oper} {F : List Nat} {e : Eff} {σ : St} (h : Run c (σ.only (inF base i F)) (base + 8 * i) o e) : Loc c base ⟨i, o, F, e⟩ σ := by
  intro τ hs ho R' k'
  refine h.eq τ hs (fun id x hx => ?_) R' k'
  simp only [St.only] at hx
  cases hp : inF base i F id with
  | false => rw [hp] at hx; simp at hx
  | true => rw [hp] at hx; rw [ho id hp]; exact hx
theorem inF_range {base i : Nat} {F : List Nat} {x : Nat} (h : base + 8 * i ≤ x ∧ x < base + 8 * i + 8) : inF base i F x = true := by
  have h1 : Nat.ble (base + 8 * i) x = true := Nat.ble_eq_true_of_le h.1
  have h2 : Nat.blt x (base + 8 * i + 8) = true := Nat.ble_eq_true_of_le h.2
  simp only [inF, h1, h2, Bool.and_self, Bool.or_true]
theorem inF_iff {base i : Nat} {F : List Nat} {x : Nat} : inF base i F x = true ↔ x ∈ F ∨ (base + 8 * i ≤ x ∧ x < base + 8 * i + 8) := by
  simp only [inF, Bool.or_eq_true, Bool.and_eq_true, memN_iff]
  refine or_congr Iff.rfl (and_congr ⟨fun h => Nat.le_of_ble_eq_true h, fun h => Nat.ble_eq_true_of_le h⟩ ⟨fun h => Nat.le_of_ble_eq_true h, fun h => Nat.ble_eq_true_of_le h⟩)
theorem run_ob {c : Ctx} {base : Nat} {i : Nat} {o : Oper} {F : List Nat} {e : Eff} {σ : St} (h : Run c (σ.only (inF base i F)) (base + 8 * i) o e) : ∀ x ∈ e.ob, inF base i F x.1 = true := by
  intro x hx
  rcases h.ob x hx with ⟨y, hy⟩ | h2
  · simp only [St.only] at hy
    cases hp : inF base i F x.1 with
    | false => rw [hp] at hy; simp at hy
    | true => rfl
  · exact inF_range h2
theorem over_eq {p : Nat → Bool} {e : Eff} {σ : St} (h : ∀ x ∈ e.ob, p x.1 = true) : σ.over (e.app (σ.only p)) p = e.app σ := by
  refine St.ext' ?_ ?_ ?_
  · simp only [St.over, Eff.app_slots]
    unfold Eff.slot
    split <;> rfl
  · funext i
    simp only [St.over]
    cases hp : p i with
    | true =>
      simp only [cond_true]
      by_cases hm : i ∈ e.ob.map Prod.fst
      · exact putO_on _ _ _ hm
      · rw [Eff.app_off hm, Eff.app_off hm]
        simp only [St.only, hp, cond_true]
    | false =>
      simp only [cond_false]
      rw [Eff.app_off]
      intro hm
      obtain ⟨x, hx, he⟩ := List.mem_map.1 hm
      have := h x hx
      rw [he, hp] at this
      simp at this
  · exact (Eff.app_next e σ).symm

theorem pureG_only {c : Ctx} {σ : St} {p : Nat → Bool} {o : Oper} (h : pureG c σ o = true) : pureG c (σ.only p) o = true := by
  have he : ∀ x, ev (σ.only p) x = ev σ x := fun x => ev_same (l := [x]) (fun _ _ => rfl) (by simp)
  have hc : ∀ x, calleeId (σ.only p) x = calleeId σ x := fun x => by unfold calleeId; rw [he]
  unfold pureG at h ⊢
  simp only [hc]
  exact h

theorem okAcc_ok {base : Nat} {dst : Nat → Option Nat} {j : Nat} {p : Oper} {G : List Nat} : {acc : GAcc} → okAcc base dst j p G acc = true → ∀ a ∈ acc, j ∈ a.2.2 ∨ indep base dst a.1.1 a.1.2 a.2.1 j p G = true
  | [], _, a, ha => by simp at ha
  | ((i, o), F, lat) :: l, h, a, ha => by
    simp only [okAcc, Bool.and_eq_true, Bool.or_eq_true, memN_iff] at h
    rcases List.mem_cons.1 ha with rfl | ha
    · exact h.1
    · exact okAcc_ok h.2 a ha

theorem genK_tr {c : Ctx} {base : Nat} {dst : Nat → Option Nat} {all : List (Nat × Oper)} : (B : List (Nat × Oper)) → {acc : GAcc} → {σ : St} → {k : St → Option R} → {r : R} → plainG B = true → genK c base dst all B acc σ k = some r →
    ∃ T σE, T.map (fun t : Ent => (t.i, t.o)) = B ∧ Tr c base T σ σE ∧ k σE = some r ∧ (∀ t ∈ T, Good base t) ∧ (∀ t ∈ T, ∀ a ∈ acc, t.i ∈ a.2.2 ∨ indep base dst a.1.1 a.1.2 a.2.1 t.i t.o t.F = true) ∧
      T.Pairwise fun s t => t.i ∈ laterL s.i all [] ∨ Ind base dst s t
  | [], acc, σ, k, r, _, h => ⟨[], σ, rfl, rfl, h, by simp, by simp, List.Pairwise.nil⟩
  | (i, o) :: B, acc, σ, k, r, hp, h => by
    simp only [plainG, Bool.and_eq_true, Bool.not_eq_true'] at hp
    simp only [genK] at h
    obtain ⟨hc, h⟩ := cond_run h
    simp only [Bool.and_eq_true] at hc
    obtain ⟨e, h, hrun⟩ := opK0_run (pureG_only hc.1) h
    have hob := run_ob hrun
    rw [over_eq hob] at h
    obtain ⟨T, σE, h1, h2, h3, h4, h5, h6⟩ := genK_tr B hp.2 h
    refine ⟨⟨i, o, footG σ o, e⟩ :: T, σE, by simp [h1], ⟨run_loc hrun, h2⟩, h3, ?_, ?_, ?_⟩
    · intro t ht
      rcases List.mem_cons.1 ht with rfl | ht
      · refine ⟨?_, hp.1.2, hrun.sl, hob, hrun.y⟩
        have := hp.1.1
        cases hg : o.guard with
        | none => rfl
        | some g => rw [hg] at this; simp at this
      · exact h4 t ht
    · intro t ht a ha
      rcases List.mem_cons.1 ht with rfl | ht
      · exact okAcc_ok hc.2 a ha
      · exact h5 t ht a (by simp [ha])
    · refine List.pairwise_cons.2 ⟨fun t ht => ?_, h6⟩
      exact h5 t ht _ (List.mem_cons_self ..)

theorem outR_ok {base i : Nat} : {l : List Nat} → outR base i l = true → ∀ x ∈ l, ¬ (base + 8 * i ≤ x ∧ x < base + 8 * i + 8)
  | [], _, x, hx => by simp at hx
  | y :: l, h, x, hx => by
    simp only [outR, Bool.and_eq_true, Bool.not_eq_true'] at h
    rcases List.mem_cons.1 hx with rfl | hx
    · intro hr
      have h1 : Nat.ble (base + 8 * i) x = true := Nat.ble_eq_true_of_le hr.1
      have h2 : Nat.blt x (base + 8 * i + 8) = true := Nat.ble_eq_true_of_le hr.2
      rw [h1, h2] at h
      simp at h
    · exact outR_ok h.2 x hx

structure Apart (base : Nat) (dst : Nat → Option Nat) (s t : Ent) : Prop where
  ne : s.i ≠ t.i
  ap : apartL dst s.o t.o = true
  st : ∀ x ∈ s.e.ob, inF base t.i t.F x.1 = false
  ts : ∀ x ∈ t.e.ob, inF base s.i s.F x.1 = false
theorem ind_apart {base : Nat} {dst : Nat → Option Nat} {s t : Ent} (hs : Good base s) (ht : Good base t) (h : Ind base dst s t) : Apart base dst s t := by
  unfold Ind indep at h
  simp only [Bool.and_eq_true, Bool.or_eq_true, Bool.not_eq_true'] at h
  obtain ⟨⟨⟨⟨h1, h2⟩, h3⟩, h4⟩, h5⟩ := h
  have hne : s.i ≠ t.i := by
    intro he
    rw [he, Nat.beq_refl] at h1; simp at h1
  have h4' := outR_ok h4
  have h5' := outR_ok h5
  have fl : ∀ {b : Bool}, (b = true → False) → b = false := fun {b} h => by cases b; rfl; exact (h rfl).elim
  refine ⟨hne, h2, fun x hx => fl fun hin => ?_, fun x hx => fl fun hin => ?_⟩
  · rcases h3 with ⟨hy, _⟩ | hno
    · rw [hs.y hy] at hx; simp at hx
    · rw [noneIn_iff] at hno
      rcases inF_iff.1 (hs.ob x hx) with h | h <;> rcases inF_iff.1 hin with h' | h'
      · exact hno _ h h'
      · exact h5' _ h h'
      · exact h4' _ h' h
      · omega
  · rcases h3 with ⟨_, hy⟩ | hno
    · rw [ht.y hy] at hx; simp at hx
    · rw [noneIn_iff] at hno
      rcases inF_iff.1 (ht.ob x hx) with h | h <;> rcases inF_iff.1 hin with h' | h'
      · exact hno _ h' h
      · exact h4' _ h h'
      · exact h5' _ h' h
      · omega

theorem apartL_look {dst : Nat → Option Nat} {x y : Oper} (h : apartL dst x y = true) :
    (∀ d, x.dst = some d → (.tmp d) ∉ y.op.operands.toList) ∧ (∀ d, y.dst = some d → (.tmp d) ∉ x.op.operands.toList) ∧ ∀ d, x.dst = some d → y.dst ≠ some d := by
  unfold apartL at h
  simp only [Bool.and_eq_true] at h
  obtain ⟨h1, h2⟩ := h
  refine ⟨fun d hd hm => ?_, fun d hd hm => ?_, fun d hd he => ?_⟩
  · rw [hd] at h1
    simp only [Bool.and_eq_true, Bool.not_eq_true', looksL, Bool.or_eq_false_iff] at h1
    rw [memN_false] at h1
    exact h1.1.1 (tmpsL_mem.2 hm)
  · rw [hd] at h2
    simp only [Bool.not_eq_true', looksL, Bool.or_eq_false_iff] at h2
    rw [memN_false] at h2
    exact h2.1 (tmpsL_mem.2 hm)
  · rw [hd, he] at h1
    simp [Nat.beq_refl] at h1

theorem same_app {base : Nat} {s : Ent} {l : List Operand} (hs : Good base s) (h : ∀ d, s.o.dst = some d → (.tmp d) ∉ l) (σ : St) : SameAt l σ (s.e.app σ) := by
  intro x hx
  rw [Eff.app_slots]
  unfold Eff.slot
  split
  · rename_i d v hsl
    simp only [St.set, upd]
    have hb : Nat.beq x d = false := by
      cases hb : Nat.beq x d with
      | false => rfl
      | true =>
        have he := Nat.eq_of_beq_eq_true hb
        subst he
        exact absurd hx (h x (hs.sl x v hsl))
    rw [hb]; rfl
  · rfl
theorem objs_app {base i : Nat} {F : List Nat} {s : Ent} (h : ∀ x ∈ s.e.ob, inF base i F x.1 = false) (σ : St) : ∀ id, inF base i F id = true → (s.e.app σ).objs id = σ.objs id := by
  intro id hid
  refine Eff.app_off fun hm => ?_
  obtain ⟨x, hx, he⟩ := List.mem_map.1 hm
  have := h x hx
  rw [he, hid] at this; simp at this

theorem app_comm {base : Nat} {dst : Nat → Option Nat} {s t : Ent} (hs : Good base s) (ht : Good base t) (h : Apart base dst s t) (σ : St) : t.e.app (s.e.app σ) = s.e.app (t.e.app σ) := by
  have hno : ∀ i, i ∈ s.e.ob.map Prod.fst → i ∉ t.e.ob.map Prod.fst := by
    intro i h1 h2
    obtain ⟨x, hx, rfl⟩ := List.mem_map.1 h1
    obtain ⟨y, hy, he⟩ := List.mem_map.1 h2
    have q1 := h.st x hx
    have q2 := ht.ob y hy
    rw [he, q1] at q2; simp at q2
  refine St.ext' ?_ ?_ ?_
  · rw [Eff.app_slots, Eff.app_slots]
    funext i
    have e1 : ∀ (e : Eff) (a b : St), a.slots = b.slots → (e.slot a).slots = (e.slot b).slots := by
      intro e a b hab
      unfold Eff.slot
      split
      · simp only [St.set, hab]
      · exact hab
    rw [e1 t.e _ _ (Eff.app_slots s.e σ), e1 s.e _ _ (Eff.app_slots t.e σ)]
    unfold Eff.slot
    cases hsl : s.e.sl with
    | none => rfl
    | some x =>
      obtain ⟨d, v⟩ := x
      cases htl : t.e.sl with
      | none => rfl
      | some y =>
        obtain ⟨d', v'⟩ := y
        have hd := hs.sl d v hsl
        have hd' := ht.sl d' v' htl
        have hne : d ≠ d' := fun he => (apartL_look h.ap).2.2 d hd (by rw [he]; exact hd')
        simp only [St.set, upd]
        cases hb : Nat.beq i d' with
        | false => rfl
        | true =>
          have he := Nat.eq_of_beq_eq_true hb
          subst he
          have : Nat.beq i d = false := by
            cases hb2 : Nat.beq i d with
            | false => rfl
            | true => exact absurd (Nat.eq_of_beq_eq_true hb2).symm hne
          rw [this]; rfl
  · funext i
    by_cases h1 : i ∈ s.e.ob.map Prod.fst
    · rw [Eff.app_off (hno i h1)]
      exact putO_on _ _ _ h1
    · rw [Eff.app_off h1]
      by_cases h2 : i ∈ t.e.ob.map Prod.fst
      · exact putO_on _ _ _ h2
      · rw [Eff.app_off h2, Eff.app_off h2, Eff.app_off h1]
  · simp only [Eff.app_next]

/-- Any of them may be taken first. -/
theorem tr_front {c : Ctx} {base : Nat} {dst : Nat → Option Nat} {t : Ent} {post : List Ent} {σE : St} (ht : Good base t) : (pre : List Ent) → {σ : St} → (∀ s ∈ pre, Good base s ∧ Ind base dst s t) → Tr c base (pre ++ t :: post) σ σE →
    Loc c base t σ ∧ Tr c base (pre ++ post) (t.e.app σ) σE
  | [], σ, _, h => h
  | s :: pre, σ, hp, h => by
    obtain ⟨hg, hi⟩ := hp s (by simp)
    have ha := ind_apart hg ht hi
    obtain ⟨h1, h2⟩ := h
    obtain ⟨h3, h4⟩ := tr_front ht pre (fun x hx => hp x (by simp [hx])) h2
    have hl := apartL_look ha.ap
    have hsame : SameAt t.o.op.operands.toList σ (s.e.app σ) := same_app hg hl.1 σ
    refine ⟨h3.cong (fun x hx => (hsame x hx).symm) (fun id hid => (objs_app ha.st σ id hid).symm), ?_⟩
    refine ⟨h1.cong (same_app ht hl.2.1 σ) (objs_app ha.ts σ), ?_⟩
    rw [← app_comm hg ht ha]
    exact h4

/-- Each waits for those that are done or stand ahead of it. -/
def Lin : List Nat → List (Nat × Oper) → Prop
  | _, [] => True
  | d, (i, o) :: l => (∀ x ∈ edgeOns o.after.toList, x ∈ d) ∧ Lin (i :: d) l
theorem Lin.mono : {l : List (Nat × Oper)} → {d d' : List Nat} → (∀ x ∈ d, x ∈ d') → Lin d l → Lin d' l
  | [], _, _, _, _ => trivial
  | (i, o) :: l, d, d', hd, h => ⟨fun x hx => hd x (h.1 x hx), Lin.mono (fun x hx => by
      rcases List.mem_cons.1 hx with rfl | hx
      · simp
      · simp [hd x hx]) h.2⟩
theorem Lin.take {j : Nat} {p : Oper} {post : List (Nat × Oper)} : (pre : List (Nat × Oper)) → {d : List Nat} → Lin d (pre ++ (j, p) :: post) → Lin (j :: d) (pre ++ post)
  | [], d, h => h.2
  | (i, o) :: pre, d, h => ⟨fun x hx => List.mem_cons_of_mem _ (h.1 x hx), by
      refine (Lin.take pre h.2).mono fun x hx => ?_
      simp only [List.mem_cons] at hx ⊢
      rcases hx with h | h | h
      · exact .inr (.inl h)
      · exact .inl h
      · exact .inr (.inr h)⟩

section
variable {P : Program} {ops : Array Oper} {Q : Exit → Act → World → Prop}

theorem later_wait {b : Nat} : Waits .any ops b (laterL b (numbered 0 ops.toList) []) ∧ ∀ x ∈ laterL b (numbered 0 ops.toList) [], x < ops.size := by
  have := laterL_mem (i := b) (l := numbered 0 ops.toList) (acc := []) (G := fun x => x < ops.size ∧ ∀ ox, ops[x]? = some ox → ∃ e ∈ ox.after, Region.binds .any e = true ∧ (e.on = b ∨ e.on ∈ laterL b (numbered 0 ops.toList) [])) (by simp) (fun j oj hm hy => by
    have hoj := numbered_get _ hm
    refine ⟨size_of hoj, fun ox hox => ?_⟩
    simp only at hoj
    rw [hoj] at hox
    simp only [Option.some.injEq] at hox
    subst hox
    obtain ⟨y, hy1, hy2⟩ := hy
    obtain ⟨e, he, hbe, rfl⟩ := edgeOns_mem.1 hy1
    exact ⟨e, by simpa using he, hbe, hy2⟩)
  exact ⟨fun x hx => (this x hx).2, fun x hx => (this x hx).1⟩

theorem gen_ok {c : Ctx} {base : Nat} {g0 : Ghost} {w0 : World} {σ0 σE : St} {B0 : List Nat} (hc : CtxOK P c)
    (HK : ∀ g a w, StOK c.ntmps g w a σE → Ext w0 g0 w g → (∀ m, (∀ i ∈ B0, m < base + 8 * i ∨ base + 8 * i + 8 ≤ m) → Fresh g0 σ0 m → Fresh g σE m) → Q .normal a w) :
    (n : Nat) → {T : List Ent} → T.length = n → {σ : St} → {g : Ghost} → {a : Act} → {w : World} → {listed : Array Bool} → {done : List Nat} →
    Tr c base T σ σE → (∀ t ∈ T, Good base t ∧ ops[t.i]? = some t.o ∧ t.i ∈ B0) → (T.Pairwise fun s t => t.i ∈ laterL s.i (numbered 0 ops.toList) [] ∨ Ind base (dstOf ops.toList) s t) → (T.map Ent.i).Nodup →
    Lin done (T.map fun t => (t.i, t.o)) → StOK c.ntmps g w a σ → (∀ t ∈ T, ∀ m, base + 8 * t.i ≤ m → m < base + 8 * t.i + 8 → Fresh g σ m) → Rel ops listed done → (∀ x ∈ done, x < ops.size) → (∀ x, x < ops.size → (x ∈ done ↔ x ∉ T.map Ent.i)) →
    (∀ t ∈ T, ∀ x ∈ laterL t.i (numbered 0 ops.toList) [], x ∉ done) → Ext w0 g0 w g → (∀ m, (∀ i ∈ B0, m < base + 8 * i ∨ base + 8 * i + 8 ≤ m) → Fresh g0 σ0 m → Fresh g σ m) → anyG P .any ops Q n listed a w
  | 0, T, hl, σ, g, a, w, listed, done, htr, _, _, _, _, hst, _, hrel, hds, hdn, _, hext, hfo => by
    have hT : T = [] := List.eq_nil_of_length_eq_zero hl
    subst hT
    have htr' : σ = σE := htr
    subst htr'
    refine ⟨?_, HK g a w hst hext hfo⟩
    rw [List.eq_nil_iff_forall_not_mem]
    intro j hj
    obtain ⟨_, oj, hoj, _⟩ := mem_ready.1 hj
    have h1 := (readyL_iff hrel hds hoj).1 hj
    exact h1.1 ((hdn j (size_of hoj)).2 (by simp))
  | n + 1, T, hl, σ, g, a, w, listed, done, htr, hT, hpw, hnd, hlin, hst, hfr, hrel, hds, hdn, hinv, hext, hfo => by
    refine ⟨fun h0 => ?_, fun j hj => ?_⟩
    · exfalso
      cases T with
      | nil => simp at hl
      | cons t T =>
        obtain ⟨_, hto, _⟩ := hT t (by simp)
        have : t.i ∈ Region.ready .any ops listed := by
          refine (readyL_iff hrel hds hto).2 ⟨fun hd => ?_, ?_⟩
          · exact (hdn _ (size_of hto)).1 hd (by simp)
          · unfold readyL
            rw [allIn_iff]
            exact hlin.1
        rw [h0] at this; simp at this
    · obtain ⟨hjun, oj, hoj, _⟩ := mem_ready.1 hj
      have hrd := (readyL_iff hrel hds hoj).1 hj
      have hjT : j ∈ T.map Ent.i := by
        refine Classical.byContradiction fun hn => ?_
        exact hrd.1 ((hdn j (size_of hoj)).2 hn)
      obtain ⟨t, htT, hti⟩ := List.mem_map.1 hjT
      obtain ⟨pre, post, rfl⟩ := List.append_of_mem htT
      obtain ⟨hg, hto, htB⟩ := hT t htT
      have hmem : ∀ x ∈ pre ++ post, x ∈ pre ++ t :: post := by
        intro x hx
        rcases List.mem_append.1 hx with h | h
        · exact List.mem_append.2 (.inl h)
        · exact List.mem_append.2 (.inr (List.mem_cons_of_mem _ h))
      have hpre : ∀ s ∈ pre, Good base s ∧ Ind base (dstOf ops.toList) s t := by
        intro s hs
        have hsT : s ∈ pre ++ t :: post := List.mem_append.2 (.inl hs)
        obtain ⟨hgs, hso, _⟩ := hT s hsT
        refine ⟨hgs, ?_⟩
        rcases (List.pairwise_append.1 hpw).2.2 s hs t (by simp) with h | h
        · exfalso
          have hw := later_wait (ops := ops) (b := s.i)
          refine waits_not hw.1 (fun x hx => ?_) ?_ hj (hti ▸ h)
          · rw [hrel.getD (hw.2 x hx)]
            exact memN_false.2 (hinv s hsT x hx)
          · rw [hrel.getD (size_of hso)]
            refine memN_false.2 fun hd => ?_
            exact (hdn _ (size_of hso)).1 hd (List.mem_map.2 ⟨s, hsT, rfl⟩)
        · exact h
      obtain ⟨hloc, htr'⟩ := tr_front hg pre hpre htr
      have hojt : oj = t.o := by
        rw [← hti, hto] at hoj
        simpa using hoj.symm
      subst hojt
      subst hti
      have hne : ∀ x ∈ pre ++ post, x.i ≠ t.i := by
        intro x hx he
        have h1 : ((pre ++ t :: post).map Ent.i).Nodup := hnd
        rw [List.map_append, List.map_cons, List.nodup_append] at h1
        rcases List.mem_append.1 hx with hx | hx
        · exact h1.2.2 x.i (List.mem_map.2 ⟨x, hx, rfl⟩) t.i (by simp) he
        · exact (List.nodup_cons.1 h1.2.1).1 (List.mem_map.2 ⟨x, hx, he⟩)
      have hk : opK c σ (base + 8 * t.i) t.o some = some (t.e.app σ) := by
        simp only [opK, hg.junk, cond_false]
        exact hloc σ (fun _ _ => rfl) (fun _ _ => rfl) St some
      have hop : t.o.wp P a w (fun a' w' => (isM t.o = false → Agree w w') ∧ anyG P .any ops Q n (listed.setIfInBounds t.i true) a' w') Q := by
        refine op_ok (base := base + 8 * t.i) hc hst (fun m h1 h2 => hfr t htT m h1 h2) hk ?_
        intro σ1 g1 a1 w1 h1 hst1 hext1 hf1 hn1 hag
        refine ⟨hag, ?_⟩
        simp only [Option.some.injEq] at h1
        subst h1
        refine gen_ok hc HK n (T := pre ++ post) ?_ htr' (fun x hx => hT x (hmem x hx)) ?_ ?_ ?_ hst1 (fun x hx m q1 q2 => hf1 m ?_ (hfr x (hmem x hx) m q1 q2)) hrel.add (fun x hx => ?_) (fun x hx => ?_) (fun x hx y hy => ?_) (hext.trans hext1) (fun m hm hf => hf1 m (hm _ htB) (hfo m hm hf))
        · simp only [List.length_append, List.length_cons] at hl ⊢; omega
        · exact hpw.sublist (List.Sublist.append_left (List.sublist_cons_self _ _) pre)
        · exact hnd.sublist ((List.Sublist.append_left (List.sublist_cons_self _ _) pre).map _)
        · rw [List.map_append] at hlin ⊢
          exact Lin.take _ hlin
        · have := hne x hx; omega
        · rcases List.mem_cons.1 hx with rfl | hx
          · exact size_of hto
          · exact hds x hx
        · have h1 := hdn x hx
          simp only [List.mem_cons, h1, List.map_append, List.map_cons, List.mem_append, not_or]
          constructor
          · rintro (rfl | ⟨q1, q2, q3⟩)
            · refine ⟨fun hm => ?_, fun hm => ?_⟩
              · obtain ⟨y, hy, he⟩ := List.mem_map.1 hm
                exact hne y (List.mem_append.2 (.inl hy)) he
              · obtain ⟨y, hy, he⟩ := List.mem_map.1 hm
                exact hne y (List.mem_append.2 (.inr hy)) he
            · exact ⟨q1, q3⟩
          · rintro ⟨q1, q2⟩
            by_cases he : x = t.i
            · exact .inl he
            · exact .inr ⟨q1, he, q2⟩
        · intro hyd
          have hxT := hmem x hx
          obtain ⟨_, hxo, _⟩ := hT x hxT
          rcases List.mem_cons.1 hyd with rfl | hyd
          · have hw := later_wait (ops := ops) (b := x.i)
            refine waits_not hw.1 (fun z hz => ?_) ?_ hj hy
            · rw [hrel.getD (hw.2 z hz)]
              exact memN_false.2 (hinv x hxT z hz)
            · rw [hrel.getD (size_of hxo)]
              refine memN_false.2 fun hd => ?_
              exact (hdn _ (size_of hxo)).1 hd (List.mem_map.2 ⟨x, hxT, rfl⟩)
          · exact hinv x hxT y hy hyd
      unfold Go.wpOp
      simp only [hto]
      have hw : Region.wanted t.o (yielded ops a.tmps) = true := wanted_none hg.guard
      rw [if_pos hw]
      left
      refine Oper.wp_mono (fun a' w' hh => ⟨fun o' ho' hm => hh.1 (by simp only [Option.some.injEq] at ho'; rw [ho']; exact hm), hh.2⟩) hop
theorem linG_ok {all : List (Nat × Oper)} {done : List Nat} : {l : List (Nat × Oper)} → {d : List Nat} → linG all done d l = true → Lin d l ∧ ∀ x ∈ l, ∀ y ∈ laterL x.1 all [], y ∉ done
  | [], d, _ => ⟨trivial, by simp⟩
  | (i, o) :: l, d, h => by
    simp only [linG, Bool.and_eq_true] at h
    obtain ⟨h1, h2⟩ := linG_ok h.2
    refine ⟨⟨allIn_iff.1 h.1.1, h1⟩, fun x hx => ?_⟩
    rcases List.mem_cons.1 hx with rfl | hx
    · exact noneIn_iff.1 h.1.2
    · exact h2 x hx
theorem restL_mem {done : List Nat} {x : Nat × Oper} : {l : List (Nat × Oper)} → (x ∈ restL done l ↔ x ∈ l ∧ x.1 ∉ done)
  | [] => by simp [restL]
  | (i, o) :: l => by
    simp only [restL]
    cases hm : memN i done with
    | true =>
      rw [cond_true, restL_mem (l := l)]
      have := memN_iff.1 hm
      constructor
      · exact fun h => ⟨List.mem_cons_of_mem _ h.1, h.2⟩
      · rintro ⟨h1, h2⟩
        rcases List.mem_cons.1 h1 with rfl | h1
        · exact absurd this h2
        · exact ⟨h1, h2⟩
    | false =>
      rw [cond_false, List.mem_cons, restL_mem (l := l)]
      have := memN_false.1 hm
      constructor
      · rintro (rfl | h)
        · exact ⟨by simp, this⟩
        · exact ⟨List.mem_cons_of_mem _ h.1, h.2⟩
      · rintro ⟨h1, h2⟩
        rcases List.mem_cons.1 h1 with rfl | h1
        · exact .inl rfl
        · exact .inr ⟨h1, h2⟩
theorem restL_sub {done : List Nat} : (l : List (Nat × Oper)) → (restL done l).Sublist l
  | [] => List.Sublist.slnil
  | (i, o) :: l => by
    simp only [restL]
    cases memN i done with
    | true => exact (restL_sub l).cons _
    | false => exact (restL_sub l).cons_cons _
theorem lenN_eq : (l : List (Nat × Oper)) → lenN l = l.length
  | [] => rfl
  | _ :: l => by simp only [lenN, lenN_eq l, List.length_cons]
end

section
variable {P : Program} {c : Ctx}
theorem region_ok (hc : CtxOK P c) (hm : P.follows .mixedOrders = true) {id : Nat} {ops : Array Oper} {draw : Bool} {Q : Exit → Act → World → Prop} {σ : St} {g : Ghost} {a : Act} {w : World} {k : St → Option R} {r : R}
    (hQ : ∀ c a w, ¬ Q (.panic c) a w) (h : regionK c ops draw σ k = some r) (hst : StOK c.ntmps g w a σ) (hf : FreshUp g σ)
    (hK : ∀ σ' g' a' w', k σ' = some r → StOK c.ntmps g' w' a' σ' → Ext w g w' g' → FreshUp g' σ' → (∀ s, (∀ o ∈ ops.toList, o.dst ≠ some s) → a'.tmps[s]? = a.tmps[s]?) → Q .normal a' w') : (Code.region id ops draw).wp P Q a w := by
  have hQ1 : ∀ c a' w, ¬ keptQ ops a Q (.panic c) a' w := fun c a' w h => hQ c a' w (h (by simp))
  unfold regionK at h
  cases draw with
  | false =>
    simp only [cond_false] at h
    have hL := list_ok (K := fun a' w' => (∀ s, (∀ o ∈ ops.toList, o.dst ≠ some s) → a'.tmps[s]? = a.tmps[s]?) → Q .normal a' w') (Q := Q) hc (fun x hx => numbered_lt hx) (numbered_nodup _ _) h hst hf hK
    refine wp_text (wpL_mono (fun a' w' hh => hh.2 fun s hs => hh.1 s fun x hx => hs x.2 ?_) _ _ _ (wpL_slots _ _ _ hL))
    have := numbered_get x hx
    obtain ⟨hlt, he⟩ := Array.getElem?_eq_some_iff.1 this
    rw [← he]; simp
  | true =>
    simp only [cond_true] at h
    cases hok : drawOK ops.toList with
    | false =>
      rw [hok] at h
      simp only [cond_false] at h
      obtain ⟨hge, h⟩ := cond_run h
      simp only [genOK, Bool.and_eq_true] at hge
      obtain ⟨⟨⟨⟨hpl, hrun⟩, hpg⟩, hlg⟩, hlen⟩ := hge
      have hlen := Nat.eq_of_beq_eq_true hlen
      rw [lenN_eq, lenN_eq] at hlen
      unfold genRunK at h
      have hp := plain_of hpl
      have he : ({ w with drawn := w.drawn + 1 } : World).heap = w.heap := rfl
      have hmem : ∀ x ∈ drawL ops.toList, x ∈ numbered 0 ops.toList := fun x hx => orderL_mem x hx
      have hLN := okRun_new hrun
      obtain ⟨hlin, hlat⟩ := linG_ok hlg
      have hdone : ∀ x, x ∈ addDone (drawL ops.toList) [] ↔ x ∈ (drawL ops.toList).map Prod.fst := fun x => by rw [addDone_mem]; simp
      have hdsz : ∀ x ∈ addDone (drawL ops.toList) [], x < ops.size := by
        intro x hx
        obtain ⟨y, hy, rfl⟩ := List.mem_map.1 ((hdone x).1 hx)
        exact size_of (numbered_get _ (hmem y hy))
      refine wp_region_any hm (wpAny_kept (a0 := a) _ _ _ _ (fun _ _ => rfl) (wpAny_of_G _ _ _ _ ?_))
      refine anyG_cast (n := (drawL ops.toList).length + (restL (addDone (drawL ops.toList) []) (numbered 0 ops.toList)).length) (by rw [hlen]; simp) ?_
      refine order_pre hp hQ1 _ (fun x hx => numbered_get _ (hmem x hx)) Rel.start (by simp) hrun ?_
      refine opsK_ok hc dstOf_eq _ _ h (hst.heapEq he) (by intro s hs; simp at hs) hLN.1 (fun x _ m h1 _ => hf m (by omega)) (fun σ1 g1 a1 w1 h1 hst1 hext1 hf1 hn1 => ?_)
      intro listed hrel
      obtain ⟨T, σE, hT, htr, hk, hgood, _, hpw⟩ := genK_tr _ hpg h1
      have hTi : T.map Ent.i = (restL (addDone (drawL ops.toList) []) (numbered 0 ops.toList)).map Prod.fst := by
        rw [← hT, List.map_map]; rfl
      have hTm : ∀ t ∈ T, (t.i, t.o) ∈ restL (addDone (drawL ops.toList) []) (numbered 0 ops.toList) := by
        intro t ht
        rw [← hT]
        exact List.mem_map.2 ⟨t, ht, rfl⟩
      have hTl : T.length = (restL (addDone (drawL ops.toList) []) (numbered 0 ops.toList)).length := by
        rw [← hT, List.length_map]
      refine anyG_cast hTl ?_
      have hheap : ({ w with drawn := w.drawn + 1 } : World).heap = w.heap := rfl
      refine gen_ok (base := σ.next) (g0 := g1) (w0 := w1) (σ0 := σ1) (σE := σE) (B0 := T.map Ent.i) hc (fun g' a' w' hst' hext' hf' => ?_) T.length rfl htr (fun t ht => ⟨hgood t ht, numbered_get _ (restL_mem.1 (hTm t ht)).1, List.mem_map.2 ⟨t, ht, rfl⟩⟩) hpw ?_ ?_ hst1 (fun t ht m q1 q2 => ?_) hrel hdsz (fun x hx => ?_) (fun t ht => hlat _ (hTm t ht)) (Ext.refl _ _) (fun m _ hf => hf)
      · refine fun hkept => hK _ g' a' w' hk ⟨hst'.slots, hst'.heap, hst'.size, hst'.defers⟩ ((Ext.heapEq (g := g) he rfl rfl rfl (Nat.le_succ _)).trans (hext1.trans hext')) (fun m hm => ?_) (hkept rfl)
        have hm' : σ.next + 8 * ops.toList.length ≤ m := hm
        have := hf' m (fun i hi => .inr ?_) (hf1 m (fun x hx => .inr (by have := numbered_lt (hmem x hx); omega)) (hf m (by omega)))
        · exact ⟨this.objs, this.row, this.box, this.slots, this.cells⟩
        · rw [hTi] at hi
          obtain ⟨y, hy, rfl⟩ := List.mem_map.1 hi
          have := numbered_lt (restL_mem.1 hy).1
          omega
      · rw [hTi]
        exact (numbered_nodup ops.toList 0).sublist ((restL_sub _).map _)
      · rw [hT]; exact hlin
      · refine hf1 m (fun x hx => ?_) (hf m (by omega))
        have hne : x.1 ≠ t.i := by
          intro he2
          have := (restL_mem.1 (hTm t ht)).2
          simp only at this
          exact this ((hdone _).2 (List.mem_map.2 ⟨x, hx, he2⟩))
        omega
      · rw [hTi]
        constructor
        · intro hd hm2
          obtain ⟨y, hy, rfl⟩ := List.mem_map.1 hm2
          exact (restL_mem.1 hy).2 hd
        · intro hn
          refine Classical.byContradiction fun hd => hn ?_
          obtain ⟨o, ho⟩ : ∃ o, ops[x]? = some o := ⟨ops[x], by simp [hx]⟩
          exact List.mem_map.2 ⟨(x, o), restL_mem.2 ⟨numbered_of ho, hd⟩, rfl⟩
    | true =>
      rw [hok] at h
      simp only [cond_true] at h
      simp only [drawOK, Bool.and_eq_true] at hok
      have hnd := okOrder_nodup hok.2
      have hp := plain_of hok.1
      have hmem : ∀ x ∈ drawL ops.toList, x ∈ numbered 0 ops.toList := fun x hx => orderL_mem x hx
      refine wp_region_any hm (wpAny_kept (a0 := a) _ _ _ _ (fun _ _ => rfl) (wpAny_of_G _ _ _ _ (order_ok hp hQ1 _ (fun x hx => numbered_get _ (hmem x hx)) ?_ Rel.start (by simp) hok.2 ?_)))
      · have := orderL_len (dst := dstOf ops.toList) (all := numbered 0 ops.toList) ops.toList.length []
        simpa [drawL] using this
      · have he : ({ w with drawn := w.drawn + 1 } : World).heap = w.heap := rfl
        refine list_ok hc (fun x hx => numbered_lt (hmem x hx)) hnd.1 h (hst.heapEq he) hf (fun σ' g' a' w' hk hst' hext' hf' => ?_)
        exact fun hkept => hK σ' g' a' w' hk hst' ((Ext.heapEq (g := g) he rfl rfl rfl (Nat.le_succ _)).trans hext') hf' (hkept rfl)
end

end Go.Kz
