/-
  What an operation makes of a part of a state, it makes of the whole.
-/
import Derived.Test.YtakifbcgkbfclaaKzADB
set_option linter.unusedVariables false
set_option linter.unusedSimpArgs false
namespace Go.Kz
variable {R : Type}

/-- Every object of the one is an object of the other. -/
def OLe (σ τ : St) : Prop := ∀ id x, σ.objs id = some x → τ.objs id = some x
theorem OLe.refl (σ : St) : OLe σ σ := fun _ _ h => h

def putO : List (Nat × Option Obj) → St → St
  | [], σ => σ
  | (i, o) :: l, σ => putO l { σ with objs := upd σ.objs i o }
theorem putO_append (l m : List (Nat × Option Obj)) (σ : St) : putO (l ++ m) σ = putO m (putO l σ) := by
  induction l generalizing σ with
  | nil => rfl
  | cons x l ih => obtain ⟨i, o⟩ := x; exact ih _
theorem OLe.upd {σ τ : St} (h : OLe σ τ) (i : Nat) (o : Option Obj) : OLe { σ with objs := upd σ.objs i o } { τ with objs := Go.Kz.upd τ.objs i o } := by
  intro id x hx
  simp only [Go.Kz.upd] at hx ⊢
  cases hb : Nat.beq id i with
  | true => rw [hb] at hx; exact hx
  | false => rw [hb] at hx; exact h id x hx
theorem OLe.putO {σ τ : St} (h : OLe σ τ) : (l : List (Nat × Option Obj)) → OLe (Go.Kz.putO l σ) (Go.Kz.putO l τ)
  | [] => h
  | (i, o) :: l => OLe.putO (h.upd i o) l
theorem putO_slots : (l : List (Nat × Option Obj)) → (σ : St) → (putO l σ).slots = σ.slots
  | [], _ => rfl
  | (_, _) :: l, σ => putO_slots l _
theorem putO_next : (l : List (Nat × Option Obj)) → (σ : St) → (putO l σ).next = σ.next
  | [], _ => rfl
  | (_, _) :: l, σ => putO_next l _
theorem putO_off {i : Nat} : (l : List (Nat × Option Obj)) → (σ : St) → i ∉ l.map Prod.fst → (putO l σ).objs i = σ.objs i
  | [], _, _ => rfl
  | (j, o) :: l, σ, h => by
    simp only [List.map_cons, List.mem_cons, not_or] at h
    simp only [putO]
    rw [putO_off l _ h.2]
    have hb : Nat.beq i j = false := by
      cases hb : Nat.beq i j with
      | true => exact absurd (Nat.eq_of_beq_eq_true hb) h.1
      | false => rfl
    simp only [upd, hb, cond_false]
/-- What is put is put everywhere alike. -/
theorem putO_on {i : Nat} : (l : List (Nat × Option Obj)) → (σ τ : St) → i ∈ l.map Prod.fst → (putO l σ).objs i = (putO l τ).objs i
  | [], _, _, h => by simp at h
  | (j, o) :: l, σ, τ, h => by
    simp only [putO]
    by_cases hm : i ∈ l.map Prod.fst
    · exact putO_on l _ _ hm
    · rw [putO_off l _ hm, putO_off l _ hm]
      simp only [List.map_cons, List.mem_cons] at h
      rcases h with rfl | h
      · simp only [upd, Nat.beq_refl, cond_true]
      · exact absurd h hm

/-- Where objects are put: where some were, or at new numbers. -/
def Dom (n : Nat) (σ : St) (ob : List (Nat × Option Obj)) : Prop := ∀ x ∈ ob, (∃ y, σ.objs x.1 = some y) ∨ (n ≤ x.1 ∧ x.1 < n + 8)
theorem Dom.nil {n : Nat} {σ : St} : Dom n σ [] := by intro x hx; simp at hx
theorem Dom.append {n : Nat} {σ : St} {l m : List (Nat × Option Obj)} (h : Dom n σ l) (h' : Dom n (putO l σ) m) : Dom n σ (l ++ m) := by
  intro x hx
  rcases List.mem_append.1 hx with hx | hx
  · exact h x hx
  · rcases h' x hx with ⟨y, hy⟩ | h2
    · by_cases hm : x.1 ∈ l.map Prod.fst
      · obtain ⟨z, hz, he⟩ := List.mem_map.1 hm
        rw [← he]; exact h z hz
      · rw [putO_off l σ hm] at hy; exact .inl ⟨y, hy⟩
    · exact .inr h2
theorem Dom.old {n : Nat} {σ : St} {i : Nat} {y : Obj} {o : Option Obj} (h : σ.objs i = some y) : Dom n σ [(i, o)] := by
  intro x hx
  simp only [List.mem_singleton] at hx
  subst hx
  exact .inl ⟨y, h⟩
theorem Dom.new {n : Nat} {σ : St} {o : Option Obj} : Dom n σ [(n, o)] := by
  intro x hx
  simp only [List.mem_singleton] at hx
  subst hx
  exact .inr ⟨Nat.le_refl _, by omega⟩

theorem castK_run {a b : Ty} {d : a.den} {k : b.den → Option R} {r : R} (h : castK a b d k = some r) : ∃ e, k e = some r ∧ ∀ (R' : Type) (k' : b.den → Option R'), castK a b d k' = k' e := by
  rw [castK_bind] at h
  obtain ⟨e, he, hk⟩ := Option.bind_eq_some_iff.1 h
  exact ⟨e, hk, fun R' k' => by rw [castK_bind, he]; rfl⟩
theorem nilK_run {t : Ty} {k : t.den → Option R} {r : R} (h : nilK t k = some r) : ∃ e, k e = some r ∧ ∀ (R' : Type) (k' : t.den → Option R'), nilK t k' = k' e := by
  rw [nilK_bind] at h
  obtain ⟨e, he, hk⟩ := Option.bind_eq_some_iff.1 h
  exact ⟨e, hk, fun R' k' => by rw [nilK_bind, he]; rfl⟩
theorem getA_run {a : AVal} {p : Path} {k : AVal → Option R} {r : R} (h : getA a p k = some r) : ∃ e, k e = some r ∧ ∀ (R' : Type) (k' : AVal → Option R'), getA a p k' = k' e := by
  rw [getA_bind] at h
  obtain ⟨e, he, hk⟩ := Option.bind_eq_some_iff.1 h
  exact ⟨e, hk, fun R' k' => by rw [getA_bind, he]; rfl⟩

theorem getK_run : (t : Ty) → (d : t.den) → (p : Path) → {k : (u : Ty) → u.den → Option R} → {r : R} → getK t d p k = some r →
    ∃ (u : Ty) (e : u.den), k u e = some r ∧ ∀ (R' : Type) (k' : (u : Ty) → u.den → Option R'), getK t d p k' = k' u e
  | t, d, [], k, r, h => ⟨t, d, by cases t <;> simpa [getK] using h, fun R' k' => by cases t <;> simp [getK]⟩
  | .pair a _, (x, _), .fst :: p, k, r, h => by simp only [getK] at h ⊢; exact getK_run a x p h
  | .pair _ b, (_, y), .snd :: p, k, r, h => by simp only [getK] at h ⊢; exact getK_run b y p h
  | .arr _ t, l, .idx i :: p, k, r, h => by
    simp only [getK] at h ⊢
    obtain ⟨x, hx, h⟩ := Option.bind_eq_some_iff.1 h
    obtain ⟨u, e, hk, ha⟩ := getK_run t x p h
    exact ⟨u, e, hk, fun R' k' => by rw [hx, Option.bind_some]; exact ha _ _⟩
  | .sl true t, l, .idx i :: p, k, r, h => by
    simp only [getK] at h ⊢
    obtain ⟨x, hx, h⟩ := Option.bind_eq_some_iff.1 h
    obtain ⟨u, e, hk, ha⟩ := getK_run t x p h
    exact ⟨u, e, hk, fun R' k' => by rw [hx, Option.bind_some]; exact ha _ _⟩
  | .int _, d, s :: p, k, r, h => by cases s <;> simp [getK] at h
  | .bool, d, s :: p, k, r, h => by cases s <;> simp [getK] at h
  | .str, d, s :: p, k, r, h => by cases s <;> simp [getK] at h
  | .unit, d, s :: p, k, r, h => by cases s <;> simp [getK] at h
  | .sl false _, d, s :: p, k, r, h => by cases s <;> simp [getK] at h
  | .ptr _, d, s :: p, k, r, h => by cases s <;> simp [getK] at h
  | .fn _ _, d, s :: p, k, r, h => by cases s <;> simp [getK] at h
  | .pair _ _, (_, _), .idx _ :: p, k, r, h => by simp [getK] at h
  | .arr _ _, d, .fst :: p, k, r, h => by simp [getK] at h
  | .arr _ _, d, .snd :: p, k, r, h => by simp [getK] at h
  | .sl true _, d, .fst :: p, k, r, h => by simp [getK] at h
  | .sl true _, d, .snd :: p, k, r, h => by simp [getK] at h

theorem setK_run {u : Ty} {e : u.den} : (t : Ty) → (d : t.den) → (p : Path) → {k : t.den → Option R} → {r : R} → setK t d p u e k = some r →
    ∃ d', k d' = some r ∧ ∀ (R' : Type) (k' : t.den → Option R'), setK t d p u e k' = k' d'
  | t, d, [], k, r, h => by
    have h' : castK u t e k = some r := by cases t <;> simpa [setK] using h
    obtain ⟨d', hk, ha⟩ := castK_run h'
    exact ⟨d', hk, fun R' k' => by rw [← ha R' k']; cases t <;> simp [setK]⟩
  | .pair a _, (x, y), .fst :: p, k, r, h => by
    simp only [setK] at h ⊢
    obtain ⟨x', hk, ha⟩ := setK_run a x p h
    exact ⟨(x', y), hk, fun R' k' => ha R' _⟩
  | .pair _ b, (x, y), .snd :: p, k, r, h => by
    simp only [setK] at h ⊢
    obtain ⟨y', hk, ha⟩ := setK_run b y p h
    exact ⟨(x, y'), hk, fun R' k' => ha R' _⟩
  | .arr _ t, l, .idx i :: p, k, r, h => by
    simp only [setK] at h ⊢
    obtain ⟨x, hx, h⟩ := Option.bind_eq_some_iff.1 h
    obtain ⟨x', hk, ha⟩ := setK_run t x p h
    exact ⟨_, hk, fun R' k' => by rw [hx, Option.bind_some]; exact ha _ _⟩
  | .sl true t, l, .idx i :: p, k, r, h => by
    simp only [setK] at h ⊢
    obtain ⟨x, hx, h⟩ := Option.bind_eq_some_iff.1 h
    obtain ⟨x', hk, ha⟩ := setK_run t x p h
    exact ⟨_, hk, fun R' k' => by rw [hx, Option.bind_some]; exact ha _ _⟩
  | .int _, d, s :: p, k, r, h => by cases s <;> simp [setK] at h
  | .bool, d, s :: p, k, r, h => by cases s <;> simp [setK] at h
  | .str, d, s :: p, k, r, h => by cases s <;> simp [setK] at h
  | .unit, d, s :: p, k, r, h => by cases s <;> simp [setK] at h
  | .sl false _, d, s :: p, k, r, h => by cases s <;> simp [setK] at h
  | .ptr _, d, s :: p, k, r, h => by cases s <;> simp [setK] at h
  | .fn _ _, d, s :: p, k, r, h => by cases s <;> simp [setK] at h
  | .pair _ _, (_, _), .idx _ :: p, k, r, h => by simp [setK] at h
  | .arr _ _, d, .fst :: p, k, r, h => by simp [setK] at h
  | .arr _ _, d, .snd :: p, k, r, h => by simp [setK] at h
  | .sl true _, d, .fst :: p, k, r, h => by simp [setK] at h
  | .sl true _, d, .snd :: p, k, r, h => by simp [setK] at h

theorem setSplit_run {new : AVal} : (t : Ty) → (d : t.den) → (p : Path) → {k : AVal → Option R} → {r : R} → setSplit new t d p k = some r →
    ∃ u, k u = some r ∧ ∀ (R' : Type) (k' : AVal → Option R'), setSplit new t d p k' = k' u
  | .pair a b, (x, y), [.fst], k, r, h => ⟨_, h, fun _ _ => rfl⟩
  | .pair a b, (x, y), .fst :: s :: p, k, r, h => by
    simp only [setSplit] at h ⊢
    obtain ⟨u, hk, ha⟩ := setSplit_run a x (s :: p) h
    exact ⟨_, hk, fun R' k' => ha R' _⟩
  | .pair a b, (x, y), .snd :: p, k, r, h => by
    have e : ∀ (R' : Type) (k' : AVal → Option R'), setSplit new (.pair a b) (x, y) (.snd :: p) k' = setSplit new b y p fun u => k' (.pr (.data a x) u) := fun R' k' => by simp [setSplit]
    rw [e] at h
    obtain ⟨u, hk, ha⟩ := setSplit_run b y p h
    exact ⟨_, hk, fun R' k' => by rw [e]; exact ha R' _⟩
  | .pair _ _, _, [], _, _, hk => by simp [setSplit] at hk
  | .pair _ _, _, .idx _ :: _, _, _, hk => by simp [setSplit] at hk
  | .int _, _, _, _, _, hk => by simp [setSplit] at hk
  | .bool, _, _, _, _, hk => by simp [setSplit] at hk
  | .str, _, _, _, _, hk => by simp [setSplit] at hk
  | .unit, _, _, _, _, hk => by simp [setSplit] at hk
  | .arr _ _, _, _, _, _, hk => by simp [setSplit] at hk
  | .sl _ _, _, _, _, _, hk => by simp [setSplit] at hk
  | .ptr _, _, _, _, _, hk => by simp [setSplit] at hk
  | .fn _ _, _, _, _, _, hk => by simp [setSplit] at hk

theorem setA_run {new : AVal} : (a : AVal) → (p : Path) → {k : AVal → Option R} → {r : R} → setA new a p k = some r →
    ∃ u, k u = some r ∧ ∀ (R' : Type) (k' : AVal → Option R'), setA new a p k' = k' u
  | a, [], k, r, h => ⟨new, by cases a <;> simpa [setA] using h, fun R' k' => by cases a <;> rfl⟩
  | .agg c, s :: p, k, r, h => by
    simp only [setA] at h ⊢
    obtain ⟨u, hk, ha⟩ := setA_run c (s :: p) h
    exact ⟨_, hk, fun R' k' => ha R' _⟩
  | .pr a b, .fst :: p, k, r, h => by
    simp only [setA] at h ⊢
    obtain ⟨u, hk, ha⟩ := setA_run a p h
    exact ⟨_, hk, fun R' k' => ha R' _⟩
  | .pr a b, .snd :: p, k, r, h => by
    simp only [setA] at h ⊢
    obtain ⟨u, hk, ha⟩ := setA_run b p h
    exact ⟨_, hk, fun R' k' => ha R' _⟩
  | .data t d, s :: p, k, r, h => by
    have e : ∀ (R' : Type) (k' : AVal → Option R'), setA new (.data t d) (s :: p) k' = cond (fitsAt t (s :: p) new) (setFit new t d (s :: p) k')
      (setSplit new t d (s :: p) fun u => cond (u.sk.same t.sk) (k' (.agg u)) none) := fun R' k' => by cases s <;> rfl
    rw [e] at h
    cases hf : fitsAt t (s :: p) new with
    | true =>
      rw [hf, cond_true] at h
      unfold setFit at h
      split at h
      · rename_i u e'
        obtain ⟨d', hk, ha⟩ := setK_run _ _ _ h
        exact ⟨_, hk, fun R' k' => by rw [e, hf, cond_true]; simp only [setFit]; exact ha R' _⟩
      · simp at h
    | false =>
      rw [hf, cond_false] at h
      obtain ⟨u, hk, ha⟩ := setSplit_run _ _ _ h
      cases hs : u.sk.same t.sk with
      | false => rw [hs] at hk; simp at hk
      | true =>
        rw [hs, cond_true] at hk
        exact ⟨_, hk, fun R' k' => by rw [e, hf, cond_false, ha, hs, cond_true]⟩
  | .nilS, s :: _, _, _, h => by cases s <;> simp [setA] at h
  | .ref _ _ _, s :: _, _, _, h => by cases s <;> simp [setA] at h
  | .view _ _ _ _ _, s :: _, _, _, h => by cases s <;> simp [setA] at h
  | .bptr _ _, s :: _, _, _, h => by cases s <;> simp [setA] at h
  | .eptr _ _ _, s :: _, _, _, h => by cases s <;> simp [setA] at h
  | .mref _, s :: _, _, _, h => by cases s <;> simp [setA] at h
  | .nv _ _ _ _, s :: _, _, _, h => by cases s <;> simp [setA] at h
  | .clos _ _, s :: _, _, _, h => by cases s <;> simp [setA] at h
  | .tup _, s :: _, _, _, h => by cases s <;> simp [setA] at h
  | .un, s :: _, _, _, h => by cases s <;> simp [setA] at h
  | .pr _ _, .idx _ :: _, _, _, h => by simp [setA] at h

theorem fetchK_run {σ : St} {id : Nat} {p : Path} {ep : Nat} {k : (u : Ty) → List u.den → Option R} {r : R} (h : fetchK σ id p ep k = some r) :
    ∃ u l, k u l = some r ∧ ∀ τ, OLe σ τ → ∀ (R' : Type) (k' : (u : Ty) → List u.den → Option R'), fetchK τ id p ep k' = k' u l := by
  unfold fetchK at h
  split at h
  · rename_i t l e ho
    cases hb : Nat.beq e ep with
    | false => rw [hb] at h; simp at h
    | true =>
      rw [hb, cond_true] at h
      unfold rowK at h
      obtain ⟨u, d, hk, ha⟩ := getK_run _ _ _ h
      split at hk
      · rename_i v l'
        refine ⟨v, l', hk, fun τ hle R' k' => ?_⟩
        unfold fetchK
        rw [hle _ _ ho]
        simp only [hb, cond_true, rowK]
        rw [ha]
      · simp at hk
  · simp at h
theorem efetchK_run {σ : St} {id : Nat} {p : Path} {ep : Nat} {k : (u : Ty) → u.den → Option R} {r : R} (h : efetchK σ id p ep k = some r) :
    ∃ u d, k u d = some r ∧ ∀ τ, OLe σ τ → ∀ (R' : Type) (k' : (u : Ty) → u.den → Option R'), efetchK τ id p ep k' = k' u d := by
  unfold efetchK at h
  split at h
  · rename_i t l e ho
    cases hb : Nat.beq e ep with
    | false => rw [hb] at h; simp at h
    | true =>
      rw [hb, cond_true] at h
      unfold rowK at h
      obtain ⟨u, d, hk, ha⟩ := getK_run _ _ _ h
      refine ⟨u, d, hk, fun τ hle R' k' => ?_⟩
      unfold efetchK
      rw [hle _ _ ho]
      simp only [hb, cond_true, rowK]
      exact ha R' k'
  · simp at h
theorem bfetchK_run {σ : St} {id : Nat} {p : Path} {k : AVal → Option R} {r : R} (h : bfetchK σ id p k = some r) :
    ∃ a, k a = some r ∧ ∀ τ, OLe σ τ → ∀ (R' : Type) (k' : AVal → Option R'), bfetchK τ id p k' = k' a := by
  unfold bfetchK at h
  split at h
  · rename_i a ho
    obtain ⟨u, hk, ha⟩ := getA_run h
    refine ⟨u, hk, fun τ hle R' k' => ?_⟩
    unfold bfetchK
    rw [hle _ _ ho]
    exact ha R' k'
  · simp at h

theorem nfetchK_run {σ : St} {pt : Bool} {id : Nat} {p : Path} {ep : Nat} {k : (u : Ty) → u.den → Option R} {r : R} (h : nfetchK σ pt id p ep k = some r) :
    ∃ u d, k u d = some r ∧ ∀ τ, OLe σ τ → innerOf τ id = innerOf σ id ∧ ∀ (R' : Type) (k' : (u : Ty) → u.den → Option R'), nfetchK τ pt id p ep k' = k' u d := by
  unfold nfetchK at h
  split at h
  · rename_i t l e i ho
    cases hb : Nat.beq (nep pt p e i) ep with
    | false => rw [hb] at h; simp at h
    | true =>
      rw [hb, cond_true] at h
      unfold rowK at h
      obtain ⟨u, d, hk, ha⟩ := getK_run _ _ _ h
      refine ⟨u, d, hk, fun τ hle => ⟨?_, fun R' k' => ?_⟩⟩
      · unfold innerOf; rw [hle _ _ ho, ho]
      · unfold nfetchK
        rw [hle _ _ ho]
        simp only [hb, cond_true, rowK]
        exact ha R' k'
  · simp at h
theorem nrowK_run {σ : St} {id : Nat} {p : Path} {ep : Nat} {k : (v : Ty) → List v.den → Option R} {r : R} (h : nrowK σ id p ep k = some r) :
    ∃ v l, k v l = some r ∧ ∀ τ, OLe σ τ → innerOf τ id = innerOf σ id ∧ ∀ (R' : Type) (k' : (v : Ty) → List v.den → Option R'), nrowK τ id p ep k' = k' v l := by
  unfold nrowK at h
  obtain ⟨u, d, hk, ha⟩ := nfetchK_run h
  split at hk
  · rename_i v l
    refine ⟨v, l, hk, fun τ hle => ⟨(ha τ hle).1, fun R' k' => ?_⟩⟩
    unfold nrowK
    rw [(ha τ hle).2]
  · simp at hk

theorem asData_run {σ : St} : (m : Nat) → {R : Type} → (a : AVal) → (t : Ty) → {k : t.den → Option R} → {r : R} → asData σ m a t k = some r →
    ∃ d, k d = some r ∧ ∀ τ, OLe σ τ → ∀ (R' : Type) (k' : t.den → Option R'), asData τ m a t k' = k' d
  | 0, _, _, _, _, _, h => by simp [asData] at h
  | m + 1, _, .data t' d, t, k, r, h => by
    simp only [asData] at h ⊢
    obtain ⟨e, hk, ha⟩ := castK_run h
    exact ⟨e, hk, fun _ _ R' k' => ha R' k'⟩
  | m + 1, _, .nilS, t, k, r, h => by
    simp only [asData] at h ⊢
    cases hr : t.isRo with
    | false => rw [hr] at h; simp at h
    | true =>
      rw [hr, cond_true] at h
      obtain ⟨e, hk, ha⟩ := nilK_run h
      exact ⟨e, hk, fun _ _ R' k' => by rw [cond_true]; exact ha R' k'⟩
  | m + 1, _, .ref id p ep, t, k, r, h => by
    simp only [asData] at h ⊢
    obtain ⟨u, l, hk, ha⟩ := fetchK_run h
    obtain ⟨e, hk, hb⟩ := castK_run hk
    exact ⟨e, hk, fun τ hle R' k' => by rw [ha τ hle]; exact hb R' k'⟩
  | m + 1, _, .view id p ep a b, t, k, r, h => by
    simp only [asData] at h ⊢
    obtain ⟨u, l, hk, ha⟩ := fetchK_run h
    obtain ⟨e, hk, hb⟩ := castK_run hk
    exact ⟨e, hk, fun τ hle R' k' => by rw [ha τ hle]; exact hb R' k'⟩
  | m + 1, _, .bptr id p, .ptr t, k, r, h => by
    simp only [asData] at h ⊢
    obtain ⟨a, hk, ha⟩ := bfetchK_run h
    obtain ⟨e, hk, hb⟩ := asData_run m a t hk
    exact ⟨e, hk, fun τ hle R' k' => by rw [ha τ hle]; exact hb τ hle R' k'⟩
  | m + 1, _, .eptr id p ep, .ptr t, k, r, h => by
    simp only [asData] at h ⊢
    obtain ⟨u, d, hk, ha⟩ := efetchK_run h
    obtain ⟨e, hk, hb⟩ := castK_run hk
    exact ⟨e, hk, fun τ hle R' k' => by rw [ha τ hle]; exact hb R' k'⟩
  | m + 1, _, .clos f c, .fn g t, k, r, h => by
    simp only [asData] at h ⊢
    cases hb : Nat.beq f g with
    | false => rw [hb] at h; simp at h
    | true =>
      rw [hb, cond_true] at h
      obtain ⟨e, hk, ha⟩ := asData_run m c t h
      exact ⟨e, hk, fun τ hle R' k' => by rw [cond_true]; exact ha τ hle R' k'⟩
  | m + 1, _, .agg c, t, k, r, h => by
    simp only [asData] at h ⊢
    exact asData_run m c t h
  | m + 1, _, .pr a b, .pair t u, k, r, h => by
    simp only [asData] at h ⊢
    obtain ⟨x, hk, ha⟩ := asData_run m a t h
    obtain ⟨y, hk, hb⟩ := asData_run m b u hk
    exact ⟨(x, y), hk, fun τ hle R' k' => by rw [ha τ hle]; exact hb τ hle R' _⟩
  | m + 1, _, .un, .unit, k, r, h => by
    simp only [asData] at h ⊢
    exact ⟨(), h, fun _ _ _ _ => trivial⟩
  | m + 1, _, .tup _, t, k, r, h => by simp [asData] at h
  | m + 1, _, .mref _, t, k, r, h => by simp [asData] at h
  | m + 1, _, .nv true _ _ _, t, k, r, h => by simp [asData] at h
  | m + 1, _, .nv false id p ep, t, k, r, h => by
    simp only [asData] at h ⊢
    obtain ⟨u, l, hk, ha⟩ := nrowK_run h
    obtain ⟨e, hk, hb⟩ := castK_run hk
    exact ⟨e, hk, fun τ hle R' k' => by rw [(ha τ hle).2]; exact hb R' k'⟩
  | m + 1, _, .bptr _ _, .int _, _, _, h | m + 1, _, .bptr _ _, .bool, _, _, h | m + 1, _, .bptr _ _, .str, _, _, h | m + 1, _, .bptr _ _, .unit, _, _, h | m + 1, _, .bptr _ _, .pair _ _, _, _, h | m + 1, _, .bptr _ _, .arr _ _, _, _, h | m + 1, _, .bptr _ _, .sl _ _, _, _, h | m + 1, _, .bptr _ _, .fn _ _, _, _, h => by simp [asData] at h
  | m + 1, _, .eptr _ _ _, .int _, _, _, h | m + 1, _, .eptr _ _ _, .bool, _, _, h | m + 1, _, .eptr _ _ _, .str, _, _, h | m + 1, _, .eptr _ _ _, .unit, _, _, h | m + 1, _, .eptr _ _ _, .pair _ _, _, _, h | m + 1, _, .eptr _ _ _, .arr _ _, _, _, h | m + 1, _, .eptr _ _ _, .sl _ _, _, _, h | m + 1, _, .eptr _ _ _, .fn _ _, _, _, h => by simp [asData] at h
  | m + 1, _, .clos _ _, .int _, _, _, h | m + 1, _, .clos _ _, .bool, _, _, h | m + 1, _, .clos _ _, .str, _, _, h | m + 1, _, .clos _ _, .unit, _, _, h | m + 1, _, .clos _ _, .pair _ _, _, _, h | m + 1, _, .clos _ _, .arr _ _, _, _, h | m + 1, _, .clos _ _, .sl _ _, _, _, h | m + 1, _, .clos _ _, .ptr _, _, _, h => by simp [asData] at h
  | m + 1, _, .pr _ _, .int _, _, _, h | m + 1, _, .pr _ _, .bool, _, _, h | m + 1, _, .pr _ _, .str, _, _, h | m + 1, _, .pr _ _, .unit, _, _, h | m + 1, _, .pr _ _, .ptr _, _, _, h | m + 1, _, .pr _ _, .arr _ _, _, _, h | m + 1, _, .pr _ _, .sl _ _, _, _, h | m + 1, _, .pr _ _, .fn _ _, _, _, h => by simp [asData] at h
  | m + 1, _, .un, .int _, _, _, h | m + 1, _, .un, .bool, _, _, h | m + 1, _, .un, .str, _, _, h | m + 1, _, .un, .pair _ _, _, _, h | m + 1, _, .un, .ptr _, _, _, h | m + 1, _, .un, .arr _ _, _, _, h | m + 1, _, .un, .sl _ _, _, _, h | m + 1, _, .un, .fn _ _, _, _, h => by simp [asData] at h

/-- What is handed over leaves the state. -/
theorem give_run {n : Nat} : (m : Nat) → {R : Type} → {σ : St} → (a : AVal) → (u : Ty) → {k : u.den → St → Option R} → {r : R} → give m a u σ k = some r →
    ∃ d ob, k d (putO ob σ) = some r ∧ Dom n σ ob ∧ ∀ τ, OLe σ τ → ∀ (R' : Type) (k' : u.den → St → Option R'), give m a u τ k' = k' d (putO ob τ)
  | 0, _, _, _, _, _, _, h => by simp [give] at h
  | m + 1, _, σ, .data t' d, t, k, r, h => by
    simp only [give] at h ⊢
    obtain ⟨e, hk, ha⟩ := castK_run h
    exact ⟨e, [], hk, Dom.nil, fun τ _ R' k' => ha R' (fun d => k' d τ)⟩
  | m + 1, _, σ, .nilS, t, k, r, h => by
    simp only [give] at h ⊢
    obtain ⟨e, hk, ha⟩ := nilK_run h
    exact ⟨e, [], hk, Dom.nil, fun τ _ R' k' => ha R' (fun d => k' d τ)⟩
  | m + 1, _, σ, .ref id [] ep, u, k, r, h => by
    simp only [give] at h
    split at h
    · rename_i t l e ho
      cases hb : Nat.beq e ep with
      | false => rw [hb] at h; simp at h
      | true =>
        rw [hb, cond_true] at h
        cases u with
        | sl ow v =>
          cases ow with
          | true =>
            obtain ⟨d, hk, ha⟩ := castK_run h
            refine ⟨d, [(id, none)], hk, Dom.old ho, fun τ hle R' k' => ?_⟩
            simp only [give]
            rw [hle _ _ ho]
            simp only [hb, cond_true]
            exact ha R' _
          | false =>
            obtain ⟨d, hk, ha⟩ := castK_run h
            refine ⟨d, [(id, none)], hk, Dom.old ho, fun τ hle R' k' => ?_⟩
            simp only [give]
            rw [hle _ _ ho]
            simp only [hb, cond_true]
            exact ha R' _
        | _ => simp at h
    · simp at h
  | m + 1, _, σ, .bptr id [], .ptr u, k, r, h => by
    simp only [give] at h
    split at h
    · rename_i a ho
      obtain ⟨d, ob, hk, hd, ha⟩ := give_run (n := n) m a u h
      refine ⟨d, (id, none) :: ob, hk, Dom.append (l := [(id, none)]) (Dom.old ho) hd, fun τ hle R' k' => ?_⟩
      simp only [give]
      rw [hle _ _ ho]
      exact ha (τ.kill id) (hle.upd id none) R' k'
    · simp at h
  | m + 1, _, σ, .clos f c, .fn g t, k, r, h => by
    simp only [give] at h ⊢
    cases hb : Nat.beq f g with
    | false => rw [hb] at h; simp at h
    | true =>
      rw [hb, cond_true] at h
      obtain ⟨d, ob, hk, hd, ha⟩ := give_run (n := n) m c t h
      exact ⟨d, ob, hk, hd, fun τ hle R' k' => by rw [cond_true]; exact ha τ hle R' k'⟩
  | m + 1, _, σ, .agg c, t, k, r, h => by
    simp only [give] at h ⊢
    exact give_run (n := n) m c t h
  | m + 1, _, σ, .pr a b, .pair t u, k, r, h => by
    simp only [give] at h ⊢
    obtain ⟨x, ob, hk, hd, ha⟩ := give_run (n := n) m a t h
    obtain ⟨y, oc, hk, hd', hb⟩ := give_run (n := n) m b u hk
    refine ⟨(x, y), ob ++ oc, by rw [putO_append]; exact hk, hd.append hd', fun τ hle R' k' => ?_⟩
    rw [ha τ hle, putO_append]
    exact hb _ (hle.putO ob) R' _
  | m + 1, _, σ, .un, .unit, k, r, h => by
    simp only [give] at h ⊢
    exact ⟨(), [], h, Dom.nil, fun _ _ _ _ => rfl⟩
  | m + 1, _, _, .tup _, t, k, r, h => by simp [give] at h
  | m + 1, _, _, .mref _, t, k, r, h => by simp [give] at h
  | m + 1, _, _, .nv true _ _ _, t, k, r, h => by simp [give] at h
  | m + 1, _, _, .nv false _ (_ :: _) _, t, k, r, h => by simp [give] at h
  | m + 1, _, σ, .nv false id [] ep, u, k, r, h => by
    simp only [give] at h
    split at h
    · rename_i t l e i ho
      cases hb : Nat.beq e ep with
      | false => rw [hb] at h; simp at h
      | true =>
        rw [hb, cond_true] at h
        cases u with
        | sl ow v =>
          cases ow with
          | true => simp at h
          | false =>
            obtain ⟨d, hk, ha⟩ := castK_run h
            refine ⟨d, [(id, none)], hk, Dom.old ho, fun τ hle R' k' => ?_⟩
            simp only [give]
            rw [hle _ _ ho]
            simp only [hb, cond_true]
            exact ha R' _
        | _ => simp at h
    · simp at h
  | m + 1, _, _, .view _ _ _ _ _, t, k, r, h => by simp [give] at h
  | m + 1, _, _, .eptr _ _ _, t, k, r, h => by simp [give] at h
  | m + 1, _, _, .ref _ (_ :: _) _, t, k, r, h => by simp [give] at h
  | m + 1, _, _, .bptr _ (_ :: _), t, k, r, h => by cases t <;> simp [give] at h
  | m + 1, _, _, .bptr _ [], .int _, _, _, h | m + 1, _, _, .bptr _ [], .bool, _, _, h | m + 1, _, _, .bptr _ [], .str, _, _, h | m + 1, _, _, .bptr _ [], .unit, _, _, h | m + 1, _, _, .bptr _ [], .pair _ _, _, _, h | m + 1, _, _, .bptr _ [], .arr _ _, _, _, h | m + 1, _, _, .bptr _ [], .sl _ _, _, _, h | m + 1, _, _, .bptr _ [], .fn _ _, _, _, h => by simp [give] at h
  | m + 1, _, _, .clos _ _, .int _, _, _, h | m + 1, _, _, .clos _ _, .bool, _, _, h | m + 1, _, _, .clos _ _, .str, _, _, h | m + 1, _, _, .clos _ _, .unit, _, _, h | m + 1, _, _, .clos _ _, .pair _ _, _, _, h | m + 1, _, _, .clos _ _, .arr _ _, _, _, h | m + 1, _, _, .clos _ _, .sl _ _, _, _, h | m + 1, _, _, .clos _ _, .ptr _, _, _, h => by simp [give] at h
  | m + 1, _, _, .pr _ _, .int _, _, _, h | m + 1, _, _, .pr _ _, .bool, _, _, h | m + 1, _, _, .pr _ _, .str, _, _, h | m + 1, _, _, .pr _ _, .unit, _, _, h | m + 1, _, _, .pr _ _, .ptr _, _, _, h | m + 1, _, _, .pr _ _, .arr _ _, _, _, h | m + 1, _, _, .pr _ _, .sl _ _, _, _, h | m + 1, _, _, .pr _ _, .fn _ _, _, _, h => by simp [give] at h
  | m + 1, _, _, .un, .int _, _, _, h | m + 1, _, _, .un, .bool, _, _, h | m + 1, _, _, .un, .str, _, _, h | m + 1, _, _, .un, .pair _ _, _, _, h | m + 1, _, _, .un, .ptr _, _, _, h | m + 1, _, _, .un, .arr _ _, _, _, h | m + 1, _, _, .un, .sl _ _, _, _, h | m + 1, _, _, .un, .fn _ _, _, _, h => by simp [give] at h

end Go.Kz
