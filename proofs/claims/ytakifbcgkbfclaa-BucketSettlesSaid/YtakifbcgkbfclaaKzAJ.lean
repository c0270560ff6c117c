/-
  Loops by name: states by their form; what a generated text must show.
-/
import Derived.Test.YtakifbcgkbfclaaKzAI
set_option linter.unusedVariables false
set_option linter.unusedSimpArgs false
namespace Go.Kz

/-! ## Forms of states -/

inductive SPat where
  | val (t : Ty) | nilS | ref (id : Nat) | view (id : Nat) | bptr (id : Nat) (p : Path) | mref (id : Nat) | nv (id : Nat) | nvi (id : Nat) | clos (f : Nat) (c : SPat) | agg (c : SPat) | pr (a b : SPat) | un
@[reducible] def SPat.den : SPat → Type
  | .val t => t.den
  | .view _ => Int × Int
  | .nvi _ => Int
  | .clos _ c => c.den
  | .agg c => c.den
  | .pr a b => a.den × b.den
  | _ => Unit
def SPat.mk : (p : SPat) → p.den → AVal
  | .val t, d => .data t d
  | .nilS, _ => .nilS
  | .ref id, _ => .ref id [] 0
  | .view id, d => .view id [] 0 d.1 d.2
  | .bptr id p, _ => .bptr id p
  | .mref id, _ => .mref id
  | .nv id, _ => .nv false id [] 0
  | .nvi id, d => .nv false id [.idx d] 0
  | .clos f c, d => .clos f (c.mk d)
  | .agg c, d => .agg (c.mk d)
  | .pr a b, d => .pr (a.mk d.1) (b.mk d.2)
  | .un, _ => .un
def stepB : Step → Step → Bool
  | .fst, .fst => true
  | .snd, .snd => true
  | _, _ => false
def pathB : Path → Path → Bool
  | [], [] => true
  | a :: p, b :: q => stepB a b && pathB p q
  | _, _ => false
variable {R : Type}
def SPat.take : (p : SPat) → AVal → (p.den → Option R) → Option R
  | .val t, .data u d, k => castK u t d k
  | .nilS, .nilS, k => k ()
  | .ref id, .ref id' [] ep, k => cond (Nat.beq id id' && Nat.beq ep 0) (k ()) none
  | .view id, .view id' [] ep a b, k => cond (Nat.beq id id' && Nat.beq ep 0) (k (a, b)) none
  | .bptr id p, .bptr id' p', k => cond (Nat.beq id id' && pathB p p') (k ()) none
  | .mref id, .mref id', k => cond (Nat.beq id id') (k ()) none
  | .nv id, .nv false id' [] ep, k => cond (Nat.beq id id' && Nat.beq ep 0) (k ()) none
  | .nvi id, .nv false id' [.idx i] ep, k => cond (Nat.beq id id' && Nat.beq ep 0) (k i) none
  | .clos f c, .clos g d, k => cond (Nat.beq f g) (c.take d k) none
  | .agg c, .agg d, k => c.take d k
  | .pr a b, .pr x y, k => a.take x fun d => b.take y fun e => k (d, e)
  | .un, .un, k => k ()
  | _, _, _ => none

theorem stepB_eq {a b : Step} (h : stepB a b = true) : a = b := by
  cases a <;> cases b <;> simp [stepB] at h <;> rfl
theorem pathB_eq : {p q : Path} → pathB p q = true → p = q
  | [], [], _ => rfl
  | a :: p, b :: q, h => by
    simp only [pathB, Bool.and_eq_true] at h
    rw [stepB_eq h.1, pathB_eq h.2]
  | [], _ :: _, h => by simp [pathB] at h
  | _ :: _, [], h => by simp [pathB] at h
theorem cond_some {b : Bool} {x : Option R} {r : R} (h : cond b x none = some r) : b = true ∧ x = some r := by
  cases b <;> simp_all

theorem SPat.take_some : (p : SPat) → {a : AVal} → {k : p.den → Option R} → {r : R} → p.take a k = some r → ∃ d, a = p.mk d ∧ k d = some r
  | .val t, a, k, r, h => by
    cases a with
    | data u d =>
      simp only [SPat.take] at h
      replace h := castK_some h
      obtain ⟨rfl, h⟩ := h
      exact ⟨d, rfl, h⟩
    | _ => simp [SPat.take] at h
  | .nilS, a, k, r, h => by
    cases a with
    | nilS => exact ⟨(), rfl, h⟩
    | _ => simp [SPat.take] at h
  | .ref id, a, k, r, h => by
    cases a with
    | ref id' p ep =>
      cases p with
      | nil =>
        simp only [SPat.take] at h
        replace h := cond_some h
        obtain ⟨hb, h⟩ := h
        simp only [Bool.and_eq_true, nbeq] at hb
        obtain ⟨rfl, rfl⟩ := hb
        exact ⟨(), rfl, h⟩
      | cons s q => simp [SPat.take] at h
    | _ => simp [SPat.take] at h
  | .view id, a, k, r, h => by
    cases a with
    | view id' p ep x y =>
      cases p with
      | nil =>
        simp only [SPat.take] at h
        replace h := cond_some h
        obtain ⟨hb, h⟩ := h
        simp only [Bool.and_eq_true, nbeq] at hb
        obtain ⟨rfl, rfl⟩ := hb
        exact ⟨(x, y), rfl, h⟩
      | cons s q => simp [SPat.take] at h
    | _ => simp [SPat.take] at h
  | .bptr id p, a, k, r, h => by
    cases a with
    | bptr id' p' =>
      simp only [SPat.take] at h
      replace h := cond_some h
      obtain ⟨hb, h⟩ := h
      simp only [Bool.and_eq_true, nbeq] at hb
      obtain ⟨rfl, hb⟩ := hb
      obtain rfl := pathB_eq hb
      exact ⟨(), rfl, h⟩
    | _ => simp [SPat.take] at h
  | .mref id, a, k, r, h => by
    cases a with
    | mref id' =>
      simp only [SPat.take] at h
      replace h := cond_some h
      obtain ⟨hb, h⟩ := h
      simp only [nbeq] at hb
      subst hb
      exact ⟨(), rfl, h⟩
    | _ => simp [SPat.take] at h
  | .nv id, a, k, r, h => by
    cases a with
    | nv pt id' p ep =>
      cases pt with
      | true => simp [SPat.take] at h
      | false =>
        cases p with
        | nil =>
          simp only [SPat.take] at h
          replace h := cond_some h
          obtain ⟨hb, h⟩ := h
          simp only [Bool.and_eq_true, nbeq] at hb
          obtain ⟨rfl, rfl⟩ := hb
          exact ⟨(), rfl, h⟩
        | cons s q => simp [SPat.take] at h
    | _ => simp [SPat.take] at h
  | .nvi id, a, k, r, h => by
    cases a with
    | nv pt id' p ep =>
      cases pt with
      | true => simp [SPat.take] at h
      | false =>
        cases p with
        | nil => simp [SPat.take] at h
        | cons s q =>
          cases q with
          | cons s' q' => cases s <;> simp [SPat.take] at h
          | nil =>
            cases s with
            | fst => simp [SPat.take] at h
            | snd => simp [SPat.take] at h
            | idx i =>
              simp only [SPat.take] at h
              replace h := cond_some h
              obtain ⟨hb, h⟩ := h
              simp only [Bool.and_eq_true, nbeq] at hb
              obtain ⟨rfl, rfl⟩ := hb
              exact ⟨i, rfl, h⟩
    | _ => simp [SPat.take] at h
  | .clos f c, a, k, r, h => by
    cases a with
    | clos g d =>
      simp only [SPat.take] at h
      replace h := cond_some h
      obtain ⟨hb, h⟩ := h
      simp only [nbeq] at hb
      subst hb
      replace h := SPat.take_some c h
      obtain ⟨d', rfl, h⟩ := h
      exact ⟨d', rfl, h⟩
    | _ => simp [SPat.take] at h
  | .agg c, a, k, r, h => by
    cases a with
    | agg d =>
      simp only [SPat.take] at h
      replace h := SPat.take_some c h
      obtain ⟨d', rfl, h⟩ := h
      exact ⟨d', rfl, h⟩
    | _ => simp [SPat.take] at h
  | .pr p q, a, k, r, h => by
    cases a with
    | pr x y =>
      simp only [SPat.take] at h
      replace h := SPat.take_some p h
      obtain ⟨d, rfl, h⟩ := h
      replace h := SPat.take_some q h
      obtain ⟨e, rfl, h⟩ := h
      exact ⟨(d, e), rfl, h⟩
    | _ => simp [SPat.take] at h
  | .un, a, k, r, h => by
    cases a with
    | un => exact ⟨(), rfl, h⟩
    | _ => simp [SPat.take] at h

inductive SObj where
  | row (t : Ty) | cell (p : SPat) | map (kt vt : Ty) | nest (t : Ty)
@[reducible] def SObj.den : SObj → Type
  | .row t => List t.den
  | .cell p => p.den
  | .map kt vt => List (kt.den × vt.den)
  | .nest t => List t.den
def SObj.mk : (o : SObj) → o.den → Obj
  | .row t, l => .row t l 0
  | .cell p, d => .cell (p.mk d)
  | .map kt vt, m => .map kt vt m
  | .nest t, l => .nest t l 0 0 none
def castM (kt vt kt' vt' : Ty) (m : List (kt.den × vt.den)) (k : List (kt'.den × vt'.den) → Option R) : Option R :=
  match Ty.same kt kt', Ty.same vt vt' with
  | some h, some h' => k (cast (by rw [h.down, h'.down]) m)
  | _, _ => none
def SObj.take : (o : SObj) → Obj → (o.den → Option R) → Option R
  | .row t, .row u l ep, k => cond (Nat.beq ep 0) (castK (.sl true u) (.sl true t) l k) none
  | .cell p, .cell a, k => p.take a k
  | .map kt vt, .map kt' vt' m, k => castM kt' vt' kt vt m k
  | .nest t, .nest u l e i none, k => cond (Nat.beq e 0 && Nat.beq i 0) (castK (.sl true u) (.sl true t) l k) none
  | _, _, _ => none
theorem SObj.take_some (o : SObj) {x : Obj} {k : o.den → Option R} {r : R} (h : o.take x k = some r) : ∃ d, x = o.mk d ∧ k d = some r := by
  cases o with
  | row t =>
    cases x with
    | row u l ep =>
      simp only [SObj.take] at h
      replace h := cond_some h
      obtain ⟨hb, h⟩ := h
      simp only [nbeq] at hb
      subst hb
      replace h := castK_some h
      obtain ⟨he, h⟩ := h
      simp only [Ty.sl.injEq, true_and] at he
      subst he
      exact ⟨l, rfl, h⟩
    | _ => simp [SObj.take] at h
  | cell p =>
    cases x with
    | cell a =>
      simp only [SObj.take] at h
      replace h := SPat.take_some p h
      obtain ⟨d, rfl, h⟩ := h
      exact ⟨d, rfl, h⟩
    | _ => simp [SObj.take] at h
  | map kt vt =>
    cases x with
    | map kt' vt' m =>
      simp only [SObj.take, castM] at h
      split at h
      · rename_i h1 h2 _ _
        obtain rfl := h1.down
        obtain rfl := h2.down
        exact ⟨m, rfl, h⟩
      · simp at h
    | _ => simp [SObj.take] at h
  | nest t =>
    cases x with
    | nest u l e i hole =>
      cases hole with
      | some p => simp [SObj.take] at h
      | none =>
        simp only [SObj.take] at h
        replace h := cond_some h
        obtain ⟨hb, h⟩ := h
        simp only [Bool.and_eq_true, nbeq] at hb
        obtain ⟨rfl, rfl⟩ := hb
        replace h := castK_some h
        obtain ⟨he, h⟩ := h
        simp only [Ty.sl.injEq, true_and] at he
        subst he
        exact ⟨l, rfl, h⟩
    | _ => simp [SObj.take] at h

/-- The form of a state. -/
structure SForm where
  slots : List (Nat × SPat)
  objs : List SObj
@[reducible] def slDen : List (Nat × SPat) → Type
  | [] => Unit
  | (_, p) :: l => p.den × slDen l
@[reducible] def osDen : List SObj → Type
  | [] => Unit
  | o :: l => o.den × osDen l
@[reducible] def SForm.den (f : SForm) : Type := slDen f.slots × osDen f.objs
def slMk : (l : List (Nat × SPat)) → slDen l → List (Nat × AVal)
  | [], _ => []
  | (i, p) :: l, d => (i, p.mk d.1) :: slMk l d.2
def osMk : (l : List SObj) → osDen l → List Obj
  | [], _ => []
  | o :: l, d => o.mk d.1 :: osMk l d.2
def slTake : (l : List (Nat × SPat)) → List (Nat × AVal) → (slDen l → Option R) → Option R
  | [], [], k => k ()
  | (i, p) :: l, (j, a) :: m, k => cond (Nat.beq i j) (p.take a fun d => slTake l m fun e => k (d, e)) none
  | _, _, _ => none
def osTake : (l : List SObj) → List Obj → (osDen l → Option R) → Option R
  | [], [], k => k ()
  | o :: l, x :: m, k => o.take x fun d => osTake l m fun e => k (d, e)
  | _, _, _ => none
def SForm.take (f : SForm) (sl : List (Nat × AVal)) (os : List Obj) (k : f.den → Option R) : Option R :=
  slTake f.slots sl fun d => osTake f.objs os fun e => k (d, e)
theorem slTake_some : (l : List (Nat × SPat)) → {m : List (Nat × AVal)} → {k : slDen l → Option R} → {r : R} → slTake l m k = some r → ∃ d, m = slMk l d ∧ k d = some r
  | [], [], k, r, h => ⟨(), rfl, h⟩
  | [], _ :: _, k, r, h => by simp [slTake] at h
  | _ :: _, [], k, r, h => by simp [slTake] at h
  | (i, p) :: l, (j, a) :: m, k, r, h => by
    simp only [slTake] at h
    replace h := cond_some h
    obtain ⟨hb, h⟩ := h
    simp only [nbeq] at hb
    subst hb
    replace h := SPat.take_some p h
    obtain ⟨d, rfl, h⟩ := h
    replace h := slTake_some l h
    obtain ⟨e, rfl, h⟩ := h
    exact ⟨(d, e), rfl, h⟩
theorem osTake_some : (l : List SObj) → {m : List Obj} → {k : osDen l → Option R} → {r : R} → osTake l m k = some r → ∃ d, m = osMk l d ∧ k d = some r
  | [], [], k, r, h => ⟨(), rfl, h⟩
  | [], _ :: _, k, r, h => by simp [osTake] at h
  | _ :: _, [], k, r, h => by simp [osTake] at h
  | o :: l, x :: m, k, r, h => by
    simp only [osTake] at h
    replace h := SObj.take_some o h
    obtain ⟨d, rfl, h⟩ := h
    replace h := osTake_some l h
    obtain ⟨e, rfl, h⟩ := h
    exact ⟨(d, e), rfl, h⟩

/-! ## Loops -/

/-- Rounds of a loop, at most n. -/
def iter {α : Type} (Body : (α → Option R) → α → Option R) : Nat → α → Option R
  | 0, _ => none
  | n + 1, x => Body (iter Body n) x

/-- Where a round of a loop leads. -/
def kLoop (c : Ctx) (r : Nat) (lv : Cut) (kb : List (Nat × AVal) → List Obj → Option R) (k : AExit → St → Option R) : AExit → St → Option R
  | .normal, σ => normL lv σ kb
  | e, σ => kExit c r k e σ

theorem loop_eq {c : Ctx} {b : Code} {r : Nat} {lv : Cut} {α : Type} {st : α → List (Nat × AVal) × List Obj} {k : AExit → St → Option R} {Body : (α → Option R) → α → Option R}
    (hstep : ∀ (kb : List (Nat × AVal) → List Obj → Option R) (x : α), codeK c b (St.of (st x).1 (st x).2) (kLoop c r lv kb k) = Body (fun y => kb (st y).1 (st y).2) x) :
    ∀ (n : Nat) (x : α), loopN (codeK c b) lv n (st x).1 (st x).2 (kExit c r k) = iter Body n x
  | 0, x => rfl
  | n + 1, x => by
    have e : (fun e σ => match e with
        | .normal => normL lv σ fun sl os => loopN (codeK c b) lv n sl os (kExit c r k)
        | e => kExit c r k e σ) = kLoop c r lv (fun sl os => loopN (codeK c b) lv n sl os (kExit c r k)) k := by
      funext e σ
      cases e <;> rfl
    have h := hstep (fun sl os => loopN (codeK c b) lv n sl os (kExit c r k)) x
    simp only [loopN, iter]
    refine (congrArg (codeK c b (St.of (st x).1 (st x).2)) e).trans (h.trans ?_)
    congr 1
    funext y
    exact loop_eq hstep n y

/-- What is to be shown of a loop that is called by name. -/
theorem loop_mk {c : Ctx} {b : Code} {r : Nat} {lv : Cut} {f : SForm} (F : (R : Type) → f.den → (AExit → St → Option R) → Option R) (hr : firstRegion b = some r) (hlv : c.cut r = some lv)
    (hL : c.lp r = some fun R sl os k => f.take sl os fun d => F R d k)
    (h : ∀ (R : Type) (k : AExit → St → Option R) (d : f.den), loopN (codeK c b) lv c.fuel (slMk f.slots d.1) (osMk f.objs d.2) (kExit c r k) = F R d k) : LoopOK c b := by
  intro r' lv' L hr' hlv' hL' R sl os k x hx
  rw [hr] at hr'
  simp only [Option.some.injEq] at hr'
  subst hr'
  rw [hlv] at hlv'
  simp only [Option.some.injEq] at hlv'
  subst hlv'
  rw [hL] at hL'
  simp only [Option.some.injEq] at hL'
  subst hL'
  replace hx := slTake_some f.slots hx
  obtain ⟨d, rfl, hx⟩ := hx
  replace hx := osTake_some f.objs hx
  obtain ⟨e, rfl, hx⟩ := hx
  rw [h R k (d, e)]
  exact hx

/-! ## Tables -/

theorem env_nil {P : Program} : EnvOK P fun f => ((getL ([] : List (Nat × List Callee)) f).getD []) := by
  intro f c h; simp [getL] at h
theorem env_cons {P : Program} {f : Nat} {cs : List Callee} {l : List (Nat × List Callee)} (h : ∀ c ∈ cs, CalleeOK P f c) (hl : EnvOK P fun f => (getL l f).getD []) : EnvOK P fun g => (getL ((f, cs) :: l) g).getD [] := by
  intro g c hc
  simp only [getL] at hc
  cases hb : Nat.beq f g with
  | true =>
    rw [hb] at hc
    have := Nat.eq_of_beq_eq_true hb
    subst this
    exact h c hc
  | false => rw [hb] at hc; exact hl g c hc

def mtB (P : Program) : List (Nat × Ty × Ty) → Bool
  | [] => true
  | (T, kt, vt) :: l => (match P.underlying T with
    | some (.map K E) => tyB P kt K && tyB P vt E && (match P.info? E with
      | some i => (match i.zero with
        | some z => (match vt.sk.isAgg, z with
          | true, .agg _ => true
          | false, .int _ _ => true
          | false, .bool _ => true
          | false, .string _ => true
          | _, _ => false)
        | none => false)
      | none => false)
    | _ => false) && mtB P l
theorem mtB_ok {P : Program} : {l : List (Nat × Ty × Ty)} → mtB P l = true → MtOK P (getL l)
  | [], _, _, _, _, h => by simp [getL] at h
  | (T, kt, vt) :: l, hb, T', kt', vt', h => by
    simp only [mtB, Bool.and_eq_true] at hb
    simp only [getL] at h
    cases he : Nat.beq T T' with
    | false => rw [he] at h; exact mtB_ok hb.2 T' kt' vt' h
    | true =>
      rw [he] at h
      simp only [cond_true, Option.some.injEq, Prod.mk.injEq] at h
      obtain ⟨rfl, rfl⟩ := h
      obtain rfl := Nat.eq_of_beq_eq_true he
      have h1 := hb.1
      split at h1
      · rename_i K E hu
        simp only [Bool.and_eq_true] at h1
        refine ⟨K, E, hu, tyB_ok h1.1.1, tyB_ok h1.1.2, ?_⟩
        have h2 := h1.2
        split at h2
        · rename_i i hi
          split at h2
          · rename_i z hz
            refine ⟨i, z, hi, hz, ?_⟩
            split at h2
            · rename_i hag; rw [hag]; simp [mkV, Value.cells]
            · rename_i hag; rw [hag]; simp [mkV, Value.cells]
            · rename_i hag; rw [hag]; simp [mkV, Value.cells]
            · rename_i hag; rw [hag]; simp [mkV, Value.cells]
            · simp at h2
          · simp at h2
        · simp at h2
      · simp at h1

/-! ## Words of the generated texts -/
@[reducible] def wi8 (n : Int) : Int := IntKind.i8.wrap n
@[reducible] def wi16 (n : Int) : Int := IntKind.i16.wrap n
@[reducible] def wi32 (n : Int) : Int := IntKind.i32.wrap n
@[reducible] def wi64 (n : Int) : Int := IntKind.i64.wrap n
@[reducible] def wu8 (n : Int) : Int := IntKind.u8.wrap n
@[reducible] def wu16 (n : Int) : Int := IntKind.u16.wrap n
@[reducible] def wu32 (n : Int) : Int := IntKind.u32.wrap n
@[reducible] def wu64 (n : Int) : Int := IntKind.u64.wrap n
@[reducible] def len {α : Type} (l : List α) : Int := (l.length : Int)

theorem forall_mem1 {p : Callee → Prop} {a : Callee} (h : p a) : ∀ c ∈ [a], p c := by
  intro c hc; simp only [List.mem_singleton] at hc; subst hc; exact h
theorem forall_mem2 {p : Callee → Prop} {a b : Callee} (h : p a) (k : p b) : ∀ c ∈ [a, b], p c := by
  intro c hc; simp only [List.mem_cons, List.not_mem_nil, or_false] at hc; rcases hc with rfl | rfl <;> assumption
theorem forall_mem3 {p : Callee → Prop} {a b d : Callee} (h : p a) (k : p b) (l : p d) : ∀ c ∈ [a, b, d], p c := by
  intro c hc; simp only [List.mem_cons, List.not_mem_nil, or_false] at hc; rcases hc with rfl | rfl | rfl <;> assumption
theorem forall_mem4 {p : Callee → Prop} {a b d e : Callee} (h : p a) (k : p b) (l : p d) (m : p e) : ∀ c ∈ [a, b, d, e], p c := by
  intro c hc; simp only [List.mem_cons, List.not_mem_nil, or_false] at hc; rcases hc with rfl | rfl | rfl | rfl <;> assumption

inductive AllL (p : Code → Prop) : List Code → Prop
  | nil : AllL p []
  | cons {b : Code} {l : List Code} (h : p b) (t : AllL p l) : AllL p (b :: l)
theorem AllL.mem {p : Code → Prop} {l : List Code} (h : AllL p l) : ∀ b ∈ l, p b := by
  induction h with
  | nil => intro b hb; simp at hb
  | cons h t ih =>
    intro b hb
    rcases List.mem_cons.1 hb with rfl | hb
    · exact h
    · exact ih b hb
theorem loops_ok {c : Ctx} {b : Code} {l : List Code} (h : loopsOf b = l) (hs : AllL (LoopOK c) l) : ∀ b' ∈ loopsOf b, LoopOK c b' := by
  rw [h]; exact hs.mem

end Go.Kz
