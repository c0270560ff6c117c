/-
  A symbolic interpreter over the model's Code: definitions only (no proof).
  Abstract values are typed data (lists, numbers, pairs) or references to objects that the running function owns.
-/
import Derived.WalkKit
import Derived.ProofKit
set_option linter.unusedVariables false
set_option linter.unusedSimpArgs false
namespace Go.Kz

/-! ## Type codes -/

inductive Ty where
  | int (k : IntKind) | bool | str | unit
  | pair (a b : Ty) | arr (n : Nat) (t : Ty) | sl (own : Bool) (t : Ty) | ptr (t : Ty) | fn (f : Nat) (c : Ty)

@[reducible] def Ty.den : Ty → Type
  | .int _ => Int
  | .bool => Bool
  | .str => List UInt8
  | .unit => Unit
  | .pair a b => a.den × b.den
  | .arr _ t => List t.den
  | .sl _ t => List t.den
  | .ptr t => t.den
  | .fn _ c => c.den

def Ty.same : (a b : Ty) → Option (PLift (a = b))
  | .int k, .int j => if h : k = j then some ⟨by rw [h]⟩ else none
  | .bool, .bool => some ⟨rfl⟩
  | .str, .str => some ⟨rfl⟩
  | .unit, .unit => some ⟨rfl⟩
  | .pair a b, .pair c d =>
    match Ty.same a c with
    | some h => match Ty.same b d with
      | some h' => some ⟨by rw [h.down, h'.down]⟩
      | none => none
    | none => none
  | .arr n t, .arr m u => if h : n = m then match Ty.same t u with
      | some h' => some ⟨by rw [h, h'.down]⟩
      | none => none
    else none
  | .sl o t, .sl p u => if h : o = p then match Ty.same t u with
      | some h' => some ⟨by rw [h, h'.down]⟩
      | none => none
    else none
  | .ptr t, .ptr u => match Ty.same t u with
      | some h' => some ⟨by rw [h'.down]⟩
      | none => none
  | .fn f c, .fn g d => if h : f = g then match Ty.same c d with
      | some h' => some ⟨by rw [h, h'.down]⟩
      | none => none
    else none
  | _, _ => none

/-- The number of cells. -/
def Ty.size : Ty → Nat
  | .unit => 0
  | .pair a b => a.size + b.size
  | .arr n t => n * t.size
  | _ => 1

/-- The same type with every slice read-only. -/
def Ty.ro : Ty → Ty
  | .sl _ t => .sl false t.ro
  | .pair a b => .pair a.ro b.ro
  | .arr n t => .arr n t.ro
  | .ptr t => .ptr t.ro
  | .fn f c => .fn f c.ro
  | t => t

theorem Ty.den_ro : (t : Ty) → t.ro.den = t.den
  | .int _ => rfl
  | .bool => rfl
  | .str => rfl
  | .unit => rfl
  | .pair a b => by simp only [Ty.ro, Ty.den, Ty.den_ro a, Ty.den_ro b]
  | .arr _ t => by simp only [Ty.ro, Ty.den, Ty.den_ro t]
  | .sl _ t => by simp only [Ty.ro, Ty.den, Ty.den_ro t]
  | .ptr t => by simp only [Ty.ro, Ty.den, Ty.den_ro t]
  | .fn _ c => by simp only [Ty.ro, Ty.den, Ty.den_ro c]

def Ty.toRo (t : Ty) (d : t.den) : t.ro.den := cast (Ty.den_ro t).symm d

def Ty.isRo : Ty → Bool
  | .sl o t => !o && t.isRo
  | .pair a b => a.isRo && b.isRo
  | .arr _ t => t.isRo
  | .ptr t => t.isRo
  | .fn _ c => c.isRo
  | _ => true

def Ty.zero : (t : Ty) → Option t.den
  | .int _ => some (0 : Int)
  | .bool => some false
  | .str => some ([] : List UInt8)
  | .unit => some ()
  | .pair a b => match a.zero, b.zero with
    | some x, some y => some (x, y)
    | _, _ => none
  | .arr n t => match t.zero with
    | some x => some (List.replicate n x)
    | none => none
  | .sl _ t => some ([] : List t.den)
  | _ => none

/-- The layout alone. -/
inductive Sk where
  | leaf | unit | pair (a b : Sk) | arr (n : Nat) (t : Sk)
def Sk.size : Sk → Nat
  | .leaf => 1
  | .unit => 0
  | .pair a b => a.size + b.size
  | .arr n t => n * t.size
def Sk.same : Sk → Sk → Bool
  | .leaf, .leaf => true
  | .unit, .unit => true
  | .pair a b, .pair c d => a.same c && b.same d
  | .arr n t, .arr m u => Nat.beq n m && t.same u
  | _, _ => false
def Sk.isAgg : Sk → Bool
  | .leaf => false
  | _ => true
def Ty.sk : Ty → Sk
  | .unit => .unit
  | .pair a b => .pair a.sk b.sk
  | .arr n t => .arr n t.sk
  | _ => .leaf
/-- No slice anywhere. -/
def Ty.noSl : Ty → Bool
  | .sl _ _ => false
  | .pair a b => a.noSl && b.noSl
  | .arr _ t => t.noSl
  | .ptr _ | .fn _ _ => false
  | _ => true

inductive Step where
  | fst | snd | idx (i : Int)
abbrev Path := List Step

/-! ## What the operations compute -/

def idx {α : Type} (l : List α) : Int → Option α
  | .ofNat n => l[n]?
  | .negSucc _ => none
def setI {α : Type} (l : List α) (i : Int) (x : α) : List α := l.set i.toNat x
def inb {α : Type} (l : List α) (i : Int) : Bool := decide (0 ≤ i) && decide (i < (l.length : Int))
def chk {R : Type} (b : Bool) (x : Option R) : Option R := cond b x none
/-- The greatest length of a list that the interpreter lets be made. -/
def room : Nat := 4294967296
def sub {α : Type} (l : List α) (a b : Int) : List α := (l.drop a.toNat).take (b.toNat - a.toNat)

variable {R : Type}

def castK (a b : Ty) (d : a.den) (k : b.den → Option R) : Option R :=
  match Ty.same a b with
  | some h => k (cast (congrArg Ty.den h.down) d)
  | none => none

def getK : (t : Ty) → t.den → Path → ((u : Ty) → u.den → Option R) → Option R
  | .pair a _, (x, _), .fst :: p, k => getK a x p k
  | .pair _ b, (_, y), .snd :: p, k => getK b y p k
  | .arr _ t, l, .idx i :: p, k => (idx l i).bind fun x => getK t x p k
  | .sl true t, l, .idx i :: p, k => (idx l i).bind fun x => getK t x p k
  | t, d, [], k => k t d
  | _, _, _ :: _, _ => none

def setK : (t : Ty) → t.den → Path → (u : Ty) → u.den → (t.den → Option R) → Option R
  | .pair a _, (x, y), .fst :: p, u, e, k => setK a x p u e fun x' => k (x', y)
  | .pair _ b, (x, y), .snd :: p, u, e, k => setK b y p u e fun y' => k (x, y')
  | .arr _ t, l, .idx i :: p, u, e, k => (idx l i).bind fun x => setK t x p u e fun x' => k (setI l i x')
  | .sl true t, l, .idx i :: p, u, e, k => (idx l i).bind fun x => setK t x p u e fun x' => k (setI l i x')
  | t, _, [], u, e, k => castK u t e k
  | _, _, _ :: _, _, _, _ => none


/-! ## Abstract values, objects, states -/

inductive AVal where
  | data (t : Ty) (d : t.den)
  | nilS
  | ref (id : Nat) (p : Path) (ep : Nat)
  | view (id : Nat) (p : Path) (ep : Nat) (a b : Int)
  | bptr (id : Nat) (p : Path)
  | eptr (id : Nat) (p : Path) (ep : Nat)
  | mref (id : Nat)
  | nv (pt : Bool) (id : Nat) (p : Path) (ep : Nat)
  | clos (f : Nat) (c : AVal)
  | agg (c : AVal)
  | tup (c : AVal)
  | pr (a b : AVal)
  | un

def AVal.sk : AVal → Sk
  | .data t _ => t.sk
  | .agg c => c.sk
  | .pr a b => .pair a.sk b.sk
  | .un => .unit
  | _ => .leaf

/-- What the running function owns: a row of a slice; a variable in memory; a map; a row of rows (`e` counts what the row itself becomes, `i` what its rows become; `hole`: one of its rows is elsewhere). -/
inductive Obj where
  | row (t : Ty) (l : List t.den) (ep : Nat)
  | cell (a : AVal)
  | map (kt vt : Ty) (m : List (kt.den × vt.den))
  | nest (t : Ty) (l : List t.den) (e i : Nat) (hole : Option Path)

structure St where
  slots : Nat → Option AVal
  objs : Nat → Option Obj
  next : Nat

def upd {α : Type} (f : Nat → Option α) (i : Nat) (v : Option α) : Nat → Option α := fun j => cond (Nat.beq j i) v (f j)
def St.set (σ : St) (i : Nat) (v : AVal) : St := { σ with slots := upd σ.slots i (some v) }
def St.unset (σ : St) : Option Nat → St
  | some i => { σ with slots := upd σ.slots i none }
  | none => σ
def St.setObj (σ : St) (i : Nat) (o : Obj) : St := { σ with objs := upd σ.objs i (some o) }
def St.kill (σ : St) (i : Nat) : St := { σ with objs := upd σ.objs i none }

/-- Fields of data, each by itself. -/
def splitC : (t : Ty) → t.den → AVal
  | .pair a b, (x, y) => .pr (.data a x) (splitC b y)
  | _, _ => .un

/-- A part of a value. -/
def getA : AVal → Path → (AVal → Option R) → Option R
  | a, [], k => k a
  | .agg c, s :: p, k => getA c (s :: p) k
  | .pr a _, .fst :: p, k => getA a p k
  | .pr _ b, .snd :: p, k => getA b p k
  | .data t d, s :: p, k => getK t d (s :: p) fun u e => k (.data u e)
  | _, _, _ => none

def tyAt : Ty → Path → Option Ty
  | t, [] => some t
  | .pair a _, .fst :: p => tyAt a p
  | .pair _ b, .snd :: p => tyAt b p
  | .arr _ t, .idx _ :: p => tyAt t p
  | _, _ => none

/-- Does a new part fit where data stands as data? -/
def fitsAt (t : Ty) (p : Path) : AVal → Bool
  | .data u _ => match tyAt t p with
    | some v => (Ty.same v u).isSome
    | none => false
  | _ => false

/-- A value with another part, where the whole is data and the part is not data of its kind: along fields. -/
def setSplit (new : AVal) : (t : Ty) → t.den → Path → (AVal → Option R) → Option R
  | .pair a b, (x, y), [.fst], k => k (.pr new (splitC b y))
  | .pair a b, (x, y), .fst :: s :: p, k => setSplit new a x (s :: p) fun u => k (.pr (.agg u) (splitC b y))
  | .pair a b, (x, y), .snd :: p, k => setSplit new b y p fun u => k (.pr (.data a x) u)
  | _, _, _, _ => none

def setFit (new : AVal) (t : Ty) (d : t.den) (p : Path) (k : AVal → Option R) : Option R := match new with
  | .data u e => setK t d p u e fun d => k (.data t d)
  | _ => none
def setA (new : AVal) : AVal → Path → (AVal → Option R) → Option R
  | _, [], k => k new
  | .agg c, s :: p, k => setA new c (s :: p) fun c => k (.agg c)
  | .pr a b, .fst :: p, k => setA new a p fun a => k (.pr a b)
  | .pr a b, .snd :: p, k => setA new b p fun b => k (.pr a b)
  | .data t d, s :: p, k => cond (fitsAt t (s :: p) new) (setFit new t d (s :: p) k)
      (setSplit new t d (s :: p) fun u => cond (u.sk.same t.sk) (k (.agg u)) none)
  | _, _, _ => none

/-- The content of a row at a path that is not empty. -/
def rowK (t : Ty) (l : List t.den) (p : Path) (k : (u : Ty) → u.den → Option R) : Option R := getK (.sl true t) l p k

/-- The elements of a slice that is owned, where the reference still holds. -/
def fetchK (σ : St) (id : Nat) (p : Path) (ep : Nat) (k : (u : Ty) → List u.den → Option R) : Option R :=
  match σ.objs id with
  | some (.row t l e) => cond (Nat.beq e ep) (rowK t l p fun u d => match u, d with
    | .sl true v, l => k v l
    | _, _ => none) none
  | _ => none
/-- An element, or a part of one. -/
def efetchK (σ : St) (id : Nat) (p : Path) (ep : Nat) (k : (u : Ty) → u.den → Option R) : Option R :=
  match σ.objs id with
  | some (.row t l e) => cond (Nat.beq e ep) (rowK t l p k) none
  | _ => none
/-- A variable's content, or a part of it. -/
def bfetchK (σ : St) (id : Nat) (p : Path) (k : AVal → Option R) : Option R :=
  match σ.objs id with
  | some (.cell a) => getA a p k
  | _ => none

/-- Which count a reference into a row of rows goes by. -/
def nep : Bool → Path → Nat → Nat → Nat
  | false, [], e, _ => e
  | _, _, _, i => i
/-- What a reference into a row of rows leads to. -/
def nfetchK (σ : St) (pt : Bool) (id : Nat) (p : Path) (ep : Nat) (k : (u : Ty) → u.den → Option R) : Option R :=
  match σ.objs id with
  | some (.nest t l e i none) => cond (Nat.beq (nep pt p e i) ep) (rowK t l p k) none
  | _ => none
/-- The row itself, or one of its rows. -/
def nrowK (σ : St) (id : Nat) (p : Path) (ep : Nat) (k : (v : Ty) → List v.den → Option R) : Option R :=
  nfetchK σ false id p ep fun u d => match u, d with
    | .sl true v, l => k v l
    | _, _ => none

def nilK : (t : Ty) → (t.den → Option R) → Option R
  | .sl _ _, k => k []
  | _, _ => none

/-- An abstract value read as (read-only) data of a type. -/
def asData (σ : St) : Nat → (a : AVal) → (t : Ty) → (t.den → Option R) → Option R
  | 0, _, _, _ => none
  | _ + 1, .data t' d, t, k => castK t' t d k
  | _ + 1, .nilS, t, k => cond t.isRo (nilK t k) none
  | _ + 1, .ref id p ep, t, k => fetchK σ id p ep fun v l => castK (Ty.ro (.sl false v)) t (Ty.toRo (.sl false v) l) k
  | _ + 1, .view id p ep a b, t, k => fetchK σ id p ep fun v l => castK (Ty.ro (.sl false v)) t (Ty.toRo (.sl false v) (sub l a b)) k
  | _ + 1, .nv false id p ep, t, k => nrowK σ id p ep fun v l => castK (Ty.ro (.sl false v)) t (Ty.toRo (.sl false v) l) k
  | n + 1, .bptr id p, .ptr t, k => bfetchK σ id p fun a => asData σ n a t k
  | _ + 1, .eptr id p ep, .ptr t, k => efetchK σ id p ep fun u d => castK u.ro t (Ty.toRo u d) k
  | n + 1, .clos f c, .fn g t, k => cond (Nat.beq f g) (asData σ n c t k) none
  | n + 1, .agg c, t, k => asData σ n c t k
  | n + 1, .pr a b, .pair t u, k => asData σ n a t fun x => asData σ n b u fun y => k (x, y)
  | _ + 1, .un, .unit, k => k ()
  | _ + 1, _, _, _ => none

/-- An abstract value handed over as content of a type: what is owned moves, or is read-only from now on. -/
def give : Nat → (a : AVal) → (u : Ty) → St → (u.den → St → Option R) → Option R
  | 0, _, _, _, _ => none
  | _ + 1, .data t d, u, σ, k => castK t u d fun d => k d σ
  | _ + 1, .nilS, u, σ, k => nilK u fun d => k d σ
  | _ + 1, .ref id [] ep, u, σ, k =>
    match σ.objs id with
    | some (.row t l e) => cond (Nat.beq e ep)
      (match u, k with
        | .sl true v, k => castK (.sl true t) (.sl true v) l fun d => k d (σ.kill id)
        | .sl false v, k => castK (Ty.ro (.sl false t)) (.sl false v) (Ty.toRo (.sl false t) l) fun d => k d (σ.kill id)
        | _, _ => none) none
    | _ => none
  | _ + 1, .nv false id [] ep, u, σ, k =>
    match σ.objs id with
    | some (.nest t l e _ none) => cond (Nat.beq e ep)
      (match u, k with
        | .sl false v, k => castK (Ty.ro (.sl false t)) (.sl false v) (Ty.toRo (.sl false t) l) fun d => k d (σ.kill id)
        | _, _ => none) none
    | _ => none
  | n + 1, .bptr id [], .ptr u, σ, k =>
    match σ.objs id with
    | some (.cell a) => give n a u (σ.kill id) k
    | _ => none
  | n + 1, .clos f c, .fn g t, σ, k => cond (Nat.beq f g) (give n c t σ k) none
  | n + 1, .agg c, u, σ, k => give n c u σ k
  | n + 1, .pr a b, .pair t u, σ, k => give n a t σ fun x σ => give n b u σ fun y σ => k (x, y) σ
  | _ + 1, .un, .unit, σ, k => k () σ
  | _ + 1, _, _, _, _ => none

/-- The value of a new variable; and of the rest of a struct's fields. -/
def zeroAC : Ty → Option AVal × Option AVal
  | .sl _ _ => (some .nilS, none)
  | .unit => (match (Ty.unit).zero, (Ty.unit).noSl with
    | some z, true => some (.data .unit z)
    | _, _ => none, some .un)
  | .pair a b =>
    let c := match (zeroAC a).1, (zeroAC b).2 with
      | some x, some y => some (.pr x y)
      | _, _ => none
    (match Ty.zero (.pair a b), (Ty.pair a b).noSl with
    | some z, true => some (.data (.pair a b) z)
    | _, _ => c.map .agg, c)
  | t => (match t.zero, t.noSl with
    | some z, true => some (.data t z)
    | _, _ => none, none)
def zeroA (t : Ty) : Option AVal := (zeroAC t).1
def zeroC (t : Ty) : Option AVal := (zeroAC t).2

/-- A place read: data where nothing is owned, else references and parts. -/
def expand (mk : Path → AVal) : (t : Ty) → t.den → Path → Option AVal
  | .sl true _, _, p => some (mk p)
  | .pair a b, (x, y), p => cond (Ty.isRo (.pair a b)) (some (.data (.pair a b) (x, y)))
    (match expand mk a x (p ++ [.fst]), expandC mk b y (p ++ [.snd]) with
      | some u, some v => some (.agg (.pr u v))
      | _, _ => none)
  | t, d, _ => cond t.isRo (some (.data t d)) none
where expandC (mk : Path → AVal) : (t : Ty) → t.den → Path → Option AVal
  | .unit, _, _ => some .un
  | .pair a b, (x, y), p => match expand mk a x (p ++ [.fst]), expandC mk b y (p ++ [.snd]) with
    | some u, some v => some (.pr u v)
    | _, _ => none
  | _, _, _ => none

/-- A call's result as an abstract value, with the new objects that it brings. -/
def expose : (t : Ty) → t.den → Nat → AVal × List Obj
  | .sl true t, l, n => (.ref n [] 0, [.row t l 0])
  | .pair a b, (x, y), n =>
    cond (Ty.isRo (.pair a b)) (.data (.pair a b) (x, y), [])
      (let u := expose a x n
       let v := exposeC b y (n + u.2.length)
       (.agg (.pr u.1 v.1), u.2 ++ v.2))
  | t, d, _ => (.data t d, [])
where exposeC : (t : Ty) → t.den → Nat → AVal × List Obj
  | .pair a b, (x, y), n =>
      (let u := expose a x n
       let v := exposeC b y (n + u.2.length)
       (.pr u.1 v.1, u.2 ++ v.2))
  | _, _, _ => (.un, [])

end Go.Kz
