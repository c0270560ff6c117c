/-
  The symbolic interpreter, second part: operations, regions, code, calls. Definitions only.
-/
import Derived.Test.YtakifbcgkbfclaaKzA
set_option linter.unusedVariables false
set_option linter.unusedSimpArgs false
namespace Go.Kz
variable {R : Type}

/-! ## Callees -/

inductive APat where
  | val (t : Ty) | ref (i : Nat) | bptr (i : Nat) | clos (f : Nat) (c : APat) | agg (c : APat) | pr (a b : APat) | un
@[reducible] def APat.den : APat → Type
  | .val t => t.den
  | .ref _ => Unit
  | .bptr _ => Unit
  | .clos _ c => c.den
  | .agg c => c.den
  | .pr a b => a.den × b.den
  | .un => Unit
/-- An object handed over: a row (`kept`: the slice itself stays as it is), a variable. -/
inductive OPat where
  | row (kept : Bool) (t : Ty) | cell (p : APat)
@[reducible] def OPat.den : OPat → Type
  | .row _ t => List t.den
  | .cell p => p.den
@[reducible] def objsDen : List OPat → Type
  | [] => Unit
  | o :: os => o.den × objsDen os
@[reducible] def resDen : List Ty → Type
  | [] => Unit
  | [t] => t.den
  | t :: u :: ts => t.den × resDen (u :: ts)

inductive Callee where
  | pure (args : APat) (res : List Ty) (F : args.den → Option (resDen res))
  | mut (args : APat) (objs : List OPat) (res : List Ty) (F : args.den → objsDen objs → Option (resDen res × objsDen objs))

def Callee.args : Callee → APat
  | .pure a _ _ => a
  | .mut a _ _ _ => a

/-- Does a value's form fit a pattern? (Among several forms of one function the first that fits is taken.) -/
def fits : APat → AVal → Bool
  | .val (.fn f _), .clos g _ => Nat.beq f g
  | .val (.fn f _), .data (.fn g _) _ => Nat.beq f g
  | .val t, .data u _ => (Ty.same t u).isSome
  | .clos f c, .clos g d => Nat.beq f g && fits c d
  | .agg c, .agg d => fits c d
  | .pr p q, .pr x y => fits p x && fits q y
  | _, _ => true
def pickC (a : AVal) : List Callee → Option Callee
  | [] => none
  | c :: l => cond (fits c.args a) (some c) (pickC a l)

abbrev Bnd := List (Nat × Nat)
def getL {α : Type} : List (Nat × α) → Nat → Option α
  | [], _ => none
  | (i, v) :: l, j => cond (Nat.beq i j) (some v) (getL l j)
def nthL {α : Type} : List α → Nat → Option α
  | [], _ => none
  | x :: _, 0 => some x
  | _ :: l, n + 1 => nthL l n
def hasVal : Bnd → Nat → Bool
  | [], _ => false
  | (_, v) :: l, x => cond (Nat.beq v x) true (hasVal l x)
/-- Place i stands for the object id: as it did, or from now on; no two places for one object. -/
def bind1 (b : Bnd) (i id : Nat) (k : Bnd → Option R) : Option R :=
  match getL b i with
  | some j => cond (Nat.beq j id) (k b) none
  | none => cond (hasVal b id) none (k ((i, id) :: b))

def matchArgs (σ : St) : (p : APat) → (a : AVal) → Bnd → (p.den → Bnd → Option R) → Option R
  | .val t, a, b, k => asData σ 20 a t fun d => k d b
  | .ref i, .ref id [] ep, b, k =>
    match σ.objs id with
    | some (.row _ _ e) => cond (Nat.beq e ep) (bind1 b i id fun b => k () b) none
    | _ => none
  | .bptr i, .bptr id [], b, k => bind1 b i id fun b => k () b
  | .clos f c, .clos g d, b, k => cond (Nat.beq f g) (matchArgs σ c d b k) none
  | .agg c, .agg d, b, k => matchArgs σ c d b k
  | .pr p q, .pr x y, b, k => matchArgs σ p x b fun dx b => matchArgs σ q y b fun dy b => k (dx, dy) b
  | .un, .un, b, k => k () b
  | _, _, _, _ => none

def matchObjs (σ : St) : (i : Nat) → (os : List OPat) → Bnd → (objsDen os → Bnd → Option R) → Option R
  | _, [], b, k => k () b
  | i, .cell p :: os, b, k =>
    match (getL b i).bind σ.objs with
    | some (.cell a) => matchArgs σ p a b fun d b => matchObjs σ (i + 1) os b fun ds b => k (d, ds) b
    | _ => none
  | i, .row _ t :: os, b, k =>
    match (getL b i).bind σ.objs with
    | some (.row u l _) => castK (.sl true u) (.sl true t) l fun l => matchObjs σ (i + 1) os b fun ds b => k (l, ds) b
    | _ => none

/-- A pattern with its data, as a value over the caller's objects. -/
def inst (σ : St) (b : Bnd) : (p : APat) → p.den → Option AVal
  | .val t, d => some (.data t d)
  | .ref i, _ => match getL b i with
    | some id => match σ.objs id with
      | some (.row _ _ e) => some (.ref id [] e)
      | _ => none
    | none => none
  | .bptr i, _ => (getL b i).map fun id => .bptr id []
  | .clos f c, d => (inst σ b c d).map fun a => .clos f a
  | .agg c, d => (inst σ b c d).map .agg
  | .pr p q, (x, y) => match inst σ b p x, inst σ b q y with
    | some a, some c => some (.pr a c)
    | _, _ => none
  | .un, _ => some .un

/-- The rows behind a call. -/
def putRows (σ : St) : (i : Nat) → (os : List OPat) → Bnd → objsDen os → Option St
  | _, [], _, _ => some σ
  | i, .row kept t :: os, b, (l, ds) =>
    match getL b i with
    | some id => match σ.objs id with
      | some (.row _ _ e) => putRows (σ.setObj id (.row t l (cond kept e (e + 1)))) (i + 1) os b ds
      | _ => none
    | none => none
  | i, .cell _ :: os, b, (_, ds) => putRows σ (i + 1) os b ds
/-- The variables behind a call (when the rows stand). -/
def putCells (σ : St) : (i : Nat) → (os : List OPat) → Bnd → objsDen os → Option St
  | _, [], _, _ => some σ
  | i, .row _ _ :: os, b, (_, ds) => putCells σ (i + 1) os b ds
  | i, .cell p :: os, b, (d, ds) =>
    match getL b i, inst σ b p d with
    | some id, some a => match σ.objs id with
      | some (.cell _) => putCells (σ.setObj id (.cell a)) (i + 1) os b ds
      | _ => none
    | _, _ => none

def St.addObjs (σ : St) (n : Nat) : List Obj → St
  | [] => σ
  | o :: os => (σ.setObj n o).addObjs (n + 1) os

/-- The results of a call: one value, or a tuple. -/
def exposeRes : (ts : List Ty) → resDen ts → Nat → AVal × List Obj
  | [], _, _ => (.tup .un, [])
  | [t], d, n => expose t d n
  | t :: u :: ts, (d, ds), n =>
    let x := expose t d n
    let y := chain (u :: ts) ds (n + x.2.length)
    (.tup (.pr x.1 y.1), x.2 ++ y.2)
where chain : (ts : List Ty) → resDen ts → Nat → AVal × List Obj
  | [], _, _ => (.un, [])
  | [t], d, n => let x := expose t d n; (.pr x.1 .un, x.2)
  | t :: u :: ts, (d, ds), n =>
    let x := expose t d n
    let y := chain (u :: ts) ds (n + x.2.length)
    (.pr x.1 y.1, x.2 ++ y.2)

/-! ## Cuts -/

inductive Conv where
  | row (t : Ty) | dat (t : Ty)
/-- What is kept at a cut: the slots, and what is first turned into another form (a slot, or a part of the variable that it points to). -/
structure Cut where
  live : List Nat
  conv : List (Nat × Option Path × Conv)

def AVal.ids : AVal → List Nat
  | .ref i _ _ | .view i _ _ _ _ | .bptr i _ | .eptr i _ _ | .mref i | .nv _ i _ _ => [i]
  | .clos _ c | .agg c | .tup c => c.ids
  | .pr a b => a.ids ++ b.ids
  | _ => []
/-- Numbered anew; a reference that no longer holds has no new form. -/
def AVal.ren (objs : Nat → Option Obj) (ρ : Nat → Option Nat) : AVal → Option AVal
  | .ref i p ep => match p, objs i with
    | [], some (.row _ _ e) => cond (Nat.beq e ep) ((ρ i).map fun j => .ref j [] 0) none
    | _, _ => none
  | .view i p ep a b => match p, objs i with
    | [], some (.row _ _ e) => cond (Nat.beq e ep) ((ρ i).map fun j => .view j [] 0 a b) none
    | _, _ => none
  | .bptr i p => (ρ i).map fun j => .bptr j p
  | .mref i => (ρ i).map fun j => .mref j
  | .nv pt i p ep => match pt, objs i with
    | false, some (.nest _ _ e i' none) => cond (Nat.beq (nep false p e i') ep) ((ρ i).map fun j => .nv false j p 0) none
    | _, _ => none
  | .clos f c => (c.ren objs ρ).map fun c => .clos f c
  | .agg c => (c.ren objs ρ).map fun c => .agg c
  | .pr a b => match a.ren objs ρ, b.ren objs ρ with
    | some a, some b => some (.pr a b)
    | _, _ => none
  | .un => some .un
  | .nilS => some .nilS
  | .data t d => some (.data t d)
  | _ => none
def Obj.ren (objs : Nat → Option Obj) (ρ : Nat → Option Nat) : Obj → Option Obj
  | .row t l _ => some (.row t l 0)
  | .cell a => (a.ren objs ρ).map .cell
  | .map k v m => some (.map k v m)
  | .nest t l _ _ none => some (.nest t l 0 0 none)
  | .nest _ _ _ _ (some _) => none

def memN (x : Nat) : List Nat → Bool
  | [] => false
  | y :: l => cond (Nat.beq y x) true (memN x l)
def indexN (x : Nat) : List Nat → Nat → Option Nat
  | [], _ => none
  | y :: l, i => cond (Nat.beq y x) (some i) (indexN x l (i + 1))
/-- The objects that are met from those in a list, each once, in the order in which they are met. -/
def reachN (objs : Nat → Option Obj) : Nat → List Nat → List Nat → List Nat
  | 0, _, seen => seen
  | _ + 1, [], seen => seen
  | n + 1, x :: todo, seen =>
    cond (memN x seen) (reachN objs n todo seen)
      (match objs x with
        | some (.cell a) => reachN objs n (a.ids ++ todo) (seen ++ [x])
        | _ => reachN objs n todo (seen ++ [x]))

def St.of (sl : List (Nat × AVal)) (os : List Obj) : St := ⟨getL sl, nthL os, os.length⟩

def renSlots (objs : Nat → Option Obj) (ρ : Nat → Option Nat) : List (Nat × AVal) → Option (List (Nat × AVal))
  | [] => some []
  | (i, a) :: l => match a.ren objs ρ, renSlots objs ρ l with
    | some a, some l => some ((i, a) :: l)
    | _, _ => none
def renObjs (ρ : Nat → Option Nat) (objs : Nat → Option Obj) : List Nat → Option (List Obj)
  | [] => some []
  | i :: l => match (objs i).bind (·.ren objs ρ), renObjs ρ objs l with
    | some o, some l => some (o :: l)
    | _, _ => none
def liveSlots (σ : St) : List Nat → Option (List (Nat × AVal))
  | [] => some []
  | i :: l => match σ.slots i, liveSlots σ l with
    | some a, some l => some ((i, a) :: l)
    | _, _ => none

/-- A value by itself (not a part of a list of values). -/
def AVal.val : AVal → Bool
  | .agg (.pr _ _) | .agg .un => true
  | .agg _ | .pr _ _ | .un | .tup _ => false
  | _ => true
/-- A part of a slice becomes the whole row; other references to it no longer hold. -/
def cutRow (σ : St) (x : AVal) (k : AVal → St → Option R) : Option R := match x with
  | .view id [] ep a b => match σ.objs id with
    | some (.row t l e) => cond (Nat.beq e ep) (k (.ref id [] (e + 1)) (σ.setObj id (.row t (sub l a b) (e + 1)))) none
    | _ => none
  | x => k x σ

/-- A value's new form: the nil slice as an empty row; a value as data. -/
def convA (σ : St) (a : AVal) : Conv → (AVal → St → Option R) → Option R
  | .row t, k => match a with
    | .nilS => cond t.isRo (k (.ref σ.next [] 0) { σ.setObj σ.next (.row t [] 0) with next := σ.next + 1 }) none
    | a => cutRow σ a k
  | .dat t, k => cond (t.isRo && a.val && a.sk.same t.sk) (give 20 a t σ fun d σ => k (.data t d) σ) none

def convK : List (Nat × Option Path × Conv) → St → (St → Option R) → Option R
  | [], σ, k => k σ
  | (i, none, c) :: l, σ, k =>
    match σ.slots i with
    | some a => cond a.val (convA σ a c fun a σ => convK l (σ.set i a) k) none
    | none => none
  | (i, some p, c) :: l, σ, k =>
    match σ.slots i with
    | some (.bptr id _) => bfetchK σ id p fun a => cond a.val (convA σ a c fun a σ => bfetchK σ id [] fun whole => setA a whole p fun whole => convK l (σ.setObj id (.cell whole)) k) none
    | _ => none

def renumL (l : List (Nat × AVal)) (σ : St) (k : List (Nat × AVal) → List Obj → Option R) : Option R :=
  let ids := reachN σ.objs 100 (l.flatMap fun x => x.2.ids) []
  let ρ := fun i => indexN i ids 0
  match renSlots σ.objs ρ l, renObjs ρ σ.objs ids with
  | some l', some os => k l' os
  | _, _ => none

/-- Forget all but the slots named, and number the objects anew. -/
def normL (cut : Cut) (σ : St) (k : List (Nat × AVal) → List Obj → Option R) : Option R :=
  convK cut.conv σ fun σ => match liveSlots σ cut.live with
    | some l => renumL l σ k
    | none => none
def norm (cut : Cut) (σ : St) (k : St → Option R) : Option R := normL cut σ fun sl os => k (St.of sl os)

/-! ## Operations -/

inductive AExit where
  | normal | exit (id : Nat) | ret

/-- What a loop does, from the state at its head on. -/
abbrev LoopFn := (R : Type) → List (Nat × AVal) → List Obj → (AExit → St → Option R) → Option R

structure Ctx where
  fuel : Nat
  tt : Nat → Option Ty
  mt : Nat → Option (Ty × Ty)
  ntmps : Nat
  env : Nat → List Callee
  cut : Nat → Option Cut
  exits : Nat → Nat → Option Cut
  res : Cut
  own : Nat → Option Ty
  lp : Nat → Option LoopFn
  eqs : Nat → Bool := fun _ => false

/-- The type of what an operation makes: what the hint says, if it fits. -/
def tyFor (c : Ctx) (d : Option Nat) (t : Nat) : Option Ty :=
  match d.bind c.own with
  | some u => match c.tt t with
    | some v => match Ty.same u.ro v.ro with
      | some _ => some u
      | none => none
    | none => none
  | none => c.tt t

/-- Is what an operation makes read-only from the first? -/
def froz (c : Ctx) (d : Option Nat) : Bool := match d.bind c.own with
  | some (.sl false _) => true
  | _ => false

def ev (σ : St) : Operand → Option AVal
  | .tmp t => σ.slots t
  | .const (.int k n) => cond (decide (k.min ≤ n) && decide (n ≤ k.max)) (some (.data (.int k) n)) none
  | .const (.bool b) => some (.data .bool b)
  | .const (.string s) => cond (Nat.ble s.size 100000) (some (.data .str s.data.toList)) none
  | .const (.slice none 0 0) => some .nilS
  | .func f => some (.clos f .un)
  | _ => none
def evs (σ : St) : List Operand → Option AVal
  | [] => some .un
  | x :: l => match ev σ x, evs σ l with
    | some a, some c => some (.pr a c)
    | _, _ => none
def appendC : AVal → AVal → AVal
  | .pr a b, c => .pr a (appendC b c)
  | _, c => c
def isPtr : AVal → Bool
  | .bptr _ _ | .eptr _ _ _ | .data (.ptr _) _ => true
  | _ => false
/-- A pointer that is known to lead somewhere. -/
def holds (σ : St) : AVal → Bool
  | .data (.ptr _) _ => true
  | .bptr id _ => match σ.objs id with
    | some (.cell _) => true
    | _ => false
  | .eptr id _ ep => match σ.objs id with
    | some (.row _ _ e) => Nat.beq e ep
    | _ => false
  | .nv true id _ ep => match σ.objs id with
    | some (.nest _ _ _ i none) => Nat.beq i ep
    | _ => false
  | _ => false
def allPtr : AVal → Bool
  | .un => true
  | .pr (.bptr _ _) c => allPtr c
  | .pr (.data (.ptr _) _) c => allPtr c
  | _ => false

def St.putK (σ : St) (c : Ctx) (d : Option Nat) (v : AVal) (k : St → Option R) : Option R := match d with
  | some i => cond (Nat.blt i c.ntmps) (k (σ.set i v)) none
  | none => k σ

def binInt (op : BinOp) (k : IntKind) (a b : Int) (f : AVal → Option R) : Option R :=
  match op with
  | .add => f (.data (.int k) (k.wrap (a + b)))
  | .sub => f (.data (.int k) (k.wrap (a - b)))
  | .mul => f (.data (.int k) (k.wrap (a * b)))
  | .quo => cond (b == 0) none (f (.data (.int k) (k.wrap (a.tdiv b))))
  | .rem => cond (b == 0) none (f (.data (.int k) (a.tmod b)))
  | .and => f (.data (.int k) (k.wrap (BitVec.ofInt k.bits a &&& BitVec.ofInt k.bits b).toNat))
  | .or => f (.data (.int k) (k.wrap (BitVec.ofInt k.bits a ||| BitVec.ofInt k.bits b).toNat))
  | .xor => f (.data (.int k) (k.wrap (BitVec.ofInt k.bits a ^^^ BitVec.ofInt k.bits b).toNat))
  | .andNot => f (.data (.int k) (k.wrap (BitVec.ofInt k.bits a &&& ~~~BitVec.ofInt k.bits b).toNat))
  | .eql => f (.data .bool (a == b))
  | .neq => f (.data .bool (a != b))
  | .lss => f (.data .bool (decide (a < b)))
  | .leq => f (.data .bool (decide (a ≤ b)))
  | .gtr => f (.data .bool (decide (a > b)))
  | .geq => f (.data .bool (decide (a ≥ b)))
  | _ => none
def shiftInt (op : BinOp) (k : IntKind) (a b : Int) (f : AVal → Option R) : Option R :=
  match op with
  | .shl => cond (decide (b < 0)) none (f (.data (.int k) (k.wrap (a * 2 ^ (min b.toNat k.bits)))))
  | .shr => cond (decide (b < 0)) none (f (.data (.int k) (a.fdiv (2 ^ (min b.toNat k.bits)))))
  | _ => none
def isShift : BinOp → Bool
  | .shl | .shr => true
  | _ => false

def binBool (op : BinOp) (a b : Bool) (f : AVal → Option R) : Option R :=
  match op with
  | .eql => f (.data .bool (a == b))
  | .neq => f (.data .bool (!(a == b)))
  | _ => none
/-! Maps: lists of keys and values, in the order in which the keys came. -/
/-- Types whose values the model compares at once. -/
def keyTy : Ty → Bool
  | .int _ | .bool | .str => true
  | _ => false
def keyEq : (t : Ty) → t.den → t.den → Bool
  | .int _, a, b => decide (a = b)
  | .bool, a, b => a == b
  | .str, a, b => decide (a = b)
  | _, _, _ => false
/-- Structs of such, compared field by field. -/
def eqTy : Ty → Bool
  | .unit => true
  | .pair a b => keyTy a && eqTy b
  | _ => false
def eqD : (t : Ty) → t.den → t.den → Bool
  | .unit, _, _ => true
  | .pair a b, (x, u), (y, v) => keyEq a x y && eqD b u v
  | _, _, _ => false
def eqRes (op : BinOp) (b : Bool) (f : AVal → Option R) : Option R :=
  match op with
  | .eql => f (.data .bool b)
  | .neq => f (.data .bool (!b))
  | _ => none
def binK (σ : St) (q : Bool) (t : Option Ty) (op : BinOp) (x y : AVal) (f : AVal → Option R) : Option R :=
  match x, y with
  | .data (.int k) a, .data (.int j) b => cond (isShift op) (shiftInt op k a b f) (match decEq k j with
      | isTrue _ => binInt op k a b f
      | isFalse _ => none)
  | .data .bool a, .data .bool b => match t with
    | some .bool => binBool op a b f
    | _ => none
  | x, y => match t with
    | some (.pair a b) => cond (q && eqTy (.pair a b) && x.val && y.val) (asData σ 20 x (.pair a b) fun d => asData σ 20 y (.pair a b) fun e => eqRes op (eqD (.pair a b) d e) f) none
    | _ => none
def unK (op : UnOp) (x : AVal) (f : AVal → Option R) : Option R :=
  match op, x with
  | .not, .data .bool a => f (.data .bool (!a))
  | .neg, .data (.int k) a => f (.data (.int k) (k.wrap (0 - a)))
  | .xor, .data (.int k) a => f (.data (.int k) (k.wrap (BitVec.ofInt k.bits (if k.signed then -1 else k.max) ^^^ BitVec.ofInt k.bits a).toNat))
  | _, _ => none

def lenK (σ : St) (x : AVal) (f : Int → Option R) : Option R :=
  match x with
  | .nilS => f 0
  | .data (.sl _ _) l => f (l.length : Int)
  | .ref id p ep => fetchK σ id p ep fun _ l => f (l.length : Int)
  | .view id p ep a b => fetchK σ id p ep fun _ _ => f (b - a)
  | .nv false id p ep => nrowK σ id p ep fun _ l => f (l.length : Int)
  | _ => none

def mget {α β : Type} (eq : α → α → Bool) : List (α × β) → α → Option β
  | [], _ => none
  | (k, v) :: m, x => cond (eq x k) (some v) (mget eq m x)
def mput {α β : Type} (eq : α → α → Bool) : List (α × β) → α → β → List (α × β)
  | [], x, y => [(x, y)]
  | (k, v) :: m, x, y => cond (eq x k) ((k, y) :: m) ((k, v) :: mput eq m x y)
/-- The map that a reference leads to, if it is of the type. -/
def mapK (σ : St) (mt : Option (Ty × Ty)) (a : AVal) (f : (id : Nat) → (kt vt : Ty) → List (kt.den × vt.den) → Option R) : Option R :=
  match a, mt with
  | .mref id, some (kt', vt') => match σ.objs id with
    | some (.map kt vt m) => cond ((Ty.same kt kt').isSome && (Ty.same vt vt').isSome && keyTy kt && vt.noSl) (f id kt vt m) none
    | _ => none
  | _, _ => none

/-- A part of a slice. -/
def sliceK (σ : St) (u : Ty) (x : AVal) (lo : Int) (hi : Option Int) (f : AVal → Option R) : Option R :=
  match x with
  | .nilS => chk (decide (lo = 0) && decide (hi.getD 0 = 0)) (f .nilS)
  | .data (.sl false t) l => cond (t.sk.same u.sk) (chk (decide (0 ≤ lo) && decide (lo ≤ hi.getD (l.length : Int)) && decide (hi.getD (l.length : Int) ≤ (l.length : Int))) (f (.data (.sl false t) (sub l lo (hi.getD (l.length : Int)))))) none
  | .ref id [] ep => fetchK σ id [] ep fun t l => cond (t.sk.same u.sk) (chk (decide (0 ≤ lo) && decide (lo ≤ hi.getD (l.length : Int)) && decide (hi.getD (l.length : Int) ≤ (l.length : Int))) (f (.view id [] ep lo (hi.getD (l.length : Int))))) none
  | _ => none

def foldInts (g : Int → Int → Int) (k : IntKind) (x : Int) : AVal → (Int → Option R) → Option R
  | .un, f => f x
  | .pr (.data (.int j) y) c, f => match decEq k j with
    | isTrue _ => foldInts g k (g x y) c f
    | isFalse _ => none
  | _, _ => none
def maxI (x y : Int) : Int := if y > x then y else x
def minI (x y : Int) : Int := if y < x then y else x

/-- The count of what the rows of a row became. -/
def innerOf (σ : St) (id : Nat) : Nat := match σ.objs id with
  | some (.nest _ _ _ i _) => i
  | _ => 0
/-- An address in a slice or an array. -/
def indexK (σ : St) (u : Ty) (x : AVal) (i : Int) (f : AVal → Option R) : Option R :=
  match x, u with
  | .data (.sl _ t) l, .sl _ u => cond (t.sk.same u.sk) ((idx l i).bind fun d => f (.data (.ptr t) d)) none
  | .data (.ptr (.arr n t)) l, .arr m u => cond (Nat.beq n m && t.sk.same u.sk) ((idx l i).bind fun d => f (.data (.ptr t) d)) none
  | .ref id p ep, .sl _ u => fetchK σ id p ep fun t l => cond (t.sk.same u.sk) (chk (inb l i) (f (.eptr id (p ++ [.idx i]) ep))) none
  | .view id p ep a b, .sl _ u => fetchK σ id p ep fun t _ => cond (t.sk.same u.sk) (chk (decide (0 ≤ i) && decide (i < b - a)) (f (.eptr id (p ++ [.idx (a + i)]) ep))) none
  | .nv false id p ep, .sl _ u => nrowK σ id p ep fun t l => cond (t.sk.same u.sk) (chk (inb l i) (f (.nv true id (p ++ [.idx i]) (innerOf σ id)))) none
  | .bptr id p, .arr m u => bfetchK σ id p fun a => match a with
    | .data (.arr n t) l => cond (Nat.beq n m && t.sk.same u.sk) (chk (inb l i) (f (.bptr id (p ++ [.idx i])))) none
    | _ => none
  | _, _ => none

def loadK (σ : St) (x : AVal) (f : AVal → Option R) : Option R :=
  match x with
  | .data (.ptr t) d => f (.data t d)
  | .eptr id p ep => match p with
    | [] => none
    | s :: q => efetchK σ id (s :: q) ep fun u d => f (.data u d)
  | .bptr id p => bfetchK σ id p f
  | .nv true id p ep => nfetchK σ true id p ep fun u d => cond u.isRo (f (.data u d)) (match u with
    | .sl true _ => f (.nv false id p ep)
    | _ => none)
  | _ => none

/-- The last index of a path: what leads there, the index, what follows. -/
def lastIdx : Path → Option (Path × Int × Path)
  | [] => none
  | s :: p => match lastIdx p with
    | some (q, j, r) => some (s :: q, j, r)
    | none => match s with
      | .idx j => some ([], j, p)
      | _ => none
def pathEq : Path → Path → Bool
  | [], [] => true
  | .fst :: p, .fst :: q => pathEq p q
  | .snd :: p, .snd :: q => pathEq p q
  | .idx i :: p, .idx j :: q => decide (i = j) && pathEq p q
  | _, _ => false
/-- The type of the rows at a path. -/
def tyQ : Ty → Path → Option Ty
  | .sl true v, [] => some v
  | .pair a _, .fst :: p => tyQ a p
  | .pair _ b, .snd :: p => tyQ b p
  | .arr _ t, .idx _ :: p => tyQ t p
  | .sl true t, .idx _ :: p => tyQ t p
  | _, _ => none
def tyR (t : Ty) : Path → Option Ty
  | .idx _ :: p => tyQ t p
  | _ => none
/-- A row that moves. -/
def giveRow (σ : St) (a : AVal) (v : Ty) (k : List v.den → St → Option R) : Option R := match a with
  | .nilS => k [] σ
  | .ref id [] ep => match σ.objs id with
    | some (.row t l e) => cond (Nat.beq e ep) (castK (.sl true t) (.sl true v) l fun l => k l (σ.kill id)) none
    | _ => none
  | _ => none
/-- A row put in its place in a row of rows. -/
def fillK (σ : St) (id : Nat) (t : Ty) (l : List t.den) (e i : Nat) (p : Path) (a : AVal) (f : St → Option R) : Option R :=
  match tyR t p with
  | some v => cond v.isRo (giveRow σ a v fun d σ => setK (.sl true t) l p (.sl true v) d fun l => f (σ.setObj id (.nest t l e (i + 1) none))) none
  | none => none
/-- A store into a row of rows. -/
def nstoreK (σ : St) (id : Nat) (p : Path) (ep : Nat) (a : AVal) (f : St → Option R) : Option R :=
  match σ.objs id with
  | some (.nest t l e i none) => cond (Nat.beq i ep)
    (cond ((tyR t p).isSome) (fillK σ id t l e i p a f)
      (match lastIdx p with
        | some (s :: p, j, q) => getK (.sl true t) l (s :: p) fun v l1 => match v, l1 with
          | .sl true v, l1 => cond v.isRo (getK (.sl true v) l1 (.idx j :: q) fun u _ => give 20 a u σ fun d σ => match σ.objs id with
            | some (.nest _ _ _ _ none) => setK (.sl true v) l1 (.idx j :: q) u d fun l1 => setK (.sl true t) l (s :: p) (.sl true v) l1 fun l => f (σ.setObj id (.nest t l e i none))
            | _ => none) none
          | _, _ => none
        | _ => none)) none
  | some (.nest t l e i (some h)) => cond (Nat.beq i ep) (chk (pathEq p h) (fillK σ id t l e i p a f)) none
  | _ => none

/-- A store through a pointer. -/
def storeK (σ : St) (x a : AVal) (f : St → Option R) : Option R :=
  match x with
  | .eptr id p ep => match p with
    | [] => none
    | s :: q => efetchK σ id (s :: q) ep fun u _ => give 20 a u σ fun d σ =>
      match σ.objs id with
      | some (.row t l e) => cond (Nat.beq e ep) (setK (.sl true t) l (s :: q) u d fun l => f (σ.setObj id (.row t l e))) none
      | _ => none
  | .bptr id p => match σ.objs id with
    | some (.cell whole) => getA whole p fun old => cond (old.sk.same a.sk) (setA a whole p fun whole => f (σ.setObj id (.cell whole))) none
    | _ => none
  | .nv true id p ep => nstoreK σ id p ep a f
  | _ => none

def AVal.isNv : AVal → Bool
  | .nv _ _ _ _ => true
  | _ => false
/-- What is appended, as elements. -/
def tailK (σ : St) (t : Ty) (x : AVal) (f : List t.den → Option R) : Option R := cond (t.isRo && x.val && !x.isNv) (asData σ 20 x (.sl false t) f) none

/-- The element type of a slice. -/
def elemTy (σ : St) : AVal → Option Ty
  | .data (.sl _ t) _ => some t
  | .ref id p ep => fetchK σ id p ep fun t _ => some t
  | .view id p ep _ _ => fetchK σ id p ep fun t _ => some t
  | .nv false id p ep => nrowK σ id p ep fun t _ => some t
  | _ => none

/-- Append: what is appended to must be owned, or nil. -/
def appendK (σ : St) (n : Nat) (u : Ty) (s x : AVal) (f : AVal → St → Option R) : Option R :=
  match s with
  | .nilS => match elemTy σ x with
    | some t => cond (t.sk.same u.sk) (tailK σ t x fun m => chk (decide (m.length ≤ room)) (f (.ref n [] 1) (σ.setObj n (.row t m 1)))) none
    | none => none
  | .ref id [] ep => match σ.objs id with
    | some (.row t l e) => cond (Nat.beq e ep && t.sk.same u.sk) (tailK σ t x fun m => chk (decide (l.length + m.length ≤ room)) (f (.ref id [] (e + 1)) (σ.setObj id (.row t (l ++ m) (e + 1))))) none
    | _ => none
  | .view id [] ep a b => match σ.objs id with
    | some (.row t l e) => cond (Nat.beq e ep && t.sk.same u.sk) (tailK σ t x fun m => chk (decide ((sub l a b).length + m.length ≤ room)) (f (.ref id [] (e + 2)) (σ.setObj id (.row t (sub l a b ++ m) (e + 2))))) none
    | _ => none
  | .nv false id (q :: p) ep => match σ.objs id with
    | some (.nest t l e i none) => cond (Nat.beq i ep) (getK (.sl true t) l (q :: p) fun v l1 => match v, l1 with
      | .sl true v, l1 => cond (v.sk.same u.sk) (tailK σ v x fun m => chk (decide (l1.length + m.length ≤ room)) (f (.ref n [] 1) ((σ.setObj id (.nest t l e i (some (q :: p)))).setObj n (.row v (l1 ++ m) 1)))) none
      | _, _ => none) none
    | _ => none
  | _ => none

def parts (σ : St) (t : Ty) : List (Nat × Operand) → (List t.den → St → Option R) → Option R
  | [], k => k [] σ
  | (_, x) :: l, k => match ev σ x with
    | some a => cond a.val (give 20 a t σ fun d σ => parts σ t l fun ds σ => k (d :: ds) σ) none
    | none => none

/-- Values, each by itself. -/
def allVal : AVal → Bool
  | .pr a b => a.val && allVal b
  | .un => true
  | _ => false
def inOrder : Nat → List (Nat × Operand) → Bool
  | _, [] => true
  | i, (j, _) :: l => Nat.beq i j && inOrder (i + 1) l

def fieldPath : Nat → Path
  | 0 => [.fst]
  | n + 1 => .snd :: fieldPath n

def fieldK (σ : St) (u : Ty) (x : AVal) (i : Nat) (f : AVal → Option R) : Option R :=
  match x with
  | .data (.ptr t) d => cond (t.sk.same u.sk) (getK t d (fieldPath i) fun u e => f (.data (.ptr u) e)) none
  | .bptr id p => bfetchK σ id p fun a => cond (a.sk.same u.sk && (tyAt u (fieldPath i)).isSome) (f (.bptr id (p ++ fieldPath i))) none
  | .eptr id p ep => match p with
    | [] => none
    | s :: q => efetchK σ id (s :: q) ep fun t _ => cond (t.sk.same u.sk && (tyAt u (fieldPath i)).isSome) (f (.eptr id (s :: q ++ fieldPath i) ep)) none
  | .nv true id p ep => nfetchK σ true id p ep fun t _ => cond (t.sk.same u.sk && (tyAt u (fieldPath i)).isSome) (f (.nv true id (p ++ fieldPath i) ep)) none
  | _ => none

/-- Nothing read-only that may be another's. -/
def Ty.flat : Ty → Bool
  | .sl true t => t.noSl
  | .pair a b => a.flat && b.flat
  | t => t.noSl
def flats : List Ty → Bool
  | [] => true
  | t :: ts => t.flat && flats ts
def noIds : AVal → Bool
  | .ref _ _ _ | .view _ _ _ _ _ | .bptr _ _ | .eptr _ _ _ | .mref _ | .nv _ _ _ _ => false
  | .clos _ c | .agg c | .tup c => noIds c
  | .pr a b => noIds a && noIds b
  | _ => true
/-- Values, each by itself. -/
def valsC : AVal → Bool
  | .pr a c => a.val && valsC c
  | .un => true
  | _ => false
def chainP : APat → Bool
  | .pr (.val _) q => chainP q
  | .un => true
  | _ => false
/-- A list of one-cell values. -/
def leafC : AVal → Bool
  | .pr a c => a.val && !a.sk.isAgg && leafC c
  | .un => true
  | _ => false
/-- The function called, and all that it is given. -/
def calleeOf (g args : AVal) : Option (Nat × AVal) := match g with
  | .clos fid cap => cond (leafC cap) (some (fid, appendC args cap)) none
  | .data (.fn fid t) d => cond (leafC (splitC t d) && (splitC t d).sk.same t.sk) (some (fid, appendC args (splitC t d))) none
  | _ => none
/-- A call of a function that turns nothing of the caller's. -/
def callPure (σ : St) (n : Nat) (all : AVal) (p : APat) (res : List Ty) (F : p.den → Option (resDen res)) (f : AVal → St → Option R) : Option R :=
  cond (chainP p && valsC all && (flats res || noIds all)) (matchArgs σ p all [] fun d _ => (F d).bind fun r =>
      let x := exposeRes res r n
      cond (Nat.ble x.2.length 8) (f x.1 (σ.addObjs n x.2)) none) none
def callK (c : Ctx) (σ : St) (n : Nat) (g : AVal) (args : AVal) (f : AVal → St → Option R) : Option R :=
  match calleeOf g args with
  | some (fid, all) => match pickC all (c.env fid) with
    | some (.pure p res F) => callPure σ n all p res F f
    | some (.mut p os res F) => matchArgs σ p all [] fun d b => matchObjs σ 0 os b fun o b => (F d o).bind fun r =>
      match (putRows σ 0 os b r.2).bind fun σ => putCells σ 0 os b r.2 with
      | some σ =>
        let x := exposeRes res r.1 n
        cond (Nat.ble x.2.length 8) (f x.1 (σ.addObjs n x.2)) none
      | none => none
    | none => none
  | none => none

/-- A number that may be missing. -/
def evI (σ : St) : Option Operand → Option (Option Int)
  | none => some none
  | some x => match ev σ x with
    | some (.data (.int _) n) => some (some n)
    | _ => none
def tupleAt : AVal → Nat → Option AVal
  | .pr a _, 0 => some a
  | .pr _ b, n + 1 => tupleAt b n
  | _, _ => none

/-- A row of what is not owned. -/
def rowTy : Ty → Bool
  | .sl true v => v.isRo
  | _ => false
/-- One operation; the objects that it makes are numbered from n on. -/
def opK0 (c : Ctx) (σ : St) (n : Nat) (o : Oper) (k : St → Option R) : Option R :=
  match o.op with
  | .move x | .assign x => match ev σ x with
    | some a => σ.putK c o.dst a k
    | none => none
  | .pick t x y => match ev σ t with
    | some (.data .bool b) => cond b
        (match ev σ x with
          | some a => σ.putK c o.dst a k
          | none => none)
        (match ev σ y with
          | some a => σ.putK c o.dst a k
          | none => none)
    | _ => none
  | .binOp op t x y _ => match ev σ x, ev σ y with
    | some a, some b => binK σ (c.eqs t) (c.tt t) op a b fun v => σ.putK c o.dst v k
    | _, _ => none
  | .unOp op _ x => match ev σ x with
    | some a => unK op a fun v => σ.putK c o.dst v k
    | none => none
  | .indexAddr t x i => match ev σ x, ev σ i, c.tt t with
    | some a, some (.data (.int _) j), some u => indexK σ u a j fun v => σ.putK c o.dst v k
    | _, _, _ => none
  | .fieldAddr t x i => match ev σ x, c.tt t with
    | some a, some u => fieldK σ u a i fun v => σ.putK c o.dst v k
    | _, _ => none
  | .index t x i => match ev σ x, ev σ i, c.tt t with
    | some (.data (.arr n t') l), some (.data (.int _) j), some (.arr m u) => cond (Nat.beq n m && t'.sk.same u.sk) ((idx l j).bind fun d => σ.putK c o.dst (.data t' d) k) none
    | _, _, _ => none
  | .field t x i => match ev σ x, c.tt t with
    | some a, some u => cond (a.val && a.sk.same u.sk && (tyAt u (fieldPath i)).isSome) (getA a (fieldPath i) fun v => cond v.val (σ.putK c o.dst v k) none) none
    | _, _ => none
  | .nilCheck x => match ev σ x with
    | some a => cond (holds σ a) (σ.putK c o.dst a k) none
    | none => none
  | .load t x => match ev σ x, c.tt t with
    | some a, some u => loadK σ a fun v => cond (v.val && u.sk.same v.sk) (σ.putK c o.dst v k) none
    | _, _ => none
  | .store t x y => match ev σ x, ev σ y, c.tt t, o.dst with
    | some a, some b, some u, none => cond (b.val && u.sk.same b.sk) (storeK σ a b k) none
    | _, _, _, _ => none
  | .extract x i => match ev σ x with
    | some (.tup a) => match tupleAt a i with
      | some v => σ.putK c o.dst v k
      | none => none
    | _ => none
  | .alloc t => match (c.tt t).bind zeroA with
    | some z => σ.putK c o.dst (.bptr n []) fun σ => k (σ.setObj n (.cell z))
    | none => none
  | .box _ x => match ev σ x with
    | some a => cond a.val (σ.putK c o.dst (.bptr n []) fun σ => k (σ.setObj n (.cell a))) none
    | none => none
  | .makeFunc (.func f) first cap => match first.toList with
    | [] => match evs σ cap.toList with
      | some a => cond (allPtr a) (σ.putK c o.dst (.clos f a) k) none
      | none => none
    | _ => none
  | .makeSlice t len cap => match tyFor c o.dst t with
    | some (.sl _ u) => match u.zero, ev σ len, ev σ cap with
      | some z, some (.data (.int _) l), some (.data (.int _) m) =>
        cond u.isRo (chk (decide (0 ≤ l) && decide (l ≤ m) && decide (m ≤ (room : Int))) (σ.putK c o.dst (.ref n [] 0) fun σ => k (σ.setObj n (.row u (List.replicate l.toNat z) 0))))
          (cond (rowTy u) (chk (decide (0 ≤ l) && decide (l ≤ m) && decide (m ≤ (room : Int))) (σ.putK c o.dst (.nv false n [] 0) fun σ => k (σ.setObj n (.nest u (List.replicate l.toNat z) 0 0 none)))) none)
      | _, _, _ => none
    | _ => none
  | .build t ps => match evs σ (ps.toList.map (·.2)), c.tt t with
    | some a, some (.pair x y) => cond (inOrder 0 ps.toList && allVal a && a.sk.same (Ty.pair x y).sk) (σ.putK c o.dst (.agg a) k) none
    | _, _ => none
  | .buildSlice t len ps => match tyFor c o.dst t with
    | some (.sl _ u) => cond (u.isRo && inOrder 0 ps.toList && Nat.beq ps.toList.length len && Nat.ble (len * u.size) 100000) (parts σ u ps.toList fun ds σ => cond (froz c o.dst) (σ.putK c o.dst (.data (.sl false u) ds) k) (σ.putK c o.dst (.ref n [] 0) fun σ => k (σ.setObj n (.row u ds 0)))) none
    | _ => none
  | .makeMap t none => match c.mt t with
    | some (kt, vt) => cond (keyTy kt && vt.noSl) (σ.putK c o.dst (.mref n) fun σ => k (σ.setObj n (.map kt vt []))) none
    | none => none
  | .lookup t x i ok => match ev σ x, ev σ i with
    | some a, some b => mapK σ (c.mt t) a fun _ kt vt m => cond b.val (asData σ 20 b kt fun key => match vt.zero with
      | some z => cond ok (σ.putK c o.dst (.tup (.pr (.data vt ((mget (keyEq kt) m key).getD z)) (.pr (.data .bool (mget (keyEq kt) m key).isSome) .un))) k)
        (σ.putK c o.dst (.data vt ((mget (keyEq kt) m key).getD z)) k)
      | none => none) none
    | _, _ => none
  | .mapUpdate t x i y => match ev σ x, ev σ i, ev σ y, o.dst with
    | some a, some b, some v, none => mapK σ (c.mt t) a fun id kt vt m => cond (b.val && v.val) (asData σ 20 b kt fun key => asData σ 20 v vt fun d => k (σ.setObj id (.map kt vt (mput (keyEq kt) m key d)))) none
    | _, _, _, _ => none
  | .slice t x lo hi none => match ev σ x, c.tt t, evI σ lo, evI σ hi with
    | some a, some (.sl _ u), some lo, some hi => sliceK σ u a (lo.getD 0) hi fun v => σ.putK c o.dst v k
    | _, _, _, _ => none
  | .slice t x none (some hi) (some mx) => match ev σ x, ev σ hi, ev σ mx, c.tt t with
    | some (.ref id [] ep), some (.data (.int _) h), some (.data (.int _) m), some (.sl _ u) => match σ.objs id with
      | some (.row t' l e) => cond (Nat.beq e ep && t'.sk.same u.sk) (chk (decide (0 ≤ h) && decide (h ≤ m) && decide (m ≤ (l.length : Int))) ((σ.setObj id (.row t' (sub l 0 h) (e + 1))).putK c o.dst (.ref id [] (e + 1)) k)) none
      | _ => none
    | _, _, _, _ => none
  | .call { callee := .builtin .len, args := args, argTypes := ts } => match args.toList, ts.toList with
    | [x], [t] => match ev σ x, c.tt t with
      | some a, some (.sl _ _) => lenK σ a fun v => σ.putK c o.dst (.data (.int .i64) v) k
      | some a, none => mapK σ (c.mt t) a fun _ _ _ m => chk (decide (m.length ≤ room)) (σ.putK c o.dst (.data (.int .i64) (m.length : Int)) k)
      | _, _ => none
    | _, _ => none
  | .call { callee := .builtin .max, args := args, .. } => match evs σ args.toList with
    | some (.pr (.data (.int i) x) r) => foldInts maxI i x r fun v => σ.putK c o.dst (.data (.int i) v) k
    | _ => none
  | .call { callee := .builtin .min, args := args, .. } => match evs σ args.toList with
    | some (.pr (.data (.int i) x) r) => foldInts minI i x r fun v => σ.putK c o.dst (.data (.int i) v) k
    | _ => none
  | .call { callee := .builtin .append, args := args, argTypes := ts } => match args.toList, ts.toList with
    | [x, y], [t, t'] => match ev σ x, ev σ y, c.tt t with
      | some a, some b, some (.sl _ u) => cond (Nat.beq t t') (appendK σ n u a b fun v σ => σ.putK c o.dst v k) none
      | _, _, _ => none
    | _, _ => none
  | .call { callee := .value g, args := args, .. } => match ev σ g, evs σ args.toList with
    | some g, some a => callK c σ n g a fun v σ => σ.putK c o.dst v k
    | _, _ => none
  | _ => none

/-! ## Regions -/

/-- Operations that may write. -/
def isM (o : Oper) : Bool := match o.op with
  | .store _ _ _ => true
  | .mapUpdate _ _ _ _ => true
  | .call cl => match cl.callee with
    | .builtin .append => true
    | _ => false
  | _ => false
/-- What is taken from a form that the interpreter has no word for: the nil function. -/
def isJunk (o : Oper) : Bool := match o.op with
  | .assign (.const .nilFunc) => true
  | _ => false
def opK (c : Ctx) (σ : St) (n : Nat) (o : Oper) (k : St → Option R) : Option R := cond (isJunk o) (k (σ.unset o.dst)) (opK0 c σ n o k)
/-- Operations that give a value and turn nothing. -/
def isY0 (o : Oper) : Bool := match o.op with
  | .move _ | .assign _ | .pick _ _ _ | .binOp _ _ _ _ _ | .unOp _ _ _ | .indexAddr _ _ _ | .fieldAddr _ _ _ | .nilCheck _ | .load _ _ | .extract _ _ | .makeFunc _ _ _ | .lookup _ _ _ _ | .slice _ _ _ _ none | .build _ _ | .index _ _ _ | .field _ _ _ => true
  | .call cl => match cl.callee with
    | .builtin .len | .builtin .max | .builtin .min => true
    | _ => false
  | _ => false

def isY (o : Oper) : Bool := !isJunk o && isY0 o
/-- Operations that do not look at memory. -/
def isP (o : Oper) : Bool := match o.op with
  | .load _ _ | .lookup _ _ _ _ => false
  | .call cl => match cl.callee with
    | .builtin .max | .builtin .min => true
    | _ => false
  | _ => true

def noM : List (Nat × Oper) → Bool
  | [] => true
  | (_, o) :: l => !isM o && noM l


def isPickOf (t : Nat) (o : Oper) : Bool := match o.op with
  | .pick (.tmp u) _ _ => Nat.beq t u
  | _ => false
def splitAt (p : Oper → Bool) : List (Nat × Oper) → List (Nat × Oper) → Option (List (Nat × Oper) × Option Nat × List (Nat × Oper))
  | [], _ => none
  | (i, o) :: l, acc => cond (p o) (some (acc ++ [(i, o)], o.dst, l)) (splitAt p l (acc ++ [(i, o)]))
def boolAt (σ : St) (d : Nat) : Option Bool := match σ.slots d with
  | some (.data .bool b) => some b
  | _ => none

def unsetAll : List (Nat × Oper) → St → St
  | [], σ => σ
  | (_, o) :: l, σ => unsetAll l (σ.unset o.dst)

def rmN (d : Nat) : List Nat → List Nat
  | [] => []
  | x :: l => cond (Nat.beq x d) (rmN d l) (x :: rmN d l)
def dropU : Option Nat → List Nat → List Nat
  | none, u => u
  | some d, u => rmN d u
def addU : Option Nat → List Nat → List Nat
  | none, u => u
  | some d, u => d :: u
def dropAllU : List (Nat × Oper) → List Nat → List Nat
  | [], u => u
  | (_, o) :: l, u => dropAllU l (dropU o.dst u)

/-- The operations of a region in the text's order; what stands under a guard is one truth value, reckoned by itself. `dst`: where operation j writes. `opened`: the guards that are known by now. `und`: slots that hold nothing. -/
def opsK (c : Ctx) (base : Nat) (dst : Nat → Option Nat) : (fuel : Nat) → (R : Type) → (opened und : List Nat) → List (Nat × Oper) → St → (St → Option R) → Option R
  | 0, _, _, _, _, _, _ => none
  | _ + 1, _, _, _, [], σ, k => k σ
  | n + 1, R, opened, und, (i, o) :: l, σ, k =>
    match o.guard with
    | none => opK c σ (base + 8 * i) o fun σ => opsK c base dst n R opened (dropU o.dst und) l σ k
    | some (j, want) =>
      match dst j with
      | none => none
      | some t =>
        match σ.slots t with
        | some (.data .bool b) =>
          cond (memN j opened)
            (cond (b == want) (opK c σ (base + 8 * i) o fun σ => opsK c base dst n R opened (dropU o.dst und) l σ k) (opsK c base dst n R opened (addU o.dst und) l (σ.unset o.dst) k))
            (match splitAt (isPickOf t) ((i, o) :: l) [] with
              | some (grp, some d, rest) => cond (noM grp) (
                (cond b (opsK c base dst n Bool (j :: opened) und grp (σ.set t (.data .bool true)) fun σ => boolAt σ d)
                        (opsK c base dst n Bool (j :: opened) und grp (σ.set t (.data .bool false)) fun σ => boolAt σ d)).bind fun v =>
                cond (Nat.blt d c.ntmps) (opsK c base dst n R opened (dropAllU grp und) rest ((unsetAll grp σ).set d (.data .bool v)) k) none) none
              | _ => none)
        | none => cond (memN t und) (opsK c base dst n R opened (addU o.dst und) l (σ.unset o.dst) k) none
        | _ => none

def numbered {α : Type} : Nat → List α → List (Nat × α)
  | _, [] => []
  | i, x :: l => (i, x) :: numbered (i + 1) l
def dstOf (ops : List Oper) (j : Nat) : Option Nat := (nthL ops j).bind (·.dst)

/-! Regions whose order is drawn: an order in which they may be looked at. -/
def edgeOns : List Edge → List Nat
  | [] => []
  | e :: l => cond (Region.binds .any e) (e.on :: edgeOns l) (edgeOns l)
def allIn : List Nat → List Nat → Bool
  | [], _ => true
  | x :: l, d => memN x d && allIn l d
def anyIn : List Nat → List Nat → Bool
  | [], _ => false
  | x :: l, d => memN x d || anyIn l d
def readyL (done : List Nat) (o : Oper) : Bool := allIn (edgeOns o.after.toList) done
def tmpsL : List Operand → List Nat
  | [] => []
  | .tmp t :: l => t :: tmpsL l
  | _ :: l => tmpsL l
def guardL (dst : Nat → Option Nat) (o : Oper) : List Nat := match o.guard with
  | some (j, _) => match dst j with
    | some t => [t]
    | none => []
  | none => []
def looksL (dst : Nat → Option Nat) (o : Oper) (t : Nat) : Bool := memN t (tmpsL o.op.operands.toList) || memN t (guardL dst o)
def apartL (dst : Nat → Option Nat) (x y : Oper) : Bool :=
  (match x.dst with
   | some d => !looksL dst y d && (match y.dst with
     | some e => !Nat.beq d e
     | none => true)
   | none => true) &&
  (match y.dst with
   | some d => !looksL dst x d
   | none => true)
def laterL (i : Nat) : List (Nat × Oper) → List Nat → List Nat
  | [], acc => acc
  | (j, o) :: l, acc => laterL i l (cond (memN i (edgeOns o.after.toList) || anyIn (edgeOns o.after.toList) acc) (j :: acc) acc)
def freeL (dst : Nat → Option Nat) (done later : List Nat) (i : Nat) (o : Oper) : List (Nat × Oper) → Bool
  | [] => true
  | (j, oj) :: l => (Nat.beq j i || memN j done || ((memN i (edgeOns oj.after.toList) || apartL dst o oj) && (isP o || !isM oj || memN j later))) && freeL dst done later i o l
def aloneL (done : List Nat) (i : Nat) : List (Nat × Oper) → Bool
  | [] => true
  | (j, oj) :: l => (Nat.beq j i || memN j done || !readyL done oj) && aloneL done i l
def noneIn : List Nat → List Nat → Bool
  | [], _ => true
  | x :: l, d => !memN x d && noneIn l d
def okAt (dst : Nat → Option Nat) (all : List (Nat × Oper)) (done : List Nat) (i : Nat) (o : Oper) : Bool :=
  readyL done o && ((isY o && freeL dst done (laterL i all []) i o all && noneIn (laterL i all []) done) || aloneL done i all)
def okOrder (dst : Nat → Option Nat) (all : List (Nat × Oper)) : List (Nat × Oper) → List Nat → Bool
  | [], done => aloneL done all.length all
  | (i, o) :: l, done => !memN i done && okAt dst all done i o && okOrder dst all l (i :: done)
def plainL : List (Nat × Oper) → Bool
  | [] => true
  | (_, o) :: l => (match o.op with
    | .select _ _ => false
    | _ => true) && plainL l
/-- The first that may be taken. -/
def nextL (dst : Nat → Option Nat) (all : List (Nat × Oper)) (done : List Nat) : List (Nat × Oper) → Option (Nat × Oper)
  | [] => none
  | (i, o) :: l => cond (!memN i done && okAt dst all done i o) (some (i, o)) (nextL dst all done l)
def orderL (dst : Nat → Option Nat) (all : List (Nat × Oper)) : Nat → List Nat → List (Nat × Oper)
  | 0, _ => []
  | n + 1, done => match nextL dst all done all with
    | some (i, o) => (i, o) :: orderL dst all n (i :: done)
    | none => []

def listK (c : Ctx) (ops : List Oper) (l : List (Nat × Oper)) (σ : St) (k : St → Option R) : Option R :=
  opsK c σ.next (dstOf ops) (ops.length + ops.length + 2) R [] [] l σ fun σ' => k { σ' with next := σ.next + 8 * ops.length }
def drawL (ops : List Oper) : List (Nat × Oper) := orderL (dstOf ops) (numbered 0 ops) ops.length []
def drawOK (ops : List Oper) : Bool := plainL (numbered 0 ops) && okOrder (dstOf ops) (numbered 0 ops) (drawL ops) []
def pureC : List Callee → Bool
  | [] => true
  | .pure _ _ _ :: l => pureC l
  | _ => false
def calleeId (σ : St) (x : Operand) : Option Nat := match ev σ x with
  | some (.clos f _) => some f
  | some (.data (.fn f _) _) => some f
  | _ => none
def okRun (dst : Nat → Option Nat) (all : List (Nat × Oper)) : List (Nat × Oper) → List Nat → Bool
  | [], _ => true
  | (i, o) :: l, done => !memN i done && okAt dst all done i o && okRun dst all l (i :: done)
def addDone : List (Nat × Oper) → List Nat → List Nat
  | [], d => d
  | (i, _) :: l, d => addDone l (i :: d)

/-! Where no single operation may be taken first: operations that look at different objects may be taken in any order. -/
/-- The functions that it may call turn nothing of the caller's. -/
def pureG (c : Ctx) (σ : St) (o : Oper) : Bool := match o.op with
  | .call cl => match cl.callee with
    | .value g => match calleeId σ g with
      | some f => pureC (c.env f)
      | none => false
    | _ => true
  | .mapUpdate _ _ _ _ => false
  | .makeMap _ _ => false
  | _ => true
def idsAt (σ : St) (x : Operand) : List Nat := match ev σ x with
  | some a => a.ids
  | none => []
def isBptr : Option AVal → Bool
  | some (.bptr _ _) => true
  | _ => false
/-- The objects that an operation looks at. -/
def footG (σ : St) (o : Oper) : List Nat := match o.op with
  | .move _ | .assign _ | .pick _ _ _ | .extract _ _ | .makeFunc _ _ _ | .box _ _ | .build _ _ | .alloc _ | .unOp _ _ _ => []
  | .load _ x | .nilCheck x | .fieldAddr _ x _ | .indexAddr _ x _ | .slice _ x _ _ _ => idsAt σ x
  | .store _ x y => cond (isBptr (ev σ x)) (idsAt σ x) (reachN σ.objs 100 (idsAt σ x ++ idsAt σ y) [])
  | op => reachN σ.objs 100 (op.operands.toList.flatMap (idsAt σ)) []
/-- The objects of a list, and the new ones of operation i. -/
def inF (base i : Nat) (F : List Nat) (id : Nat) : Bool := memN id F || (Nat.ble (base + 8 * i) id && Nat.blt id (base + 8 * i + 8))
def St.only (σ : St) (p : Nat → Bool) : St := { σ with objs := fun i => cond (p i) (σ.objs i) none }
def St.over (σ σ' : St) (p : Nat → Bool) : St := { slots := σ'.slots, objs := fun i => cond (p i) (σ'.objs i) (σ.objs i), next := σ.next }
def outR (base i : Nat) : List Nat → Bool
  | [] => true
  | x :: l => !(Nat.ble (base + 8 * i) x && Nat.blt x (base + 8 * i + 8)) && outR base i l
/-- Two operations of which either may be taken first: where they write, what they look at. -/
def indep (base : Nat) (dst : Nat → Option Nat) (i : Nat) (o : Oper) (F : List Nat) (j : Nat) (p : Oper) (G : List Nat) : Bool :=
  !Nat.beq i j && apartL dst o p && ((isY0 o && isY0 p) || noneIn F G) && outR base i G && outR base j F
abbrev GAcc := List ((Nat × Oper) × List Nat × List Nat)
def okAcc (base : Nat) (dst : Nat → Option Nat) (j : Nat) (p : Oper) (G : List Nat) : GAcc → Bool
  | [] => true
  | ((i, o), F, lat) :: l => (memN j lat || indep base dst i o F j p G) && okAcc base dst j p G l
def genK (c : Ctx) (base : Nat) (dst : Nat → Option Nat) (all : List (Nat × Oper)) : List (Nat × Oper) → GAcc → St → (St → Option R) → Option R
  | [], _, σ, k => k σ
  | (i, o) :: l, acc, σ, k =>
    cond (pureG c σ o && okAcc base dst i o (footG σ o) acc)
      (opK0 c (σ.only (inF base i (footG σ o))) (base + 8 * i) o fun σ' => genK c base dst all l (((i, o), footG σ o, laterL i all []) :: acc) (σ.over σ' (inF base i (footG σ o))) k) none
/-- A region in two parts: what may be taken one by one, and the rest. -/
def restL (done : List Nat) : List (Nat × Oper) → List (Nat × Oper)
  | [] => []
  | (i, o) :: l => cond (memN i done) (restL done l) ((i, o) :: restL done l)
def plainG : List (Nat × Oper) → Bool
  | [] => true
  | (_, o) :: l => (match o.guard with
    | none => true
    | some _ => false) && !isJunk o && plainG l
def linG (all : List (Nat × Oper)) (done : List Nat) : List Nat → List (Nat × Oper) → Bool
  | _, [] => true
  | d, (i, o) :: l => readyL d o && noneIn (laterL i all []) done && linG all done (i :: d) l
def lenN : List (Nat × Oper) → Nat
  | [] => 0
  | _ :: l => lenN l + 1
def genOK (ops : List Oper) : Bool := plainL (numbered 0 ops) && okRun (dstOf ops) (numbered 0 ops) (drawL ops) [] && plainG (restL (addDone (drawL ops) []) (numbered 0 ops)) && linG (numbered 0 ops) (addDone (drawL ops) []) (addDone (drawL ops) []) (restL (addDone (drawL ops) []) (numbered 0 ops)) && Nat.beq (lenN (drawL ops) + lenN (restL (addDone (drawL ops) []) (numbered 0 ops))) ops.length
def genRunK (c : Ctx) (ops : List Oper) (L B : List (Nat × Oper)) (σ : St) (k : St → Option R) : Option R :=
  opsK c σ.next (dstOf ops) (ops.length + ops.length + 2) R [] [] L σ fun σ' => genK c σ.next (dstOf ops) (numbered 0 ops) B [] σ' fun σ' => k { σ' with next := σ.next + 8 * ops.length }
def regionK (c : Ctx) (ops : Array Oper) (draw : Bool) (σ : St) (k : St → Option R) : Option R :=
  cond draw (cond (drawOK ops.toList) (listK c ops.toList (drawL ops.toList) σ k)
      (cond (genOK ops.toList) (genRunK c ops.toList (drawL ops.toList) (restL (addDone (drawL ops.toList) []) (numbered 0 ops.toList)) σ k) none))
    (listK c ops.toList (numbered 0 ops.toList) σ k)

/-! ## Code -/

def firstRegion : Code → Option Nat
  | .region id _ _ => some id
  | .seq a b => (firstRegion a).orElse fun _ => firstRegion b
  | .block _ b => firstRegion b
  | .loop b => firstRegion b
  | .cond _ a b => (firstRegion a).orElse fun _ => firstRegion b
  | _ => none

def loopN (step : St → (AExit → St → Option R) → Option R) (lv : Cut) : Nat → List (Nat × AVal) → List Obj → (AExit → St → Option R) → Option R
  | 0, _, _, _ => none
  | n + 1, sl, os, k => step (St.of sl os) fun e σ => match e with
    | .normal => normL lv σ fun sl os => loopN step lv n sl os k
    | e => k e σ
/-- Behind a loop's exit: what is forgotten there. -/
def kExit (c : Ctx) (r : Nat) (k : AExit → St → Option R) : AExit → St → Option R
  | .exit id, σ => match c.exits r id with
    | some lv => norm lv σ (k (.exit id))
    | none => none
  | .ret, σ => norm c.res σ (k .ret)
  | .normal, _ => none

def kSeq (next : St → (AExit → St → Option R) → Option R) (k : AExit → St → Option R) : AExit → St → Option R
  | .normal, σ => next σ k
  | e, σ => k e σ
def kBlock (id : Nat) (k : AExit → St → Option R) : AExit → St → Option R
  | .exit j, σ => cond (Nat.beq j id) (k .normal σ) (k (.exit j) σ)
  | e, σ => k e σ
def kCut (cut : Option Cut) (next : St → (AExit → St → Option R) → Option R) (σ : St) (k : AExit → St → Option R) : Option R :=
  match cut with
  | some lv => norm lv σ fun σ => next σ k
  | none => next σ k
def cutAt (c : Ctx) (b : Code) : Option Cut := match b with
  | .loop _ => none
  | b => (firstRegion b).bind c.cut

def codeK (c : Ctx) : Code → St → (AExit → St → Option R) → Option R
  | .skip, σ, k => k .normal σ
  | .region _ ops draw, σ, k => regionK c ops draw σ (k .normal)
  | .seq a b, σ, k => codeK c a σ (kSeq (kCut (cutAt c b) (codeK c b)) k)
  | .cond x a b, σ, k => match ev σ x with
    | some (.data .bool t) => cond t (codeK c a σ k) (codeK c b σ k)
    | _ => none
  | .block id b, σ, k => codeK c b σ (kBlock id k)
  | .loop b, σ, k => match firstRegion b with
    | some r => match c.cut r with
      | some lv => match c.lp r with
        | some L => normL lv σ fun sl os => L R sl os k
        | none => none
      | none => none
    | none => none
  | .exit id, σ, k => k (.exit id) σ
  | .ret, σ, k => k .ret σ
  | _, _, _ => none

/-- The bodies of the loops of some code. -/
def loopsOf : Code → List Code
  | .seq a b => loopsOf a ++ loopsOf b
  | .cond _ a b => loopsOf a ++ loopsOf b
  | .block _ b => loopsOf b
  | .loop b => b :: loopsOf b
  | _ => []
/-- What is said of a loop is so. -/
def LoopOK (c : Ctx) (b : Code) : Prop := ∀ r lv L, firstRegion b = some r → c.cut r = some lv → c.lp r = some L →
  ∀ (R : Type) (sl : List (Nat × AVal)) (os : List Obj) (k : AExit → St → Option R) (x : R), L R sl os k = some x → loopN (codeK c b) lv c.fuel sl os (kExit c r k) = some x
/-- The loop whose first region has a number. -/
def loopAt (r : Nat) : List Code → Code
  | [] => .skip
  | b :: l => match firstRegion b with
    | some r' => cond (Nat.beq r r') b (loopAt r l)
    | none => loopAt r l

/-- A result: what a slot holds, or what stands in a variable. -/
def rvK (tt : Nat → Option Ty) (σ : St) : ResultVar → (AVal → Option R) → Option R
  | .tmp s, k => match σ.slots s with
    | some a => k a
    | none => none
  | .cell s T, k => match σ.slots s, tt T with
    | some x, some u => loadK σ x fun a => cond (u.sk.same a.sk) (k a) none
    | _, _ => none
/-- A function's results read at its end. -/
def resK (tt : Nat → Option Ty) (σ : St) : (ts : List Ty) → List ResultVar → (resDen ts → St → Option R) → Option R
  | [], [], k => k () σ
  | [t], [s], k => rvK tt σ s fun a => cond (a.val && a.sk.same t.sk) (give 20 a t σ k) none
  | t :: u :: ts, s :: l, k => rvK tt σ s fun a => cond (a.val && a.sk.same t.sk) (give 20 a t σ fun d σ => resK tt σ (u :: ts) l fun ds σ => k (d, ds) σ) none
  | _, _, _ => none

/-- The state at a function's start: its parameters as data. -/
def argSlots : (p : APat) → p.den → Nat → Nat → Option AVal
  | .pr (.val t) q, (x, y), i => upd (argSlots q y (i + 1)) i (some (.data t x))
  | _, _, _ => fun _ => none
def entry (p : APat) (d : p.den) : St := ⟨argSlots p d 0, fun _ => none, 0⟩
def bodyK (c : Ctx) (ts : List Ty) (rs : List ResultVar) (body : Code) (σ : St) : Option (resDen ts) :=
  codeK c body σ fun e σ => match e with
    | .exit _ => none
    | _ => norm c.res σ fun σ => resK c.tt σ ts rs fun r _ => some r

end Go.Kz
