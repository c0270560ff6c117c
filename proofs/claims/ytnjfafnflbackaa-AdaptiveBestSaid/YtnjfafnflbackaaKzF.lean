/-
  A symbolic interpreter over the model's Code: definitions only (no proof).
  Abstract values are typed data (lists, numbers, pairs) or references to objects that the running function owns.
-/
import Derived.WalkKit
import Derived.ProofKit
set_option linter.unusedVariables false
set_option linter.unusedSimpArgs false
namespace Go.Kz
theorem zI.{u} {α:Type u} (a b:α):(some a=some b)=(a=b):=Option.some.injEq a b
theorem zA (a b:Bool):((a&&b)=true)=(a=true∧b=true):=Bool.and_eq_true a b
theorem zE {n m:Nat} (h:Nat.beq n m=true):n=m:=Nat.eq_of_beq_eq_true h
theorem zL {n m:Nat} (h:Nat.ble n m=true):n≤m:=Nat.le_of_ble_eq_true h
inductive Ty where
 | int (k:IntKind) | bool | str | unit
 | pair (a b:Ty) | arr (n:Nat) (t:Ty) | sl (own:Bool) (t:Ty) | ptr (t:Ty) | fn (f:Nat) (c:Ty)
@[reducible] def Ty.den:Ty->Type
 | .int _=>Int
 | .bool=>Bool
 | .str=>List UInt8
 | .unit=>Unit
 | .pair a b=>a.den×b.den
 | .arr _ t=>List t.den
 | .sl _ t=>List t.den
 | .ptr t=>t.den
 | .fn _ c=>c.den
def Ty.same:(a b:Ty)->Option (PLift (a=b))
 | .int k,.int j=>if h:k=j then some ⟨by rw [h]⟩ else none
 | .bool,.bool=>some ⟨rfl⟩
 | .str,.str=>some ⟨rfl⟩
 | .unit,.unit=>some ⟨rfl⟩
 | .pair a b,.pair c d=>
  match Ty.same a c with
  | some h=>match Ty.same b d with
   | some h'=>some ⟨by rw [h.down,h'.down]⟩
   | none=>none
  | none=>none
 | .arr n t,.arr m u=>if h:n=m then match Ty.same t u with
   | some h'=>some ⟨by rw [h,h'.down]⟩
   | none=>none
  else none
 | .sl o t,.sl p u=>if h:o=p then match Ty.same t u with
   | some h'=>some ⟨by rw [h,h'.down]⟩
   | none=>none
  else none
 | .ptr t,.ptr u=>match Ty.same t u with
   | some h'=>some ⟨by rw [h'.down]⟩
   | none=>none
 | .fn f c,.fn g d=>if h:f=g then match Ty.same c d with
   | some h'=>some ⟨by rw [h,h'.down]⟩
   | none=>none
  else none
 | _,_=>none
def Ty.size:Ty->Nat
 | .unit=>0
 | .pair a b=>a.size+b.size
 | .arr n t=>n*t.size
 | _=>1
def Ty.ro:Ty->Ty
 | .sl _ t=>.sl false t.ro
 | .pair a b=>.pair a.ro b.ro
 | .arr n t=>.arr n t.ro
 | .ptr t=>.ptr t.ro
 | .fn f c=>.fn f c.ro
 | t=>t
theorem Ty.den_ro:(t:Ty)->t.ro.den=t.den
 | .int _=>rfl
 | .bool=>rfl
 | .str=>rfl
 | .unit=>rfl
 | .pair a b=>by simp only [Ty.ro,Ty.den,Ty.den_ro a,Ty.den_ro b]
 | .arr _ t=>by simp only [Ty.ro,Ty.den,Ty.den_ro t]
 | .sl _ t=>by simp only [Ty.ro,Ty.den,Ty.den_ro t]
 | .ptr t=>by simp only [Ty.ro,Ty.den,Ty.den_ro t]
 | .fn _ c=>by simp only [Ty.ro,Ty.den,Ty.den_ro c]
def Ty.toRo (t:Ty) (d:t.den):t.ro.den:=cast (Ty.den_ro t).symm d
def Ty.isRo:Ty->Bool
 | .sl o t=>!o && t.isRo
 | .pair a b=>a.isRo && b.isRo
 | .arr _ t=>t.isRo
 | .ptr t=>t.isRo
 | .fn _ c=>c.isRo
 | _=>true
def Ty.zero:(t:Ty)->Option t.den
 | .int _=>some (0:Int)
 | .bool=>some false
 | .str=>some ([]:List UInt8)
 | .unit=>some ()
 | .pair a b=>match a.zero,b.zero with
  | some x,some y=>some (x,y)
  | _,_=>none
 | .arr n t=>match t.zero with
  | some x=>some (List.replicate n x)
  | none=>none
 | .sl _ t=>some ([]:List t.den)
 | _=>none
inductive Sk where
 | leaf | unit | pair (a b:Sk) | arr (n:Nat) (t:Sk)
def Sk.size:Sk->Nat
 | .leaf=>1
 | .unit=>0
 | .pair a b=>a.size+b.size
 | .arr n t=>n*t.size
def Sk.same:Sk->Sk->Bool
 | .leaf,.leaf=>true
 | .unit,.unit=>true
 | .pair a b,.pair c d=>a.same c && b.same d
 | .arr n t,.arr m u=>Nat.beq n m && t.same u
 | _,_=>false
def Sk.isAgg:Sk->Bool
 | .leaf=>false
 | _=>true
def Ty.sk:Ty->Sk
 | .unit=>.unit
 | .pair a b=>.pair a.sk b.sk
 | .arr n t=>.arr n t.sk
 | _=>.leaf
def Ty.noSl:Ty->Bool
 | .sl _ _=>false
 | .pair a b=>a.noSl && b.noSl
 | .arr _ t=>t.noSl
 | .ptr _ | .fn _ _=>false
 | _=>true
inductive Step where
 | fst | snd | idx (i:Int)
abbrev z1a:=List Step
def idx {α:Type} (l:List α):Int->Option α
 | .ofNat n=>l[n]?
 | .negSucc _=>none
def zcx {α:Type} (l:List α) (i:Int) (x:α):List α:=l.set i.toNat x
def inb {α:Type} (l:List α) (i:Int):Bool:=decide (0≤i) && decide (i < (l.length:Int))
def chk {R:Type} (b:Bool) (x:Option R):Option R:=cond b x none
def z3e:Nat:=4294967296
def sub {α:Type} (l:List α) (a b:Int):List α:=(l.drop a.toNat).take (b.toNat-a.toNat)
variable {R:Type}
def z5q (a b:Ty) (d:a.den) (k:b.den->Option R):Option R:=
 match Ty.same a b with
 | some h=>k (cast (congrArg Ty.den h.down) d)
 | none=>none
def z13:(t:Ty)->t.den->z1a->((u:Ty)->u.den->Option R)->Option R
 | .pair a _,(x,_),.fst :: p,k=>z13 a x p k
 | .pair _ b,(_,y),.snd :: p,k=>z13 b y p k
 | .arr _ t,l,.idx i :: p,k=>(idx l i).bind fun x=>z13 t x p k
 | .sl true t,l,.idx i :: p,k=>(idx l i).bind fun x=>z13 t x p k
 | t,d,[],k=>k t d
 | _,_,_ :: _,_=>none
def z3z:(t:Ty)->t.den->z1a->(u:Ty)->u.den->(t.den->Option R)->Option R
 | .pair a _,(x,y),.fst :: p,u,e,k=>z3z a x p u e fun x'=>k (x',y)
 | .pair _ b,(x,y),.snd :: p,u,e,k=>z3z b y p u e fun y'=>k (x,y')
 | .arr _ t,l,.idx i :: p,u,e,k=>(idx l i).bind fun x=>z3z t x p u e fun x'=>k (zcx l i x')
 | .sl true t,l,.idx i :: p,u,e,k=>(idx l i).bind fun x=>z3z t x p u e fun x'=>k (zcx l i x')
 | t,_,[],u,e,k=>z5q u t e k
 | _,_,_ :: _,_,_,_=>none
inductive AVal where
 | data (t:Ty) (d:t.den)
 | nilS
 | ref (id:Nat) (p:z1a) (ep:Nat)
 | view (id:Nat) (p:z1a) (ep:Nat) (a b:Int)
 | bptr (id:Nat) (p:z1a)
 | eptr (id:Nat) (p:z1a) (ep:Nat)
 | mref (id:Nat)
 | nv (pt:Bool) (id:Nat) (p:z1a) (ep:Nat)
 | clos (f:Nat) (c:AVal)
 | ifc (t:Nat) (c:AVal)
 | agg (c:AVal)
 | tup (c:AVal)
 | pr (a b:AVal)
 | un
def AVal.sk:AVal->Sk
 | .data t _=>t.sk
 | .agg c=>c.sk
 | .tup c=>c.sk
 | .pr a b=>.pair a.sk b.sk
 | .un=>.unit
 | _=>.leaf
inductive Obj where
 | row (t:Ty) (l:List t.den) (ep:Nat)
 | cell (a:AVal)
 | map (kt vt:Ty) (m:List (kt.den×vt.den))
 | nest (t:Ty) (l:List t.den) (e i:Nat) (hole:Option z1a)
structure St where
 slots:Nat->Option AVal
 objs:Nat->Option Obj
 next:Nat
def upd {α:Type} (f:Nat->Option α) (i:Nat) (v:Option α):Nat->Option α:=fun j=>cond (Nat.beq j i) v (f j)
def St.set (σ:St) (i:Nat) (v:AVal):St:={ σ with slots:=upd σ.slots i (some v) }
def St.unset (σ:St):Option Nat->St
 | some i=>{ σ with slots:=upd σ.slots i none }
 | none=>σ
def St.setObj (σ:St) (i:Nat) (o:Obj):St:={ σ with objs:=upd σ.objs i (some o) }
def St.kill (σ:St) (i:Nat):St:={ σ with objs:=upd σ.objs i none }
def z2r:(t:Ty)->t.den->AVal
 | .pair a b,(x,y)=>.pr (.data a x) (z2r b y)
 | _,_=>.un
def zak:AVal->z1a->(AVal->Option R)->Option R
 | a,[],k=>k a
 | .agg c,s :: p,k=>zak c (s :: p) k
 | .pr a _,.fst :: p,k=>zak a p k
 | .pr _ b,.snd :: p,k=>zak b p k
 | .data t d,s :: p,k=>z13 t d (s :: p) fun u e=>k (.data u e)
 | _,_,_=>none
def z6s:Ty->z1a->Option Ty
 | t,[]=>some t
 | .pair a _,.fst :: p=>z6s a p
 | .pair _ b,.snd :: p=>z6s b p
 | .arr _ t,.idx _ :: p=>z6s t p
 | _,_=>none
def znq (t:Ty) (p:z1a):AVal->Bool
 | .data u _=>match z6s t p with
  | some v=>(Ty.same v u).isSome
  | none=>false
 | _=>false
def z0x (new:AVal):(t:Ty)->t.den->z1a->(AVal->Option R)->Option R
 | .pair a b,(x,y),[.fst],k=>k (.pr new (z2r b y))
 | .pair a b,(x,y),.fst :: s :: p,k=>z0x new a x (s :: p) fun u=>k (.pr (.agg u) (z2r b y))
 | .pair a b,(x,y),.snd :: p,k=>z0x new b y p fun u=>k (.pr (.data a x) u)
 | _,_,_,_=>none
def zim (new:AVal) (t:Ty) (d:t.den) (p:z1a) (k:AVal->Option R):Option R:=match new with
 | .data u e=>z3z t d p u e fun d=>k (.data t d)
 | _=>none
def z7n (new:AVal):AVal->z1a->(AVal->Option R)->Option R
 | _,[],k=>k new
 | .agg c,s :: p,k=>z7n new c (s :: p) fun c=>k (.agg c)
 | .pr a b,.fst :: p,k=>z7n new a p fun a=>k (.pr a b)
 | .pr a b,.snd :: p,k=>z7n new b p fun b=>k (.pr a b)
 | .data t d,s :: p,k=>cond (znq t (s :: p) new) (zim new t d (s :: p) k)
   (z0x new t d (s :: p) fun u=>cond (u.sk.same t.sk) (k (.agg u)) none)
 | _,_,_=>none
def zvi (t:Ty) (l:List t.den) (p:z1a) (k:(u:Ty)->u.den->Option R):Option R:=z13 (.sl true t) l p k
def z6m (σ:St) (id:Nat) (p:z1a) (ep:Nat) (k:(u:Ty)->List u.den->Option R):Option R:=
 match σ.objs id with
 | some (.row t l e)=>cond (Nat.beq e ep) (zvi t l p fun u d=>match u,d with
  | .sl true v,l=>k v l
  | _,_=>none) none
 | _=>none
def z4u (σ:St) (id:Nat) (p:z1a) (ep:Nat) (k:(u:Ty)->u.den->Option R):Option R:=
 match σ.objs id with
 | some (.row t l e)=>cond (Nat.beq e ep) (zvi t l p k) none
 | _=>none
def AVal.isTup:AVal->Bool
 | .tup _=>true
 | _=>false
def AVal.isCon:AVal->Bool
 | .tup (.agg _)=>true
 | .tup (.mref _)=>true
 | _=>false
def AVal.cont:AVal->Option AVal
 | .tup (.agg c)=>some (.agg c)
 | .tup (.mref i)=>some (.mref i)
 | .tup _=>none
 | a=>some a
def z7k (σ:St) (id:Nat) (p:z1a) (k:AVal->Option R):Option R:=
 match σ.objs id with
 | some (.cell a)=>match a.cont with
  | some x=>zak x p k
  | none=>none
 | _=>none
def zcq (σ:St) (id:Nat) (p:z1a) (k:AVal->Option R):Option R:=
 match σ.objs id with
 | some (.cell a)=>cond a.isTup none (zak a p k)
 | _=>none
def nep:Bool->z1a->Nat->Nat->Nat
 | false,[],e,_=>e
 | _,_,_,i=>i
def z6l (σ:St) (pt:Bool) (id:Nat) (p:z1a) (ep:Nat) (k:(u:Ty)->u.den->Option R):Option R:=
 match σ.objs id with
 | some (.nest t l e i none)=>cond (Nat.beq (nep pt p e i) ep) (zvi t l p k) none
 | _=>none
def zd3 (σ:St) (id:Nat) (p:z1a) (ep:Nat) (k:(v:Ty)->List v.den->Option R):Option R:=
 z6l σ false id p ep fun u d=>match u,d with
  | .sl true v,l=>k v l
  | _,_=>none
def nilK:(t:Ty)->(t.den->Option R)->Option R
 | .sl _ _,k=>k []
 | _,_=>none
def z0d (σ:St):Nat->(a:AVal)->(t:Ty)->(t.den->Option R)->Option R
 | 0,_,_,_=>none
 | _+1,.data t' d,t,k=>z5q t' t d k
 | _+1,.nilS,t,k=>cond t.isRo (nilK t k) none
 | _+1,.ref id p ep,t,k=>z6m σ id p ep fun v l=>z5q (Ty.ro (.sl false v)) t (Ty.toRo (.sl false v) l) k
 | _+1,.view id p ep a b,t,k=>z6m σ id p ep fun v l=>z5q (Ty.ro (.sl false v)) t (Ty.toRo (.sl false v) (sub l a b)) k
 | _+1,.nv false id p ep,t,k=>zd3 σ id p ep fun v l=>z5q (Ty.ro (.sl false v)) t (Ty.toRo (.sl false v) l) k
 | n+1,.bptr id p,.ptr t,k=>z7k σ id p fun a=>z0d σ n a t k
 | _+1,.eptr id p ep,.ptr t,k=>z4u σ id p ep fun u d=>z5q u.ro t (Ty.toRo u d) k
 | n+1,.clos f c,.fn g t,k=>cond (Nat.beq f g) (z0d σ n c t k) none
 | n+1,.agg c,t,k=>z0d σ n c t k
 | n+1,.pr a b,.pair t u,k=>z0d σ n a t fun x=>z0d σ n b u fun y=>k (x,y)
 | _+1,.un,.unit,k=>k ()
 | _+1,_,_,_=>none
def z2y:Nat->(a:AVal)->(u:Ty)->St->(u.den->St->Option R)->Option R
 | 0,_,_,_,_=>none
 | _+1,.data t d,u,σ,k=>z5q t u d fun d=>k d σ
 | _+1,.nilS,u,σ,k=>nilK u fun d=>k d σ
 | _+1,.ref id [] ep,u,σ,k=>
  match σ.objs id with
  | some (.row t l e)=>cond (Nat.beq e ep)
   (match u,k with
    | .sl true v,k=>z5q (.sl true t) (.sl true v) l fun d=>k d (σ.kill id)
    | .sl false v,k=>z5q (Ty.ro (.sl false t)) (.sl false v) (Ty.toRo (.sl false t) l) fun d=>k d (σ.kill id)
    | _,_=>none) none
  | _=>none
 | _+1,.nv false id [] ep,u,σ,k=>
  match σ.objs id with
  | some (.nest t l e _ none)=>cond (Nat.beq e ep)
   (match u,k with
    | .sl false v,k=>z5q (Ty.ro (.sl false t)) (.sl false v) (Ty.toRo (.sl false t) l) fun d=>k d (σ.kill id)
    | _,_=>none) none
  | _=>none
 | n+1,.bptr id [],.ptr u,σ,k=>
  match σ.objs id with
  | some (.cell a)=>cond a.isTup none (z2y n a u (σ.kill id) k)
  | _=>none
 | n+1,.clos f c,.fn g t,σ,k=>cond (Nat.beq f g) (z2y n c t σ k) none
 | n+1,.agg c,u,σ,k=>z2y n c u σ k
 | n+1,.pr a b,.pair t u,σ,k=>z2y n a t σ fun x σ=>z2y n b u σ fun y σ=>k (x,y) σ
 | _+1,.un,.unit,σ,k=>k () σ
 | _+1,_,_,_,_=>none
def z4e:Ty->Option AVal×Option AVal
 | .sl _ _=>(some .nilS,none)
 | .unit=>(match (Ty.unit).zero,(Ty.unit).noSl with
  | some z,true=>some (.data .unit z)
  | _,_=>none,some .un)
 | .pair a b=>
  let c:=match (z4e a).1,(z4e b).2 with
   | some x,some y=>some (.pr x y)
   | _,_=>none
  (match Ty.zero (.pair a b),(Ty.pair a b).noSl with
  | some z,true=>some (.data (.pair a b) z)
  | _,_=>c.map .agg,c)
 | t=>(match t.zero,t.noSl with
  | some z,true=>some (.data t z)
  | _,_=>none,none)
def zad (t:Ty):Option AVal:=(z4e t).1
def zeb (t:Ty):Option AVal:=(z4e t).2
def z06:(t:Ty)->t.den->Nat->AVal×List Obj
 | .sl true t,l,n=>(.ref n [] 0,[.row t l 0])
 | .pair a b,(x,y),n=>
  cond (Ty.isRo (.pair a b)) (.data (.pair a b) (x,y),[])
   (let u:=z06 a x n
    let v:=exposeC b y (n+u.2.length)
    (.agg (.pr u.1 v.1),u.2++v.2))
 | t,d,_=>(.data t d,[])
where exposeC:(t:Ty)->t.den->Nat->AVal×List Obj
 | .pair a b,(x,y),n=>
   (let u:=z06 a x n
    let v:=exposeC b y (n+u.2.length)
    (.pr u.1 v.1,u.2++v.2))
 | _,_,_=>(.un,[])
end Go.Kz
namespace Go.Kz
structure TabE where
 n:Nat
 t:Ty
 l:List t.den
def tab (_:Nat):Option TabE:=none
def idxT {α:Type} (l:List α) (i:Int):Option α:=idx l i
theorem idxT_eq {α:Type} (l:List α) (i:Int):idxT l i=idx l i:=rfl
end Go.Kz
namespace Go.Kz
noncomputable section
variable {R:Type}
inductive APat where
 | val (t:Ty) | ref (i:Nat) | bptr (i:Nat) | clos (f:Nat) (c:APat) | agg (c:APat) | pr (a b:APat) | un
@[reducible] def APat.den:APat->Type
 | .val t=>t.den
 | .ref _=>Unit
 | .bptr _=>Unit
 | .clos _ c=>c.den
 | .agg c=>c.den
 | .pr a b=>a.den×b.den
 | .un=>Unit
@[reducible] def z33:List Ty->Type
 | []=>Unit
 | [t]=>t.den
 | t :: u :: ts=>t.den×z33 (u :: ts)
inductive SPat where
 | val (t:Ty) | nilS | ref (id:Nat) | view (id:Nat) | bptr (id:Nat) (p:z1a) | mref (id:Nat) | nv (id:Nat) | nvi (id:Nat) | clos (f:Nat) (c:SPat) | ifc (t:Nat) (c:SPat) | agg (c:SPat) | pr (a b:SPat) | un
@[reducible] def SPat.den:SPat->Type
 | .val t=>t.den
 | .view _=>Int×Int
 | .nvi _=>Int
 | .clos _ c=>c.den
 | .ifc _ c=>c.den
 | .agg c=>c.den
 | .pr a b=>a.den×b.den
 | _=>Unit
def SPat.mk:(p:SPat)->p.den->AVal
 | .val t,d=>.data t d
 | .nilS,_=>.nilS
 | .ref id,_=>.ref id [] 0
 | .view id,d=>.view id [] 0 d.1 d.2
 | .bptr id p,_=>.bptr id p
 | .mref id,_=>.mref id
 | .nv id,_=>.nv false id [] 0
 | .nvi id,d=>.nv false id [.idx d] 0
 | .clos f c,d=>.clos f (c.mk d)
 | .ifc t c,d=>.ifc t (c.mk d)
 | .agg c,d=>.agg (c.mk d)
 | .pr a b,d=>.pr (a.mk d.1) (b.mk d.2)
 | .un,_=>.un
def stepB:Step->Step->Bool
 | .fst,.fst=>true
 | .snd,.snd=>true
 | _,_=>false
def zu3:z1a->z1a->Bool
 | [],[]=>true
 | a :: p,b :: q=>stepB a b && zu3 p q
 | _,_=>false
def SPat.take:(p:SPat)->AVal->(p.den->Option R)->Option R
 | .val t,.data u d,k=>z5q u t d k
 | .nilS,.nilS,k=>k ()
 | .ref id,.ref id' [] ep,k=>cond (Nat.beq id id' && Nat.beq ep 0) (k ()) none
 | .view id,.view id' [] ep a b,k=>cond (Nat.beq id id' && Nat.beq ep 0) (k (a,b)) none
 | .bptr id p,.bptr id' p',k=>cond (Nat.beq id id' && zu3 p p') (k ()) none
 | .mref id,.mref id',k=>cond (Nat.beq id id') (k ()) none
 | .nv id,.nv false id' [] ep,k=>cond (Nat.beq id id' && Nat.beq ep 0) (k ()) none
 | .nvi id,.nv false id' [.idx i] ep,k=>cond (Nat.beq id id' && Nat.beq ep 0) (k i) none
 | .clos f c,.clos g d,k=>cond (Nat.beq f g) (c.take d k) none
 | .ifc f c,.ifc g d,k=>cond (Nat.beq f g) (c.take d k) none
 | .agg c,.agg d,k=>c.take d k
 | .pr a b,.pr x y,k=>a.take x fun d=>b.take y fun e=>k (d,e)
 | .un,.un,k=>k ()
 | _,_,_=>none
inductive SObj where
 | row (t:Ty) | cell (p:SPat) | map (kt vt:Ty) | nest (t:Ty) | iter (id:Nat) | con (p:SPat)
@[reducible] def SObj.den:SObj->Type
 | .row t=>List t.den
 | .cell p=>p.den
 | .map kt vt=>List (kt.den×vt.den)
 | .nest t=>List t.den
 | .iter _=>Int×List Int×Int
 | .con p=>p.den
def zae (id:Nat) (n:Int) (left:List Int) (cur:Int):AVal:=.tup (.pr (.mref id) (.pr (.data (.int .i64) n) (.pr (.data (.sl false (.int .i64)) left) (.pr (.data (.int .i64) cur) .un))))
def SObj.mk:(o:SObj)->o.den->Obj
 | .row t,l=>.row t l 0
 | .cell p,d=>.cell (p.mk d)
 | .map kt vt,m=>.map kt vt m
 | .nest t,l=>.nest t l 0 0 none
 | .iter id,d=>.cell (zae id d.1 d.2.1 d.2.2)
 | .con p,d=>.cell (.tup (p.mk d))
def castM (kt vt kt' vt':Ty) (m:List (kt.den×vt.den)) (k:List (kt'.den×vt'.den)->Option R):Option R:=
 match Ty.same kt kt',Ty.same vt vt' with
 | some h,some h'=>k (cast (by rw [h.down,h'.down]) m)
 | _,_=>none
def SObj.take:(o:SObj)->Obj->(o.den->Option R)->Option R
 | .row t,.row u l ep,k=>cond (Nat.beq ep 0) (z5q (.sl true u) (.sl true t) l k) none
 | .cell p,.cell a,k=>p.take a k
 | .map kt vt,.map kt' vt' m,k=>castM kt' vt' kt vt m k
 | .nest t,.nest u l e i none,k=>cond (Nat.beq e 0 && Nat.beq i 0) (z5q (.sl true u) (.sl true t) l k) none
 | .iter id,.cell (.tup (.pr (.mref id') (.pr (.data (.int .i64) n) (.pr (.data (.sl false (.int .i64)) left) (.pr (.data (.int .i64) cur) .un))))),k=>cond (Nat.beq id id') (k (n,left,cur)) none
 | .con p,.cell (.tup a),k=>p.take a k
 | _,_,_=>none
structure SForm where
 slots:List (Nat×SPat)
 objs:List SObj
@[reducible] def zcw:List (Nat×SPat)->Type
 | []=>Unit
 | (_,p) :: l=>p.den×zcw l
@[reducible] def zhv:List SObj->Type
 | []=>Unit
 | o :: l=>o.den×zhv l
@[reducible] def SForm.den (f:SForm):Type:=zcw f.slots×zhv f.objs
def z84:(l:List (Nat×SPat))->zcw l->List (Nat×AVal)
 | [],_=>[]
 | (i,p) :: l,d=>(i,p.mk d.1) :: z84 l d.2
def z96:(l:List SObj)->zhv l->List Obj
 | [],_=>[]
 | o :: l,d=>o.mk d.1 :: z96 l d.2
def zij:(l:List (Nat×SPat))->List (Nat×AVal)->(zcw l->Option R)->Option R
 | [],[],k=>k ()
 | (i,p) :: l,(j,a) :: m,k=>cond (Nat.beq i j) (p.take a fun d=>zij l m fun e=>k (d,e)) none
 | _,_,_=>none
def zfp:(l:List SObj)->List Obj->(zhv l->Option R)->Option R
 | [],[],k=>k ()
 | o :: l,x :: m,k=>o.take x fun d=>zfp l m fun e=>k (d,e)
 | _,_,_=>none
def SForm.take (f:SForm) (sl:List (Nat×AVal)) (os:List Obj) (k:f.den->Option R):Option R:=
 zij f.slots sl fun d=>zfp f.objs os fun e=>k (d,e)
inductive Callee where
 | pure (args:APat) (res:List Ty) (F:args.den->Option (z33 res))
 | mut (fin:SForm) (anch:List Nat) (fout:SForm) (F:fin.den->Option fout.den)
def fits:APat->AVal->Bool
 | .val (.fn f _),.clos g _=>Nat.beq f g
 | .val (.fn f _),.data (.fn g _) _=>Nat.beq f g
 | .val t,.data u _=>(Ty.same t u).isSome
 | .clos f c,.clos g d=>Nat.beq f g && fits c d
 | .agg c,.agg d=>fits c d
 | .pr p q,.pr x y=>fits p x && fits q y
 | _,_=>true
def fitS:SPat->AVal->Bool
 | .val (.fn f _),.clos g _=>Nat.beq f g
 | .val (.fn f _),.data (.fn g _) _=>Nat.beq f g
 | .val t,.data u _=>(Ty.same t u).isSome
 | .val _,.clos _ _=>false
 | .val _,_=>true
 | .nilS,.nilS=>true
 | .ref _,.ref _ _ _=>true
 | .view _,.view _ _ _ _ _=>true
 | .bptr _ _,.bptr _ _=>true
 | .mref _,.mref _=>true
 | .nv _,.nv false _ [] _=>true
 | .nvi _,.nv false _ (_ :: _) _=>true
 | .clos f c,.clos g d=>Nat.beq f g && fitS c d
 | .ifc f c,.ifc g d=>Nat.beq f g && fitS c d
 | .agg c,.agg d=>fitS c d
 | .pr p q,.pr x y=>fitS p x && fitS q y
 | .un,.un=>true
 | _,_=>false
def fitL:List (Nat×SPat)->AVal->Bool
 | [],.un=>true
 | (_,p) :: l,.pr a c=>fitS p a && fitL l c
 | _,_=>false
def Callee.fits:Callee->AVal->Bool
 | .pure p _ _,a=>Go.Kz.fits p a
 | .mut fin _ _ _,a=>fitL fin.slots a
def zbv (a:AVal):List Callee->Option Callee
 | []=>none
 | c :: l=>cond (c.fits a) (some c) (zbv a l)
abbrev Bnd:=List (Nat×Nat)
def z1v {α:Type}:List (Nat×α)->Nat->Option α
 | [],_=>none
 | (i,v) :: l,j=>cond (Nat.beq i j) (some v) (z1v l j)
def z12 {α:Type}:List α->Nat->Option α
 | [],_=>none
 | x :: _,0=>some x
 | _ :: l,n+1=>z12 l n
def zx7:Bnd->Nat->Bool
 | [],_=>false
 | (_,v) :: l,x=>cond (Nat.beq v x) true (zx7 l x)
def zp6 (b:Bnd) (i id:Nat) (k:Bnd->Option R):Option R:=
 match z1v b i with
 | some j=>cond (Nat.beq j id) (k b) none
 | none=>cond (zx7 b id) none (k ((i,id) :: b))
def z2e (σ:St):(p:APat)->(a:AVal)->Bnd->(p.den->Bnd->Option R)->Option R
 | .val t,a,b,k=>z0d σ 20 a t fun d=>k d b
 | .ref i,.ref id [] ep,b,k=>
  match σ.objs id with
  | some (.row _ _ e)=>cond (Nat.beq e ep) (zp6 b i id fun b=>k () b) none
  | _=>none
 | .bptr i,.bptr id [],b,k=>zp6 b i id fun b=>k () b
 | .clos f c,.clos g d,b,k=>cond (Nat.beq f g) (z2e σ c d b k) none
 | .agg c,.agg d,b,k=>z2e σ c d b k
 | .pr p q,.pr x y,b,k=>z2e σ p x b fun dx b=>z2e σ q y b fun dy b=>k (dx,dy) b
 | .un,.un,b,k=>k () b
 | _,_,_,_=>none
def St.only (σ:St) (p:Nat->Bool):St:={ σ with objs:=fun i=>cond (p i) (σ.objs i) none }
def St.addObjs (σ:St) (n:Nat):List Obj->St
 | []=>σ
 | o :: os=>(σ.setObj n o).addObjs (n+1) os
def z08:(ts:List Ty)->z33 ts->Nat->AVal×List Obj
 | [],_,_=>(.tup .un,[])
 | [t],d,n=>z06 t d n
 | t :: u :: ts,(d,ds),n=>
  let x:=z06 t d n;let y:=chain (u :: ts) ds (n+x.2.length)
  (.tup (.pr x.1 y.1),x.2++y.2)
where chain:(ts:List Ty)->z33 ts->Nat->AVal×List Obj
 | [],_,_=>(.un,[])
 | [t],d,n=>let x:=z06 t d n;(.pr x.1 .un,x.2)
 | t :: u :: ts,(d,ds),n=>
  let x:=z06 t d n;let y:=chain (u :: ts) ds (n+x.2.length)
  (.pr x.1 y.1,x.2++y.2)
inductive Conv where
 | row (t:Ty) | dat (t:Ty) | con
structure Cut where
 live:List Nat
 conv:List (Nat×Option z1a×Conv)
def AVal.ids:AVal->List Nat
 | .ref i _ _ | .view i _ _ _ _ | .bptr i _ | .eptr i _ _ | .mref i | .nv _ i _ _=>[i]
 | .clos _ c | .ifc _ c | .agg c | .tup c=>c.ids
 | .pr a b=>a.ids++b.ids
 | _=>[]
def AVal.ren (objs:Nat->Option Obj) (ρ:Nat->Option Nat):AVal->Option AVal
 | .ref i p ep=>match p,objs i with
  | [],some (.row _ _ e)=>cond (Nat.beq e ep) ((ρ i).map fun j=>.ref j [] 0) none
  | _,_=>none
 | .view i p ep a b=>match p,objs i with
  | [],some (.row _ _ e)=>cond (Nat.beq e ep) ((ρ i).map fun j=>.view j [] 0 a b) none
  | _,_=>none
 | .bptr i p=>(ρ i).map fun j=>.bptr j p
 | .mref i=>(ρ i).map fun j=>.mref j
 | .nv pt i p ep=>match pt,objs i with
  | false,some (.nest _ _ e i' none)=>cond (Nat.beq (nep false p e i') ep) ((ρ i).map fun j=>.nv false j p 0) none
  | _,_=>none
 | .clos f c=>(c.ren objs ρ).map fun c=>.clos f c
 | .ifc f c=>(c.ren objs ρ).map fun c=>.ifc f c
 | .agg c=>(c.ren objs ρ).map fun c=>.agg c
 | .pr a b=>match a.ren objs ρ,b.ren objs ρ with
  | some a,some b=>some (.pr a b)
  | _,_=>none
 | .un=>some .un
 | .nilS=>some .nilS
 | .data t d=>some (.data t d)
 | _=>none
def z9k (objs:Nat->Option Obj) (ρ:Nat->Option Nat):AVal->Option AVal
 | .tup c=>(c.ren objs ρ).map .tup
 | a=>a.ren objs ρ
def Obj.ren (objs:Nat->Option Obj) (ρ:Nat->Option Nat):Obj->Option Obj
 | .row t l _=>some (.row t l 0)
 | .cell a=>(z9k objs ρ a).map .cell
 | .map k v m=>some (.map k v m)
 | .nest t l _ _ none=>some (.nest t l 0 0 none)
 | .nest _ _ _ _ (some _)=>none
def z2q (x:Nat):List Nat->Bool
 | []=>false
 | y :: l=>cond (Nat.beq y x) true (z2q x l)
def z1e (x:Nat):List Nat->Nat->Option Nat
 | [],_=>none
 | y :: l,i=>cond (Nat.beq y x) (some i) (z1e x l (i+1))
def z52 (objs:Nat->Option Obj):Nat->List Nat->List Nat->List Nat
 | 0,_,seen=>seen
 | _+1,[],seen=>seen
 | n+1,x :: todo,seen=>
  cond (z2q x seen) (z52 objs n todo seen)
   (match objs x with
    | some (.cell a)=>z52 objs n (a.ids++todo) (seen++[x])
    | _=>z52 objs n todo (seen++[x]))
def St.of (sl:List (Nat×AVal)) (os:List Obj):St:=⟨z1v sl,z12 os,os.length⟩
def zbr (objs:Nat->Option Obj) (ρ:Nat->Option Nat):List (Nat×AVal)->Option (List (Nat×AVal))
 | []=>some []
 | (i,a) :: l=>match a.ren objs ρ,zbr objs ρ l with
  | some a,some l=>some ((i,a) :: l)
  | _,_=>none
def zcy (ρ:Nat->Option Nat) (objs:Nat->Option Obj):List Nat->Option (List Obj)
 | []=>some []
 | i :: l=>match (objs i).bind (·.ren objs ρ),zcy ρ objs l with
  | some o,some l=>some (o :: l)
  | _,_=>none
def z9b (σ:St):List Nat->Option (List (Nat×AVal))
 | []=>some []
 | i :: l=>match σ.slots i,z9b σ l with
  | some a,some l=>some ((i,a) :: l)
  | _,_=>none
def AVal.val:AVal->Bool
 | .agg (.pr _ _) | .agg .un=>true
 | .agg _ | .pr _ _ | .un | .tup _=>false
 | _=>true
def zxz (σ:St) (x:AVal) (k:AVal->St->Option R):Option R:=match x with
 | .view id [] ep a b=>match σ.objs id with
  | some (.row t l e)=>cond (Nat.beq e ep) (k (.ref id [] (e+1)) (σ.setObj id (.row t (sub l a b) (e+1)))) none
  | _=>none
 | x=>k x σ
def zqx (σ:St) (a:AVal):Conv->(AVal->St->Option R)->Option R
 | .row t,k=>match a with
  | .nilS=>cond t.isRo (k (.ref σ.next [] 0) { σ.setObj σ.next (.row t [] 0) with next:=σ.next+1 }) none
  | a=>zxz σ a k
 | .dat t,k=>cond (t.isRo && a.val && a.sk.same t.sk) (z2y 20 a t σ fun d σ=>k (.data t d) σ) none
 | .con,_=>none
def convC (σ:St) (i:Nat) (k:St->Option R):Option R:=match σ.slots i with
 | some (.bptr id _)=>match σ.objs id with
  | some (.cell (.tup _))=>k σ
  | some (.cell a)=>cond (AVal.tup a).isCon (k (σ.setObj id (.cell (.tup a)))) none
  | _=>none
 | _=>none
def zi3:List (Nat×Option z1a×Conv)->St->(St->Option R)->Option R
 | [],σ,k=>k σ
 | (i,none,c) :: l,σ,k=>
  match σ.slots i with
  | some a=>cond a.val (zqx σ a c fun a σ=>zi3 l (σ.set i a) k) none
  | none=>none
 | (i,some p,c) :: l,σ,k=>match c with
  | .con=>convC σ i fun σ=>zi3 l σ k
  | c=>match σ.slots i with
   | some (.bptr id _)=>zcq σ id p fun a=>cond a.val (zqx σ a c fun a σ=>zcq σ id [] fun whole=>z7n a whole p fun whole=>zi3 l (σ.setObj id (.cell whole)) k) none
   | _=>none
def zvn (l:List (Nat×AVal)) (σ:St) (k:List (Nat×AVal)->List Obj->Option R):Option R:=
 let ids:=z52 σ.objs 100 (l.flatMap fun x=>x.2.ids) [];let ρ:=fun i=>z1e i ids 0
 match zbr σ.objs ρ l,zcy ρ σ.objs ids with
 | some l',some os=>k l' os
 | _,_=>none
def znc (cut:Cut) (σ:St) (k:List (Nat×AVal)->List Obj->Option R):Option R:=
 zi3 cut.conv σ fun σ=>match z9b σ cut.live with
  | some l=>zvn l σ k
  | none=>none
def norm (cut:Cut) (σ:St) (k:St->Option R):Option R:=znc cut σ fun sl os=>k (St.of sl os)
inductive AExit where
 | normal | exit (id:Nat) | ret
abbrev z0m:=(R:Type)->List (Nat×AVal)->List Obj->(AExit->St->Option R)->Option R
structure Ctx where
 fuel:Nat
 tt:Nat->Option Ty
 mt:Nat->Option (Ty×Ty)
 ntmps:Nat
 env:Nat->List Callee
 cut:Nat->Option Cut
 exits:Nat->Nat->Option Cut
 res:Cut
 own:Nat->Option Ty
 lp:Nat->Option z0m
 eqs:Nat->Bool:=fun _=>false
 ct:Nat->Bool:=fun _=>false
 ms:Nat->String->Option (Nat×Option Nat):=fun _ _=>none
def ztr (c:Ctx) (d:Option Nat) (t:Nat):Option Ty:=
 match d.bind c.own with
 | some u=>match c.tt t with
  | some v=>match Ty.same u.ro v.ro with
   | some _=>some u
   | none=>none
  | none=>none
 | none=>c.tt t
def froz (c:Ctx) (d:Option Nat):Bool:=match d.bind c.own with
 | some (.sl false _)=>true
 | _=>false
def ev (σ:St):Operand->Option AVal
 | .tmp t=>σ.slots t
 | .const (.int k n)=>cond (decide (k.min≤n) && decide (n≤k.max)) (some (.data (.int k) n)) none
 | .const (.bool b)=>some (.data .bool b)
 | .const (.string s)=>cond (Nat.ble s.size 100000) (some (.data .str s.data.toList)) none
 | .const (.slice none 0 0)=>some .nilS
 | .func f=>some (.clos f .un)
 | .global g=>match tab g with
  | some e=>some (.data (.ptr (.arr e.n e.t)) e.l)
  | none=>none
 | _=>none
def evs (σ:St):List Operand->Option AVal
 | []=>some .un
 | x :: l=>match ev σ x,evs σ l with
  | some a,some c=>some (.pr a c)
  | _,_=>none
def z4x:AVal->AVal->AVal
 | .pr a b,c=>.pr a (z4x b c)
 | _,c=>c
def isPtr:AVal->Bool
 | .bptr _ _ | .eptr _ _ _ | .data (.ptr _) _=>true
 | _=>false
def holds (σ:St):AVal->Bool
 | .data (.ptr _) _=>true
 | .bptr id _=>match σ.objs id with
  | some (.cell _)=>true
  | _=>false
 | .eptr id _ ep=>match σ.objs id with
  | some (.row _ _ e)=>Nat.beq e ep
  | _=>false
 | .nv true id _ ep=>match σ.objs id with
  | some (.nest _ _ _ i none)=>Nat.beq i ep
  | _=>false
 | _=>false
def z1z:AVal->Bool
 | .un=>true
 | .pr (.bptr _ _) c=>z1z c
 | .pr (.data (.ptr _) _) c=>z1z c
 | _=>false
def St.putK (σ:St) (c:Ctx) (d:Option Nat) (v:AVal) (k:St->Option R):Option R:=match d with
 | some i=>cond (Nat.blt i c.ntmps) (k (σ.set i v)) none
 | none=>k σ
def zk1 (op:BinOp) (k:IntKind) (a b:Int) (f:AVal->Option R):Option R:=
 match op with
 | .add=>f (.data (.int k) (k.wrap (a+b)))
 | .sub=>f (.data (.int k) (k.wrap (a-b)))
 | .mul=>f (.data (.int k) (k.wrap (a*b)))
 | .quo=>cond (b == 0) none (f (.data (.int k) (k.wrap (a.tdiv b))))
 | .rem=>cond (b == 0) none (f (.data (.int k) (a.tmod b)))
 | .and=>f (.data (.int k) (k.wrap (BitVec.ofInt k.bits a &&& BitVec.ofInt k.bits b).toNat))
 | .or=>f (.data (.int k) (k.wrap (BitVec.ofInt k.bits a ||| BitVec.ofInt k.bits b).toNat))
 | .xor=>f (.data (.int k) (k.wrap (BitVec.ofInt k.bits a ^^^ BitVec.ofInt k.bits b).toNat))
 | .andNot=>f (.data (.int k) (k.wrap (BitVec.ofInt k.bits a &&& ~~~BitVec.ofInt k.bits b).toNat))
 | .eql=>f (.data .bool (a == b))
 | .neq=>f (.data .bool (a != b))
 | .lss=>f (.data .bool (decide (a < b)))
 | .leq=>f (.data .bool (decide (a≤b)))
 | .gtr=>f (.data .bool (decide (a > b)))
 | .geq=>f (.data .bool (decide (a ≥ b)))
 | _=>none
def z9x (op:BinOp) (k:IntKind) (a b:Int) (f:AVal->Option R):Option R:=
 match op with
 | .shl=>cond (decide (b < 0)) none (f (.data (.int k) (k.wrap (a*2 ^ (min b.toNat k.bits)))))
 | .shr=>cond (decide (b < 0)) none (f (.data (.int k) (a.fdiv (2 ^ (min b.toNat k.bits)))))
 | _=>none
def zgb:BinOp->Bool
 | .shl | .shr=>true
 | _=>false
def zhc (op:BinOp) (a b:Bool) (f:AVal->Option R):Option R:=
 match op with
 | .eql=>f (.data .bool (a == b))
 | .neq=>f (.data .bool (!(a == b)))
 | _=>none
def z38:Ty->Bool
 | .int _ | .bool | .str=>true
 | _=>false
def z42:(t:Ty)->t.den->t.den->Bool
 | .int _,a,b=>decide (a=b)
 | .bool,a,b=>a == b
 | .str,a,b=>decide (a=b)
 | _,_,_=>false
def z5p {α:Type} (f:α->α->Bool):List α->List α->Bool
 | [],[]=>true
 | x :: l,y :: m=>cond (f x y) (z5p f l m) false
 | _,_=>false
def z47:Ty->Bool
 | .unit=>true
 | .pair a b=>z38 a && z47 b
 | .arr _ a=>z38 a
 | _=>false
def eqD:(t:Ty)->t.den->t.den->Bool
 | .unit,_,_=>true
 | .pair a b,(x,u),(y,v)=>z42 a x y && eqD b u v
 | .arr _ a,x,y=>z5p (z42 a) x y
 | _,_,_=>false
def kTy:Ty->Bool
 | .pair a b=>z47 (.pair a b)
 | t=>z38 t
def kEq (t:Ty):t.den->t.den->Bool:=cond (z38 t) (z42 t) (eqD t)
def zqw (op:BinOp) (b:Bool) (f:AVal->Option R):Option R:=
 match op with
 | .eql=>f (.data .bool b)
 | .neq=>f (.data .bool (!b))
 | _=>none
def binK (σ:St) (q:Bool) (t:Option Ty) (op:BinOp) (x y:AVal) (f:AVal->Option R):Option R:=
 match x,y with
 | .data (.int k) a,.data (.int j) b=>cond (zgb op) (z9x op k a b f) (match decEq k j with
   | isTrue _=>zk1 op k a b f
   | isFalse _=>none)
 | .data .bool a,.data .bool b=>match t with
  | some .bool=>zhc op a b f
  | _=>none
 | x,y=>match t with
  | some u=>cond (q && z47 u && x.val && y.val) (z0d σ 20 x u fun d=>z0d σ 20 y u fun e=>zqw op (eqD u d e) f) none
  | none=>none
def unK (op:UnOp) (x:AVal) (f:AVal->Option R):Option R:=
 match op,x with
 | .not,.data .bool a=>f (.data .bool (!a))
 | .neg,.data (.int k) a=>f (.data (.int k) (k.wrap (0-a)))
 | .xor,.data (.int k) a=>f (.data (.int k) (k.wrap (BitVec.ofInt k.bits (if k.signed then -1 else k.max) ^^^ BitVec.ofInt k.bits a).toNat))
 | _,_=>none
def lenK (σ:St) (x:AVal) (f:Int->Option R):Option R:=
 match x with
 | .nilS=>f 0
 | .data (.sl _ _) l=>f (l.length:Int)
 | .ref id p ep=>z6m σ id p ep fun _ l=>f (l.length:Int)
 | .view id p ep a b=>z6m σ id p ep fun _ _=>f (b-a)
 | .nv false id p ep=>zd3 σ id p ep fun _ l=>f (l.length:Int)
 | _=>none
def z9a {α β:Type} (eq:α->α->Bool):List (α×β)->α->Option β
 | [],_=>none
 | (k,v) :: m,x=>cond (eq x k) (some v) (z9a eq m x)
def zcp {α β:Type} (eq:α->α->Bool):List (α×β)->α->β->List (α×β)
 | [],x,y=>[(x,y)]
 | (k,v) :: m,x,y=>cond (eq x k) ((k,y) :: m) ((k,v) :: zcp eq m x y)
def mapK (σ:St) (mt:Option (Ty×Ty)) (a:AVal) (f:(id:Nat)->(kt vt:Ty)->List (kt.den×vt.den)->Option R):Option R:=
 match a,mt with
 | .mref id,some (kt',vt')=>match σ.objs id with
  | some (.map kt vt m)=>cond ((Ty.same kt kt').isSome && (Ty.same vt vt').isSome && kTy kt && vt.noSl) (f id kt vt m) none
  | _=>none
 | _,_=>none
def zdt (σ:St) (u:Ty) (x:AVal) (lo:Int) (hi:Option Int) (f:AVal->Option R):Option R:=
 match x with
 | .nilS=>chk (decide (lo=0) && decide (hi.getD 0=0)) (f .nilS)
 | .data (.sl false t) l=>cond (t.sk.same u.sk) (chk (decide (0≤lo) && decide (lo≤hi.getD (l.length:Int)) && decide (hi.getD (l.length:Int)≤(l.length:Int))) (f (.data (.sl false t) (sub l lo (hi.getD (l.length:Int)))))) none
 | .ref id [] ep=>z6m σ id [] ep fun t l=>cond (t.sk.same u.sk) (chk (decide (0≤lo) && decide (lo≤hi.getD (l.length:Int)) && decide (hi.getD (l.length:Int)≤(l.length:Int))) (f (.view id [] ep lo (hi.getD (l.length:Int))))) none
 | _=>none
def z0a (g:Int->Int->Int) (k:IntKind) (x:Int):AVal->(Int->Option R)->Option R
 | .un,f=>f x
 | .pr (.data (.int j) y) c,f=>match decEq k j with
  | isTrue _=>z0a g k (g x y) c f
  | isFalse _=>none
 | _,_=>none
def zsa (x y:Int):Int:=if y > x then y else x
def minI (x y:Int):Int:=if y < x then y else x
def z8i (σ:St) (id:Nat):Nat:=match σ.objs id with
 | some (.nest _ _ _ i _)=>i
 | _=>0
def zb5 (σ:St) (id:Nat):Bool:=match σ.objs id with
 | some (.nest _ _ _ _ (some _))=>true
 | _=>false
def zx4 (σ:St) (id:Nat) (ep:Nat) (u:Ty) (i:Int) (f:AVal->Option R):Option R:=
 match σ.objs id with
 | some (.nest t l e n (some _))=>cond (Nat.beq e ep && t.sk.same u.sk) (chk (inb l i) (f (.nv true id [.idx i] n))) none
 | _=>none
def noP:z1a->Bool
 | []=>true
 | _=>false
def z7w (σ:St) (u:Ty) (x:AVal) (i:Int) (f:AVal->Option R):Option R:=
 match x,u with
 | .data (.sl _ t) l,.sl _ u=>cond (t.sk.same u.sk) ((idx l i).bind fun d=>f (.data (.ptr t) d)) none
 | .data (.ptr (.arr n t)) l,.arr m u=>cond (Nat.beq n m && t.sk.same u.sk) ((idxT l i).bind fun d=>f (.data (.ptr t) d)) none
 | .ref id p ep,.sl _ u=>z6m σ id p ep fun t l=>cond (t.sk.same u.sk) (chk (inb l i) (f (.eptr id (p++[.idx i]) ep))) none
 | .view id p ep a b,.sl _ u=>z6m σ id p ep fun t _=>cond (t.sk.same u.sk) (chk (decide (0≤i) && decide (i < b-a)) (f (.eptr id (p++[.idx (a+i)]) ep))) none
 | .nv false id p ep,.sl _ u=>cond (noP p && zb5 σ id) (zx4 σ id ep u i f) (zd3 σ id p ep fun t l=>cond (t.sk.same u.sk) (chk (inb l i) (f (.nv true id (p++[.idx i]) (z8i σ id)))) none)
 | .bptr id p,.arr m u=>z7k σ id p fun a=>match a with
  | .data (.arr n t) l=>cond (Nat.beq n m && t.sk.same u.sk) (chk (inb l i) (f (.bptr id (p++[.idx i])))) none
  | _=>none
 | .eptr id p ep,.arr m u=>match p with
  | []=>none
  | s :: q=>z4u σ id (s :: q) ep fun a l=>match a,l with
   | .arr n t,l=>cond (Nat.beq n m && t.sk.same u.sk) (chk (inb l i) (f (.eptr id (s :: q++[.idx i]) ep))) none
   | _,_=>none
 | _,_=>none
def zc3 (σ:St) (x:AVal) (f:AVal->Option R):Option R:=
 match x with
 | .data (.ptr t) d=>f (.data t d)
 | .eptr id p ep=>match p with
  | []=>none
  | s :: q=>z4u σ id (s :: q) ep fun u d=>f (.data u d)
 | .bptr id p=>z7k σ id p f
 | .nv true id p ep=>z6l σ true id p ep fun u d=>cond u.isRo (f (.data u d)) (match u with
  | .sl true _=>f (.nv false id p ep)
  | _=>none)
 | _=>none
def zg8:z1a->Option (z1a×Int×z1a)
 | []=>none
 | s :: p=>match zg8 p with
  | some (q,j,r)=>some (s :: q,j,r)
  | none=>match s with
   | .idx j=>some ([],j,p)
   | _=>none
def z5w:z1a->z1a->Bool
 | [],[]=>true
 | .fst :: p,.fst :: q=>z5w p q
 | .snd :: p,.snd :: q=>z5w p q
 | .idx i :: p,.idx j :: q=>decide (i=j) && z5w p q
 | _,_=>false
def tyQ:Ty->z1a->Option Ty
 | .sl true v,[]=>some v
 | .pair a _,.fst :: p=>tyQ a p
 | .pair _ b,.snd :: p=>tyQ b p
 | .arr _ t,.idx _ :: p=>tyQ t p
 | .sl true t,.idx _ :: p=>tyQ t p
 | _,_=>none
def tyR (t:Ty):z1a->Option Ty
 | .idx _ :: p=>tyQ t p
 | _=>none
def z5f (σ:St) (a:AVal) (v:Ty) (k:List v.den->St->Option R):Option R:=match a with
 | .nilS=>k [] σ
 | .ref id [] ep=>match σ.objs id with
  | some (.row t l e)=>cond (Nat.beq e ep) (z5q (.sl true t) (.sl true v) l fun l=>k l (σ.kill id)) none
  | _=>none
 | _=>none
def zgm (σ:St) (id:Nat) (t:Ty) (l:List t.den) (e i:Nat) (p:z1a) (a:AVal) (f:St->Option R):Option R:=
 match tyR t p with
 | some v=>cond v.isRo (z5f σ a v fun d σ=>z3z (.sl true t) l p (.sl true v) d fun l=>f (σ.setObj id (.nest t l e (i+1) none))) none
 | none=>none
def z8d (σ:St) (id:Nat) (p:z1a) (ep:Nat) (a:AVal) (f:St->Option R):Option R:=
 match σ.objs id with
 | some (.nest t l e i none)=>cond (Nat.beq i ep)
  (cond ((tyR t p).isSome) (zgm σ id t l e i p a f)
   (match zg8 p with
    | some (s :: p,j,q)=>z13 (.sl true t) l (s :: p) fun v l1=>match v,l1 with
     | .sl true v,l1=>cond v.isRo (z13 (.sl true v) l1 (.idx j :: q) fun u _=>z2y 20 a u σ fun d σ=>match σ.objs id with
      | some (.nest _ _ _ _ none)=>z3z (.sl true v) l1 (.idx j :: q) u d fun l1=>z3z (.sl true t) l (s :: p) (.sl true v) l1 fun l=>f (σ.setObj id (.nest t l e i none))
      | _=>none) none
     | _,_=>none
    | _=>none)) none
 | some (.nest t l e i (some h))=>cond (Nat.beq i ep) (chk (z5w p h) (zgm σ id t l e i p a f)) none
 | _=>none
def zdr (σ:St) (x a:AVal) (f:St->Option R):Option R:=
 match x with
 | .eptr id p ep=>match p with
  | []=>none
  | s :: q=>z4u σ id (s :: q) ep fun u _=>z2y 20 a u σ fun d σ=>
   match σ.objs id with
   | some (.row t l e)=>cond (Nat.beq e ep) (z3z (.sl true t) l (s :: q) u d fun l=>f (σ.setObj id (.row t l e))) none
   | _=>none
 | .bptr id p=>match σ.objs id with
  | some (.cell whole)=>cond whole.isTup none (zak whole p fun old=>cond (old.sk.same a.sk) (z7n a whole p fun whole=>f (σ.setObj id (.cell whole))) none)
  | _=>none
 | .nv true id p ep=>z8d σ id p ep a f
 | _=>none
def AVal.isNv:AVal->Bool
 | .nv _ _ _ _=>true
 | _=>false
def zfe (σ:St) (t:Ty) (x:AVal) (f:List t.den->Option R):Option R:=cond (t.isRo && x.val && !x.isNv) (z0d σ 20 x (.sl false t) f) none
def zt3 (σ:St):AVal->Option Ty
 | .data (.sl _ t) _=>some t
 | .ref id p ep=>z6m σ id p ep fun t _=>some t
 | .view id p ep _ _=>z6m σ id p ep fun t _=>some t
 | .nv false id p ep=>zd3 σ id p ep fun t _=>some t
 | _=>none
def Ty.allOwn:Ty->Bool
 | .sl true t=>t.allOwn
 | .pair a b=>a.allOwn && b.allOwn
 | .arr _ t=>t.allOwn
 | t=>t.noSl
def oneN (σ:St) (x:AVal) (f:(t:Ty)->(id e i:Nat)->t.den->Option R):Option R:=match x with
 | .nv false id [] ep=>match σ.objs id with
  | some (.nest t [d] e i none)=>cond (Nat.beq e ep && t.allOwn) (f t id e i d) none
  | _=>none
 | _=>none
def z7m (σ:St) (u:Ty) (s x:AVal) (f:AVal->St->Option R):Option R:=
 match s with
 | .nilS=>oneN σ x fun t id e i d=>cond (t.sk.same u.sk) (f (.nv false id [] (e+1)) (σ.setObj id (.nest t [d] (e+1) (i+1) none))) none
 | .nv false id [] ep=>match σ.objs id with
  | some (.nest t l e i none)=>cond (Nat.beq e ep && t.sk.same u.sk) (oneN σ x fun t' id' _ _ d=>cond (Nat.beq id id') none (z5q t' t d fun d=>chk (decide (l.length+1≤z3e)) (f (.nv false id [] (e+1)) ((σ.kill id').setObj id (.nest t (l++[d]) (e+1) (i+1) none))))) none
  | _=>none
 | _=>none
def z6r (σ:St) (n:Nat) (u:Ty) (s x:AVal) (f:AVal->St->Option R):Option R:=
 match s with
 | .nilS=>cond x.isNv (z7m σ u .nilS x f) <| match zt3 σ x with
  | some t=>cond (t.sk.same u.sk) (zfe σ t x fun m=>chk (decide (m.length≤z3e)) (f (.ref n [] 1) (σ.setObj n (.row t m 1)))) none
  | none=>none
 | .ref id [] ep=>match σ.objs id with
  | some (.row t l e)=>cond (Nat.beq e ep && t.sk.same u.sk) (zfe σ t x fun m=>chk (decide (l.length+m.length≤z3e)) (f (.ref id [] (e+1)) (σ.setObj id (.row t (l++m) (e+1))))) none
  | _=>none
 | .view id [] ep a b=>match σ.objs id with
  | some (.row t l e)=>cond (Nat.beq e ep && t.sk.same u.sk) (zfe σ t x fun m=>chk (decide ((sub l a b).length+m.length≤z3e)) (f (.ref id [] (e+2)) (σ.setObj id (.row t (sub l a b++m) (e+2))))) none
  | _=>none
 | .nv false id [] ep=>z7m σ u (.nv false id [] ep) x f
 | .nv false id (q :: p) ep=>match σ.objs id with
  | some (.nest t l e i none)=>cond (Nat.beq i ep) (z13 (.sl true t) l (q :: p) fun v l1=>match v,l1 with
   | .sl true v,l1=>cond (v.sk.same u.sk) (zfe σ v x fun m=>chk (decide (l1.length+m.length≤z3e)) (f (.ref n [] 1) ((σ.setObj id (.nest t l e i (some (q :: p)))).setObj n (.row v (l1++m) 1)))) none
   | _,_=>none) none
  | _=>none
 | _=>none
def zmz (σ:St) (t:Ty):List (Nat×Operand)->(List t.den->St->Option R)->Option R
 | [],k=>k [] σ
 | (_,x) :: l,k=>match ev σ x with
  | some a=>cond a.val (z2y 20 a t σ fun d σ=>zmz σ t l fun ds σ=>k (d :: ds) σ) none
  | none=>none
def ze2:Ty->Bool
 | .pair t (.pair (.sl true v) .unit)=>t.isRo && v.isRo
 | _=>false
def zi1 (σ:St) (a:AVal) (u:Ty) (k:u.den->St->Option R):Option R:=match a,u,k with
 | .agg (.pr x (.pr y .un)),.pair t (.pair (.sl true v) .unit),k=>cond (t.isRo && v.isRo && x.val) (z2y 20 x t σ fun d σ=>z5f σ y v fun l σ=>k (d,l,()) σ) none
 | _,_,_=>none
def z7i (σ:St):Ty->Nat->List (Nat×Operand)->Option AVal
 | .unit,_,[]=>some .un
 | .pair a b,i,[]=>match zad a,z7i σ b (i+1) [] with
  | some z,some c=>some (.pr z c)
  | _,_=>none
 | .pair a b,i,(j,x) :: l=>cond (Nat.beq i j)
   (match ev σ x,z7i σ b (i+1) l with
    | some v,some c=>cond v.val (some (.pr v c)) none
    | _,_=>none)
   (match zad a,z7i σ b (i+1) ((j,x) :: l) with
    | some z,some c=>some (.pr z c)
    | _,_=>none)
 | _,_,_=>none
def z11 (t:Ty):AVal->(List t.den->Option R)->Option R
 | .un,k=>k []
 | .pr (.data u d) c,k=>z5q u t d fun d=>z11 t c fun l=>k (d :: l)
 | _,_=>none
def z8j:Nat->List (Nat×Operand)->Bool
 | _,[]=>true
 | i,(j,_) :: l=>Nat.beq i j && z8j (i+1) l
def z0y:Nat->z1a
 | 0=>[.fst]
 | n+1=>.snd :: z0y n
def holeF (σ:St) (id:Nat) (p:z1a) (ep:Nat) (u:Ty) (i:Nat) (f:AVal->Option R):Option R:=match p,σ.objs id with
 | [.idx j],some (.nest t _ _ n (some _))=>cond (Nat.beq n ep && t.sk.same u.sk && (z6s u (z0y i)).isSome) (f (.nv true id ([.idx j]++z0y i) ep)) none
 | _,_=>none
def zal (σ:St) (u:Ty) (x:AVal) (i:Nat) (f:AVal->Option R):Option R:=
 match x with
 | .data (.ptr t) d=>cond (t.sk.same u.sk) (z13 t d (z0y i) fun u e=>f (.data (.ptr u) e)) none
 | .bptr id p=>z7k σ id p fun a=>cond (a.sk.same u.sk && (z6s u (z0y i)).isSome) (f (.bptr id (p++z0y i))) none
 | .eptr id p ep=>match p with
  | []=>none
  | s :: q=>z4u σ id (s :: q) ep fun t _=>cond (t.sk.same u.sk && (z6s u (z0y i)).isSome) (f (.eptr id (s :: q++z0y i) ep)) none
 | .nv true id p ep=>cond (zb5 σ id) (holeF σ id p ep u i f) (z6l σ true id p ep fun t _=>cond (t.sk.same u.sk && (z6s u (z0y i)).isSome) (f (.nv true id (p++z0y i) ep)) none)
 | _=>none
def Ty.flat:Ty->Bool
 | .sl true t=>t.noSl
 | .pair a b=>a.flat && b.flat
 | t=>t.noSl
def zb8:List Ty->Bool
 | []=>true
 | t :: ts=>t.flat && zb8 ts
def z6k:AVal->Bool
 | .ref _ _ _ | .view _ _ _ _ _ | .bptr _ _ | .eptr _ _ _ | .mref _ | .nv _ _ _ _=>false
 | .clos _ c | .ifc _ c | .agg c | .tup c=>z6k c
 | .pr a b=>z6k a && z6k b
 | _=>true
def z4b:AVal->Bool
 | .pr a c=>a.val && z4b c
 | .un=>true
 | _=>false
def z4h:APat->Bool
 | .pr (.val _) q=>z4h q
 | .un=>true
 | _=>false
def z6t:AVal->Bool
 | .pr a c=>a.val && !a.sk.isAgg && z6t c
 | .un=>true
 | _=>false
def z5k (g args:AVal):Option (Nat×AVal):=match g with
 | .clos fid cap=>cond (z6t cap) (some (fid,z4x args cap)) none
 | .data (.fn fid t) d=>cond (z6t (z2r t d) && (z2r t d).sk.same t.sk) (some (fid,z4x args (z2r t d))) none
 | _=>none
def z4w (σ:St) (n:Nat) (all:AVal) (p:APat) (res:List Ty) (F:p.den->Option (z33 res)) (f:AVal->St->Option R):Option R:=
 cond (z4h p && z4b all && (zb8 res || z6k all)) (z2e σ p all [] fun d _=>(F d).bind fun r=>
   let x:=z08 res r n
   cond (Nat.ble x.2.length 8) (f x.1 (σ.addObjs n x.2)) none) none
def z63:(p:APat)->(all:AVal)->St->(AVal->St->Option R)->Option R
 | .pr (.val t) q,.pr a c,σ,k=>cond (a.val && t.isRo && a.sk.same t.sk) (z2y 20 a t σ fun d σ=>z63 q c σ fun c σ=>k (.pr (.data t d) c) σ) none
 | .un,.un,σ,k=>k .un σ
 | _,_,_,_=>none
def zez (σ:St) (n:Nat) (all:AVal) (p:APat) (res:List Ty) (F:p.den->Option (z33 res)) (f:AVal->St->Option R):Option R:=
 cond (zb8 res || z6k all) (z4w σ n all p res F f) (z63 p all σ fun all σ=>z4w σ n all p res F f)
def z2k:AVal->Nat->Option AVal
 | .pr a _,0=>some a
 | .pr _ b,n+1=>z2k b n
 | _,_=>none
def z7d (σr:St) (objs:Nat->Option Obj) (ρ:Nat->Option Nat):(l:List (Nat×SPat))->AVal->(zcw l->Option R)->Option R
 | [],.un,k=>k ()
 | (_,.val t) :: l,.pr a c,k=>z0d σr 20 a t fun d=>z7d σr objs ρ l c fun e=>k (d,e)
 | (_,p) :: l,.pr a c,k=>match a.ren objs ρ with
  | some a'=>p.take a' fun d=>z7d σr objs ρ l c fun e=>k (d,e)
  | none=>none
 | _,_,_=>none
def SPat.isVal:SPat->Bool
 | .val _=>true
 | _=>false
def z7f:List (Nat×SPat)->AVal->List Nat
 | (_,p) :: l,.pr a c=>cond p.isVal (z7f l c) (a.ids++z7f l c)
 | _,_=>[]
def zc4:List (Nat×SPat)->AVal->Bool
 | (_,p) :: l,.pr a c=>(!p.isVal || z6k a) && zc4 l c
 | _,_=>true
def zpd (l:List (Nat×SPat)):List Nat->Bool
 | []=>true
 | i :: a=>(match z12 l i with
  | some (_,p)=>!p.isVal
  | none=>false) && zpd l a
def znj:List (Nat×SPat)->Nat->Bool
 | [],_=>true
 | (i,_) :: l,n=>Nat.beq i n && znj l (n+1)
def SPat.flat:SPat->Bool
 | .val t=>t.noSl
 | .clos _ c | .ifc _ c | .agg c=>c.flat
 | .pr a b=>a.flat && b.flat
 | _=>true
def SObj.flat:SObj->Bool
 | .row t=>t.noSl
 | .cell p=>p.flat
 | .nest t=>t.allOwn
 | .map kt vt=>kt.noSl && vt.noSl
 | .iter _=>false
 | .con _=>false
def z8u:List (Nat×SPat)->Bool
 | []=>true
 | (_,p) :: l=>p.flat && z8u l
def zcc:List SObj->Bool
 | []=>true
 | o :: l=>o.flat && zcc l
def zei (objs:Nat->Option Obj) (a:AVal) (p:SPat) (b:Bnd):Option Bnd:=match a,p with
 | .ref id [] _,.ref j=>zp6 b j id some
 | .bptr id [],.bptr j []=>match objs id with
  | some (.cell _)=>zp6 b j id some
  | _=>none
 | .mref id,.mref j=>match objs id with
  | some (.map _ _ _)=>zp6 b j id some
  | _=>none
 | .nv false id [] _,.nv j=>zp6 b j id some
 | _,_=>none
def zeh (objs:Nat->Option Obj):AVal->SPat->Bnd->Option Bnd
 | .un,.un,b=>some b
 | .pr (.data t _) c,.pr (.val u) q,b=>cond (Ty.same t u).isSome (zeh objs c q b) none
 | .pr a c,.pr p q,b=>match zei objs a p b with
  | some b=>zeh objs c q b
  | none=>none
 | _,_,_=>none
def anchI (objs:Nat->Option Obj) (a:AVal) (p:SPat) (b:Bnd):Option Bnd:=match a,p with
 | .ifc _ a,.ifc _ p=>zei objs a p b
 | .clos f c,.clos g q=>cond (Nat.beq f g) (zeh objs c q b) none
 | a,p=>zei objs a p b
def zr8 (objs:Nat->Option Obj) (all:AVal):List Nat->List (Nat×SPat)->Bnd->Option Bnd
 | [],_,b=>some b
 | i :: l,(_,p) :: out,b=>match z2k all i with
  | some a=>match anchI objs a p b with
   | some b=>zr8 objs all l out b
   | none=>none
  | none=>none
 | _ :: _,[],_=>none
def zcj (b:Bnd) (n:Nat):Nat->Nat->List Nat
 | 0,_=>[]
 | m+1,j=>(match z1v b j with
  | some id=>id
  | none=>n+j) :: zcj b n m (j+1)
def zlr (σ:St) (b:Bnd) (j:Nat):Nat×Nat:=match z1v b j with
 | some id=>match σ.objs id with
  | some (.row _ _ e)=>(e,0)
  | some (.nest _ _ e i _)=>(e,i+1)
  | _=>(0,0)
 | none=>(0,0)
def SPat.inst (M:List Nat) (E:Nat->Nat×Nat):(p:SPat)->p.den->Option AVal
 | .val t,d=>some (.data t d)
 | .nilS,_=>some .nilS
 | .ref j,_=>(z12 M j).map fun id=>.ref id [] (E j).1
 | .view j,d=>(z12 M j).map fun id=>.view id [] (E j).1 d.1 d.2
 | .bptr j p,_=>(z12 M j).map fun id=>.bptr id p
 | .mref j,_=>(z12 M j).map fun id=>.mref id
 | .nv j,_=>(z12 M j).map fun id=>.nv false id [] (E j).1
 | .nvi j,d=>(z12 M j).map fun id=>.nv false id [.idx d] (E j).2
 | .clos f c,d=>(c.inst M E d).map fun a=>.clos f a
 | .ifc f c,d=>(c.inst M E d).map fun a=>.ifc f a
 | .agg c,d=>(c.inst M E d).map fun a=>.agg a
 | .pr a b,d=>match a.inst M E d.1,b.inst M E d.2 with
  | some x,some y=>some (.pr x y)
  | _,_=>none
 | .un,_=>some .un
def SObj.inst (M:List Nat) (E:Nat->Nat×Nat) (j:Nat):(o:SObj)->o.den->Option Obj
 | .row t,l=>some (.row t l (E j).1)
 | .cell p,d=>(p.inst M E d).map fun a=>.cell a
 | .map kt vt,m=>some (.map kt vt m)
 | .nest t,l=>some (.nest t l (E j).1 (E j).2 none)
 | .iter _,_=>none
 | .con p,d=>cond (AVal.tup (p.mk d)).isCon ((p.inst M E d).map fun a=>.cell (.tup a)) none
def ziu (M:List Nat) (E:Nat->Nat×Nat):(l:List SObj)->zhv l->Nat->Option (List Obj)
 | [],_,_=>some []
 | o :: l,d,j=>match o.inst M E j d.1,ziu M E l d.2 (j+1) with
  | some x,some y=>some (x :: y)
  | _,_=>none
def z6x (M:List Nat) (E:Nat->Nat×Nat):(l:List (Nat×SPat))->zcw l->Option (List AVal)
 | [],_=>some []
 | (_,p) :: l,d=>match p.inst M E d.1,z6x M E l d.2 with
  | some x,some y=>some (x :: y)
  | _,_=>none
def z3m:Option Obj->Obj->Bool
 | some (.row t _ _),.row u _ _=>(Ty.same t u).isSome
 | some (.cell a),.cell x=>x.sk.same a.sk
 | some (.map kt vt _),.map kt' vt' _=>(Ty.same kt kt').isSome && (Ty.same vt vt').isSome
 | some (.nest t _ _ _ none),.nest u _ _ _ none=>(Ty.same t u).isSome
 | _,_=>false
def zn7 (σ:St) (ids:List Nat) (b:Bnd):List Obj->Nat->Bool
 | [],_=>true
 | o :: l,j=>(match z1v b j with
  | some id=>z2q id ids && z3m (σ.objs id) o
  | none=>true) && zn7 σ ids b l (j+1)
def ziy:List Nat->Bool
 | []=>true
 | x :: l=>!z2q x l && ziy l
def backSt (σ:St) (ids M:List Nat) (os:List Obj):St:={ σ with objs:=fun i=>match z1e i M 0 with
 | some j=>z12 os j
 | none=>cond (z2q i ids) none (σ.objs i) }
def z3p:List AVal->AVal
 | []=>.un
 | a :: l=>.pr a (z3p l)
def z6g:List AVal->AVal
 | [a]=>a
 | l=>.tup (z3p l)
def z81 {α:Type}:Nat->List α->List α
 | 0,l=>l
 | _+1,[]=>[]
 | n+1,_ :: l=>z81 n l
def zwf (σ:St) (n:Nat) (ids:List Nat) (b:Bnd) (anch:List Nat) (fout:SForm) (r:fout.den) (f:AVal->St->Option R):Option R:=
 match ziu (zcj b n fout.objs.length 0) (zlr σ b) fout.objs r.2 0,z6x (zcj b n fout.objs.length 0) (zlr σ b) fout.slots r.1 with
 | some os,some vs=>cond (ziy (zcj b n fout.objs.length 0) && zn7 σ ids b os 0) (f (z6g (z81 anch.length vs)) (backSt σ ids (zcj b n fout.objs.length 0) os)) none
 | _,_=>none
def mutIn (σ:St) (all:AVal) (fin:SForm) (ids:List Nat) (k:fin.den->Option R):Option R:=
 match zcy (fun i=>z1e i ids 0) σ.objs ids with
 | some os=>z7d (σ.only fun i=>!z2q i ids) σ.objs (fun i=>z1e i ids 0) fin.slots all fun d=>zfp fin.objs os fun e=>k (d,e)
 | none=>none
def zyt:List SObj->List Nat->St->(St->Option R)->Option R
 | .con _ :: os,i :: is,σ,k=>match σ.objs i with
  | some (.cell a)=>cond (AVal.tup a).isCon (zyt os is (σ.setObj i (.cell (.tup a))) k) (zyt os is σ k)
  | _=>zyt os is σ k
 | _ :: os,_ :: is,σ,k=>zyt os is σ k
 | _,_,σ,k=>k σ
def anchV (objs:Nat->Option Obj) (a:AVal) (p:SPat) (b:Bnd):Option Bnd:=match a,p with
 | .agg c,.agg q=>zeh objs c q b
 | .mref i,.mref j=>zei objs (.mref i) (.mref j) b
 | _,_=>none
def conB (objs:Nat->Option Obj) (ids:List Nat) (fo:List SObj):Bnd->Bnd->Option Bnd
 | [],b=>some b
 | (j,_) :: l,b=>match z1v b j with
  | some id=>match z12 fo j,objs id with
   | some (.con p),some (.cell (.tup a))=>cond (z2q id ids && (AVal.tup a).isCon) (match anchV objs a p b with
    | some b=>conB objs ids fo l b
    | none=>none) none
   | _,_=>conB objs ids fo l b
  | none=>conB objs ids fo l b
def mutK (σ:St) (n:Nat) (all:AVal) (fin:SForm) (anch:List Nat) (fout:SForm) (F:fin.den->Option fout.den) (f:AVal->St->Option R):Option R:=
 zyt fin.objs (z52 σ.objs 100 (z7f fin.slots all) []) σ fun σ=>
 cond (z4b all && znj fin.slots 0 && zpd fin.slots anch && (zc4 fin.slots all || (z8u fout.slots && zcc fout.objs)) && Nat.ble fout.objs.length 8)
  (match (zr8 σ.objs all anch fout.slots []).bind fun b=>conB σ.objs (z52 σ.objs 100 (z7f fin.slots all) []) fout.objs b b with
   | some b=>mutIn σ all fin (z52 σ.objs 100 (z7f fin.slots all) []) fun d=>(F d).bind fun r=>zwf σ n (z52 σ.objs 100 (z7f fin.slots all) []) b anch fout r f
   | none=>none) none
def zi4 (c:Ctx) (σ:St) (n:Nat) (g:AVal) (args:AVal) (f:AVal->St->Option R):Option R:=
 match z5k g args with
 | some (fid,all)=>match zbv all (c.env fid) with
  | some (.pure p res F)=>z4w σ n all p res F f
  | _=>none
 | none=>none
def zut (c:Ctx) (σ:St) (n:Nat) (g:AVal) (args:AVal) (f:AVal->St->Option R):Option R:=
 match z5k g args with
 | some (fid,all)=>match zbv all (c.env fid) with
  | some (.pure p res F)=>zez σ n all p res F f
  | some (.mut fin anch fout F)=>mutK σ n all fin anch fout F f
  | none=>none
 | none=>none
def zot {α:Type} (m:List α) (a b:Int):Int:=(Nat.min m.length (b-a).toNat:Nat)
def z8n {α:Type} (l:List α) (a b:Int) (m:List α):List α:=l.take a.toNat++m.take (Nat.min m.length (b-a).toNat)++l.drop (a.toNat+Nat.min m.length (b-a).toNat)
def zt6 (σ:St) (u:Ty) (id:Nat) (ep:Nat) (a b:Int) (y:AVal) (f:Int->St->Option R):Option R:=match σ.objs id with
 | some (.row t l e)=>cond (Nat.beq e ep && (Ty.same t u).isSome) (zfe σ t y fun m=>f (zot m a b) (σ.setObj id (.row t (z8n l a b m) e))) none
 | _=>none
def copyK (σ:St) (u:Ty) (x y:AVal) (f:Int->St->Option R):Option R:=match x with
 | .view id [] ep a b=>zt6 σ u id ep a b y f
 | .ref id [] ep=>match σ.objs id with
  | some (.row _ l _)=>zt6 σ u id ep 0 (l.length:Int) y f
  | _=>none
 | _=>none
def recvK (c:Ctx) (σ:St) (t:Nat) (nm:String) (v:AVal) (f:Nat->AVal->Option R):Option R:=match c.ms t nm with
 | some (m,none)=>f m v
 | some (m,some E)=>match c.tt E with
  | some u=>zc3 σ v fun v=>cond (v.val && u.sk.same v.sk) (f m v) none
  | none=>none
 | none=>none
def invK (c:Ctx) (σ:St) (nm:String) (x args:AVal) (f:AVal->AVal->Option R):Option R:=match x with
 | .ifc t v=>cond v.val (recvK c σ t nm v fun m v=>f (.clos m .un) (.pr v args)) none
 | _=>none
open Classical in
def zv1 {α:Type} (f:α->Option R):List α->Option R
 | []=>none
 | a :: l=>if ∀ b∈l,f b=f a then f a else none
def ze1 (left:List Int) (done:Option R) (f:Int->List Int->Option R):Option R:=match left with
 | []=>done
 | j :: l=>zv1 (fun j'=>f j' ((j :: l).filter fun i=>!decide (i=j'))) (j :: l)
def zm6:Nat->List Int
 | 0=>[]
 | n+1=>zm6 n++[(n:Int)]
def zvs (c:Ctx) (σ:St) (n:Nat) (dst:Option Nat) (t:Nat) (x:AVal) (k:St->Option R):Option R:=
 match x,c.mt t with
 | .mref id,some _=>match σ.objs id with
  | some (.map _ _ m)=>σ.putK c dst (.bptr n []) fun σ=>k (σ.setObj n (.cell (zae id (m.length:Int) (zm6 m.length) (-1))))
  | _=>none
 | _,_=>none
def nextK (c:Ctx) (σ:St) (dst:Option Nat) (x:AVal) (k:St->Option R):Option R:=match x with
 | .bptr id []=>match σ.objs id with
  | some (.cell (.tup (.pr (.mref mid) (.pr (.data (.int .i64) n) (.pr (.data (.sl false (.int .i64)) left) (.pr (.data (.int .i64) _) .un))))))=>match σ.objs mid with
   | some (.map kt vt m)=>chk (decide (n=(m.length:Int))) (ze1 left (σ.putK c dst (.tup (.pr (.data .bool false) .un)) k) fun j rest=>(idx m j).bind fun e=>
     (σ.setObj id (.cell (zae mid n rest j))).putK c dst (.tup (.pr (.data .bool true) (.pr (.data kt e.1) (.pr (.data vt e.2) .un)))) k)
   | _=>none
  | _=>none
 | _=>none
def zqg (c:Ctx) (σ:St) (n:Nat) (dst:Option Nat) (u:Ty) (len:Nat) (ps:List (Nat×Operand)) (k:St->Option R):Option R:=match len,ps with
 | 0,[]=>(σ.setObj n (.nest u [] 0 0 none)).putK c dst (.nv false n [] 0) k
 | 1,[(0,x)]=>match ev σ x with
  | some a=>zi1 σ a u fun d σ=>(σ.setObj n (.nest u [d] 0 0 none)).putK c dst (.nv false n [] 0) k
  | none=>none
 | _,_=>none
def zxx (c:Ctx) (σ:St) (dst:Option Nat) (x:AVal) (k:St->Option R):Option R:=match x with
 | .bptr id []=>match σ.objs id with
  | some (.cell (.tup (.pr (.mref mid) (.pr (.data (.int .i64) n) (.pr (.data (.sl false (.int .i64)) left) (.pr (.data (.int .i64) cur) .un))))))=>match σ.objs mid with
   | some (.map kt vt m)=>chk (decide (n=(m.length:Int))) ((idx m cur).bind fun e=>σ.putK c dst (.tup (.pr (.data kt e.1) (.pr (.data vt e.2) .un))) k)
   | _=>none
  | _=>none
 | _=>none
def evI (σ:St):Option Operand->Option (Option Int)
 | none=>some none
 | some x=>match ev σ x with
  | some (.data (.int _) n)=>some (some n)
  | _=>none
def zzh:Ty->Bool
 | .sl true v=>v.isRo
 | _=>false
def z82 {α:Type} (z:α) (l:List α) (a b:Int):List α:=(List.range l.length).map fun (i:Nat)=>if a≤(i:Int)∧(i:Int) < b then z else l.getD i z
def zyw (n:Nat):Ty->Option AVal
 | .fn _ _ | .ptr _=>some (.mref n)
 | u=>zad u
def z1s (c:Ctx) (σ:St) (n:Nat) (o:Oper) (k:St->Option R):Option R:=
 match o.op with
 | .move x | .assign x=>match ev σ x with
  | some a=>σ.putK c o.dst a k
  | none=>none
 | .pick t x y=>match ev σ t with
  | some (.data .bool b)=>cond b
    (match ev σ x with
     | some a=>σ.putK c o.dst a k
     | none=>none)
    (match ev σ y with
     | some a=>σ.putK c o.dst a k
     | none=>none)
  | _=>none
 | .binOp op t x y _=>match ev σ x,ev σ y with
  | some a,some b=>binK σ (c.eqs t) (c.tt t) op a b fun v=>σ.putK c o.dst v k
  | _,_=>none
 | .unOp op _ x=>match ev σ x with
  | some a=>unK op a fun v=>σ.putK c o.dst v k
  | none=>none
 | .convert t t' x=>match ev σ x,c.tt t,c.tt t' with
  | some (.data (.int _) j),some (.int _),some (.int kd)=>σ.putK c o.dst (.data (.int kd) (kd.wrap j)) k
  | _,_,_=>none
 | .indexAddr t x i=>match ev σ x,ev σ i,c.tt t with
  | some a,some (.data (.int _) j),some u=>z7w σ u a j fun v=>σ.putK c o.dst v k
  | _,_,_=>none
 | .fieldAddr t x i=>match ev σ x,c.tt t with
  | some a,some u=>zal σ u a i fun v=>σ.putK c o.dst v k
  | _,_=>none
 | .index t x i=>match ev σ x,ev σ i,c.tt t with
  | some (.data (.arr n t') l),some (.data (.int _) j),some (.arr m u)=>cond (Nat.beq n m && t'.sk.same u.sk) ((idx l j).bind fun d=>σ.putK c o.dst (.data t' d) k) none
  | _,_,_=>none
 | .field t x i=>match ev σ x,c.tt t with
  | some a,some u=>cond (a.val && a.sk.same u.sk && (z6s u (z0y i)).isSome) (zak a (z0y i) fun v=>cond v.val (σ.putK c o.dst v k) none) none
  | _,_=>none
 | .nilCheck x=>match ev σ x with
  | some a=>cond (holds σ a) (σ.putK c o.dst a k) none
  | none=>none
 | .load t x=>match ev σ x,c.tt t with
  | some a,some u=>zc3 σ a fun v=>cond (v.val && u.sk.same v.sk) (σ.putK c o.dst v k) none
  | _,_=>none
 | .store t x y=>match ev σ x,ev σ y,c.tt t,o.dst with
  | some a,some b,some u,none=>cond (b.val && u.sk.same b.sk) (zdr σ a b k) none
  | _,_,_,_=>none
 | .extract x i=>match ev σ x with
  | some (.tup a)=>match z2k a i with
   | some v=>σ.putK c o.dst v k
   | none=>none
  | _=>none
 | .alloc t=>match (c.tt t).bind (zyw n) with
  | some z=>σ.putK c o.dst (.bptr n []) fun σ=>k (σ.setObj n (.cell z))
  | none=>none
 | .box _ x=>match ev σ x with
  | some a=>cond a.val (σ.putK c o.dst (.bptr n []) fun σ=>k (σ.setObj n (.cell a))) none
  | none=>none
 | .makeFunc (.func f) first cap=>match first.toList with
  | []=>match evs σ cap.toList with
   | some a=>cond (z1z a) (σ.putK c o.dst (.clos f a) k) none
   | none=>none
  | _=>none
 | .makeSlice t len cap=>match ztr c o.dst t with
  | some (.sl _ u)=>match u.zero,ev σ len,ev σ cap with
   | some z,some (.data (.int _) l),some (.data (.int _) m)=>
    cond u.isRo (chk (decide (0≤l) && decide (l≤m) && decide (m≤(z3e:Int))) (σ.putK c o.dst (.ref n [] 0) fun σ=>k (σ.setObj n (.row u (List.replicate l.toNat z) 0))))
     (cond (zzh u) (chk (decide (0≤l) && decide (l≤m) && decide (m≤(z3e:Int))) (σ.putK c o.dst (.nv false n [] 0) fun σ=>k (σ.setObj n (.nest u (List.replicate l.toNat z) 0 0 none)))) none)
   | _,_,_=>none
  | _=>none
 | .build t ps=>match c.tt t with
  | some (.pair x y)=>match z7i σ (.pair x y) 0 ps.toList with
   | some a=>cond (a.sk.same (Ty.pair x y).sk) (σ.putK c o.dst (.agg a) k) none
   | none=>none
  | some (.arr n u)=>match evs σ (ps.toList.map (·.2)) with
   | some a=>cond (z8j 0 ps.toList && Nat.beq ps.toList.length n && z38 u) (z11 u a fun l=>σ.putK c o.dst (.data (.arr n u) l) k) none
   | none=>none
  | _=>none
 | .buildSlice t len ps=>match ztr c o.dst t with
  | some (.sl _ u)=>cond (u.isRo && z8j 0 ps.toList && Nat.beq ps.toList.length len && Nat.ble (len*u.size) 100000) (zmz σ u ps.toList fun ds σ=>cond (froz c o.dst) (σ.putK c o.dst (.data (.sl false u) ds) k) (σ.putK c o.dst (.ref n [] 0) fun σ=>k (σ.setObj n (.row u ds 0))))
    (cond (ze2 u && Nat.ble (len*u.size) 100000) (zqg c σ n o.dst u len ps.toList k) none)
  | _=>none
 | .makeMap t none=>match c.mt t with
  | some (kt,vt)=>cond (kTy kt && vt.noSl) (σ.putK c o.dst (.mref n) fun σ=>k (σ.setObj n (.map kt vt []))) none
  | none=>none
 | .lookup t x i ok=>match ev σ x,ev σ i with
  | some a,some b=>mapK σ (c.mt t) a fun _ kt vt m=>cond b.val (z0d σ 20 b kt fun key=>match vt.zero with
   | some z=>cond ok (σ.putK c o.dst (.tup (.pr (.data vt ((z9a (kEq kt) m key).getD z)) (.pr (.data .bool (z9a (kEq kt) m key).isSome) .un))) k)
    (σ.putK c o.dst (.data vt ((z9a (kEq kt) m key).getD z)) k)
   | none=>none) none
  | _,_=>none
 | .mapUpdate t x i y=>match ev σ x,ev σ i,ev σ y,o.dst with
  | some a,some b,some v,none=>mapK σ (c.mt t) a fun id kt vt m=>cond (b.val && v.val) (z0d σ 20 b kt fun key=>z0d σ 20 v vt fun d=>k (σ.setObj id (.map kt vt (zcp (kEq kt) m key d)))) none
  | _,_,_,_=>none
 | .slice t x lo hi none=>match ev σ x,c.tt t,evI σ lo,evI σ hi with
  | some a,some (.sl _ u),some lo,some hi=>zdt σ u a (lo.getD 0) hi fun v=>σ.putK c o.dst v k
  | _,_,_,_=>none
 | .slice t x none (some hi) (some mx)=>match ev σ x,ev σ hi,ev σ mx,c.tt t with
  | some (.ref id [] ep),some (.data (.int _) h),some (.data (.int _) m),some (.sl _ u)=>match σ.objs id with
   | some (.row t' l e)=>cond (Nat.beq e ep && t'.sk.same u.sk) (chk (decide (0≤h) && decide (h≤m) && decide (m≤(l.length:Int))) ((σ.setObj id (.row t' (sub l 0 h) (e+1))).putK c o.dst (.ref id [] (e+1)) k)) none
   | _=>none
  | _,_,_,_=>none
 | .call { callee:=.builtin .len,args:=args,argTypes:=ts }=>match args.toList,ts.toList with
  | [x],[t]=>match ev σ x,c.tt t with
   | some a,some (.sl _ _)=>lenK σ a fun v=>σ.putK c o.dst (.data (.int .i64) v) k
   | some a,_=>mapK σ (c.mt t) a fun _ _ _ m=>chk (decide (m.length≤z3e)) (σ.putK c o.dst (.data (.int .i64) (m.length:Int)) k)
   | _,_=>none
  | _,_=>none
 | .call { callee:=.builtin .max,args:=args,.. }=>match evs σ args.toList with
  | some (.pr (.data (.int i) x) r)=>z0a zsa i x r fun v=>σ.putK c o.dst (.data (.int i) v) k
  | _=>none
 | .call { callee:=.builtin .min,args:=args,.. }=>match evs σ args.toList with
  | some (.pr (.data (.int i) x) r)=>z0a minI i x r fun v=>σ.putK c o.dst (.data (.int i) v) k
  | _=>none
 | .call { callee:=.builtin .append,args:=args,argTypes:=ts }=>match args.toList,ts.toList with
  | [x,y],[t,t']=>match ev σ x,ev σ y,c.tt t with
   | some a,some b,some (.sl _ u)=>cond (Nat.beq t t') (z6r σ n u a b fun v σ=>σ.putK c o.dst v k) none
   | _,_,_=>none
  | _,_=>none
 | .call { callee:=.builtin .clear,args:=args,argTypes:=ts }=>match args.toList,ts.toList with
  | [x],[t]=>match ev σ x,c.tt t with
   | some (.view id [] ep a b),some (.sl _ u)=>match σ.objs id with
    | some (.row t' l e)=>cond (Nat.beq e ep && (Ty.same t' u).isSome) (match t'.zero with
     | some z=>(σ.setObj id (.row t' (z82 z l a b) e)).putK c o.dst (.tup .un) k
     | none=>none) none
    | _=>none
   | _,_=>none
  | _,_=>none
 | .call { callee:=.builtin .copy,args:=args,argTypes:=ts }=>match args.toList,ts.toList with
  | [x,y],[t,_]=>match ev σ x,ev σ y,c.tt t with
   | some a,some b,some (.sl _ u)=>copyK σ u a b fun n σ=>σ.putK c o.dst (.data (.int .i64) n) k
   | _,_,_=>none
  | _,_=>none
 | .call { callee:=.value g,args:=args,.. }=>match ev σ g,evs σ args.toList with
  | some g,some a=>zi4 c σ n g a fun v σ=>σ.putK c o.dst v k
  | _,_=>none
 | .call { callee:=.invoke x nm,args:=args,.. }=>match ev σ x,evs σ args.toList with
  | some x,some a=>invK c σ nm x a fun g a=>zi4 c σ n g a fun v σ=>σ.putK c o.dst v k
  | _,_=>none
 | .makeInterface t x=>match ev σ x with
  | some a=>cond (a.val && c.ct t) (σ.putK c o.dst (.ifc t a) k) none
  | none=>none
 | .typeAssert x _ t ok=>match ev σ x with
  | some (.ifc u a)=>cond (Nat.beq u t && c.ct t && a.val) (cond ok (σ.putK c o.dst (.tup (.pr a (.pr (.data .bool true) .un))) k) (σ.putK c o.dst a k)) none
  | _=>none
 | _=>none
def isM (o:Oper):Bool:=match o.op with
 | .store _ _ _=>true
 | .mapUpdate _ _ _ _=>true
 | .call cl=>match cl.callee with
  | .builtin .append | .builtin .clear | .builtin .copy=>true
  | _=>false
 | _=>false
def znm (o:Oper):Bool:=match o.op with
 | .call cl=>match cl.callee with
  | .value _ | .invoke _ _=>true
  | _=>false
 | .range _ _ | .next _ _ | .entry _=>true
 | _=>false
def zlz (q:Bool) (o:Oper):Bool:=cond q (isM o || znm o) (isM o)
def zgc (o:Oper):Bool:=match o.op with
 | .assign (.const .nilFunc) | .assign (.const .nilIface) | .assign (.const (.pointer none))=>true
 | _=>false
def opK (c:Ctx) (σ:St) (n:Nat) (o:Oper) (k:St->Option R):Option R:=cond (zgc o) (k (σ.unset o.dst)) (z1s c σ n o k)
def opM (q:Bool) (c:Ctx) (σ:St) (n:Nat) (o:Oper) (k:St->Option R):Option R:=match o.op with
 | .call { callee:=.value g,args:=args,.. }=>cond q (match ev σ g,evs σ args.toList with
   | some g,some a=>zut c σ n g a fun v σ=>σ.putK c o.dst v k
   | _,_=>none) (opK c σ n o k)
 | .call { callee:=.invoke x nm,args:=args,.. }=>cond q (match ev σ x,evs σ args.toList with
   | some x,some a=>invK c σ nm x a fun g a=>zut c σ n g a fun v σ=>σ.putK c o.dst v k
   | _,_=>none) (opK c σ n o k)
 | .range t x=>cond q (match ev σ x with
   | some a=>zvs c σ n o.dst t a k
   | none=>none) (opK c σ n o k)
 | .next x false=>cond q (match ev σ x with
   | some a=>nextK c σ o.dst a k
   | none=>none) (opK c σ n o k)
 | .entry x=>cond q (match ev σ x with
   | some a=>zxx c σ o.dst a k
   | none=>none) (opK c σ n o k)
 | _=>opK c σ n o k
def zb3 (o:Oper):Bool:=match o.op with
 | .move _ | .assign _ | .pick _ _ _ | .binOp _ _ _ _ _ | .unOp _ _ _ | .convert _ _ _ | .indexAddr _ _ _ | .fieldAddr _ _ _ | .nilCheck _ | .load _ _ | .extract _ _ | .makeFunc _ _ _ | .lookup _ _ _ _ | .slice _ _ _ _ none | .build _ _ | .index _ _ _ | .field _ _ _ | .makeInterface _ _ | .typeAssert _ _ _ _=>true
 | .call cl=>match cl.callee with
  | .builtin .len | .builtin .max | .builtin .min=>true
  | _=>false
 | _=>false
def isY (o:Oper):Bool:=!zgc o && zb3 o
def isP (o:Oper):Bool:=match o.op with
 | .load _ _ | .lookup _ _ _ _=>false
 | .call cl=>match cl.callee with
  | .builtin .max | .builtin .min=>true
  | _=>false
 | _=>true
def noM:List (Nat×Oper)->Bool
 | []=>true
 | (_,o) :: l=>!isM o && noM l
def isPickOf (t:Nat) (o:Oper):Bool:=match o.op with
 | .pick (.tmp u) _ _=>Nat.beq t u
 | _=>false
def zfg (p:Oper->Bool):List (Nat×Oper)->List (Nat×Oper)->Option (List (Nat×Oper)×Option Nat×List (Nat×Oper))
 | [],_=>none
 | (i,o) :: l,acc=>cond (p o) (some (acc++[(i,o)],o.dst,l)) (zfg p l (acc++[(i,o)]))
def zp4 (σ:St) (d:Nat):Option Bool:=match σ.slots d with
 | some (.data .bool b)=>some b
 | _=>none
def z49:List (Nat×Oper)->St->St
 | [],σ=>σ
 | (_,o) :: l,σ=>z49 l (σ.unset o.dst)
def rmN (d:Nat):List Nat->List Nat
 | []=>[]
 | x :: l=>cond (Nat.beq x d) (rmN d l) (x :: rmN d l)
def zef:Option Nat->List Nat->List Nat
 | none,u=>u
 | some d,u=>rmN d u
def addU:Option Nat->List Nat->List Nat
 | none,u=>u
 | some d,u=>d :: u
def zlk:List (Nat×Oper)->List Nat->List Nat
 | [],u=>u
 | (_,o) :: l,u=>zlk l (zef o.dst u)
def zmr:List Callee->Bool
 | []=>true
 | .pure _ _ _ :: l=>zmr l
 | _=>false
def z8p (σ:St) (x:Operand):Option Nat:=match ev σ x with
 | some (.clos f _)=>some f
 | some (.data (.fn f _) _)=>some f
 | _=>none
def zgi (c:Ctx) (σ:St):List (Nat×Oper)->Bool
 | []=>false
 | (_,o) :: l=>(match o.op with
  | .call cl=>match cl.callee with
   | .value g=>match z8p σ g with
    | some f=>!zmr (c.env f)
    | none=>true
   | _=>false
  | _=>false) || zgi c σ l
def zhw (c:Ctx) (base:Nat) (dst:Nat->Option Nat):(q:Bool)->(fuel:Nat)->(R:Type)->(opened und:List Nat)->List (Nat×Oper)->St->(St->Option R)->Option R
 | _,0,_,_,_,_,_,_=>none
 | _,_+1,_,_,_,[],σ,k=>k σ
 | q,n+1,R,opened,und,(i,o) :: l,σ,k=>
  match o.guard with
  | none=>opM q c σ (base+8*i) o fun σ=>zhw c base dst q n R opened (zef o.dst und) l σ k
  | some (j,want)=>
   match dst j with
   | none=>none
   | some t=>
    match σ.slots t with
    | some (.data .bool b)=>
     cond (z2q j opened)
      (cond (b == want) (opM q c σ (base+8*i) o fun σ=>zhw c base dst q n R opened (zef o.dst und) l σ k) (zhw c base dst q n R opened (addU o.dst und) l (σ.unset o.dst) k))
      (match zfg (isPickOf t) ((i,o) :: l) [] with
       | some (grp,some d,rest)=>cond (q && zgi c σ grp)
        (cond b (zhw c base dst q n R (j :: opened) und ((i,o) :: l) (σ.set t (.data .bool true)) k)
            (zhw c base dst q n R (j :: opened) und ((i,o) :: l) (σ.set t (.data .bool false)) k)) <| cond (noM grp) (
        (cond b (zhw c base dst false n Bool (j :: opened) und grp (σ.set t (.data .bool true)) fun σ=>zp4 σ d)
            (zhw c base dst false n Bool (j :: opened) und grp (σ.set t (.data .bool false)) fun σ=>zp4 σ d)).bind fun v=>
        cond (Nat.blt d c.ntmps) (zhw c base dst q n R opened (zlk grp und) rest ((z49 grp σ).set d (.data .bool v)) k) none) none
       | _=>none)
    | none=>cond (z2q t und) (zhw c base dst q n R opened (addU o.dst und) l (σ.unset o.dst) k) none
    | _=>none
def z09 {α:Type}:Nat->List α->List (Nat×α)
 | _,[]=>[]
 | i,x :: l=>(i,x) :: z09 (i+1) l
def z6p (ops:List Oper) (j:Nat):Option Nat:=(z12 ops j).bind (·.dst)
def z43:List Edge->List Nat
 | []=>[]
 | e :: l=>cond (Region.binds .any e) (e.on :: z43 l) (z43 l)
def zyd:List Nat->List Nat->Bool
 | [],_=>true
 | x :: l,d=>z2q x d && zyd l d
def zr7:List Nat->List Nat->Bool
 | [],_=>false
 | x :: l,d=>z2q x d || zr7 l d
def zag (done:List Nat) (o:Oper):Bool:=zyd (z43 o.after.toList) done
def zts:List Operand->List Nat
 | []=>[]
 | .tmp t :: l=>t :: zts l
 | _ :: l=>zts l
def guardL (dst:Nat->Option Nat) (o:Oper):List Nat:=match o.guard with
 | some (j,_)=>match dst j with
  | some t=>[t]
  | none=>[]
 | none=>[]
def zg4 (dst:Nat->Option Nat) (o:Oper) (t:Nat):Bool:=z2q t (zts o.op.operands.toList) || z2q t (guardL dst o)
def ze7 (dst:Nat->Option Nat) (x y:Oper):Bool:=
 (match x.dst with
  | some d=>!zg4 dst y d && (match y.dst with
   | some e=>!Nat.beq d e
   | none=>true)
  | none=>true) &&
 (match y.dst with
  | some d=>!zg4 dst x d
  | none=>true)
def z3b (i:Nat):List (Nat×Oper)->List Nat->List Nat
 | [],acc=>acc
 | (j,o) :: l,acc=>z3b i l (cond (z2q i (z43 o.after.toList) || zr7 (z43 o.after.toList) acc) (j :: acc) acc)
def freeL (q:Bool) (dst:Nat->Option Nat) (done later:List Nat) (i:Nat) (o:Oper):List (Nat×Oper)->Bool
 | []=>true
 | (j,oj) :: l=>(Nat.beq j i || z2q j done || ((z2q i (z43 oj.after.toList) || ze7 dst o oj) && (isP o || !zlz q oj || z2q j later))) && freeL q dst done later i o l
def zpe (done:List Nat) (i:Nat):List (Nat×Oper)->Bool
 | []=>true
 | (j,oj) :: l=>(Nat.beq j i || z2q j done || !zag done oj) && zpe done i l
def zfs:List Nat->List Nat->Bool
 | [],_=>true
 | x :: l,d=>!z2q x d && zfs l d
def zys (q:Bool) (dst:Nat->Option Nat) (all:List (Nat×Oper)) (done:List Nat) (i:Nat) (o:Oper):Bool:=
 zag done o && ((isY o && freeL q dst done (z3b i all []) i o all && zfs (z3b i all []) done) || zpe done i all)
def zaw (q:Bool) (dst:Nat->Option Nat) (all:List (Nat×Oper)):List (Nat×Oper)->List Nat->Bool
 | [],done=>zpe done all.length all
 | (i,o) :: l,done=>!z2q i done && zys q dst all done i o && zaw q dst all l (i :: done)
def zfo:List (Nat×Oper)->Bool
 | []=>true
 | (_,o) :: l=>(match o.op with
  | .select _ _=>false
  | _=>true) && zfo l
def zl2 (q:Bool) (dst:Nat->Option Nat) (all:List (Nat×Oper)) (done:List Nat):List (Nat×Oper)->Option (Nat×Oper)
 | []=>none
 | (i,o) :: l=>cond (!z2q i done && zys q dst all done i o) (some (i,o)) (zl2 q dst all done l)
def zdz (q:Bool) (dst:Nat->Option Nat) (all:List (Nat×Oper)):Nat->List Nat->List (Nat×Oper)
 | 0,_=>[]
 | n+1,done=>match zl2 q dst all done all with
  | some (i,o)=>(i,o) :: zdz q dst all n (i :: done)
  | none=>[]
def listK (q:Bool) (c:Ctx) (ops:List Oper) (l:List (Nat×Oper)) (σ:St) (k:St->Option R):Option R:=
 zhw c σ.next (z6p ops) q (ops.length+ops.length+2) R [] [] l σ fun σ'=>k { σ' with next:=σ.next+8*ops.length }
def z64 (q:Bool) (ops:List Oper):List (Nat×Oper):=zdz q (z6p ops) (z09 0 ops) ops.length []
def zjq (q:Bool) (ops:List Oper):Bool:=zfo (z09 0 ops) && zaw q (z6p ops) (z09 0 ops) (z64 q ops) []
def zu9 (dst:Nat->Option Nat) (all:List (Nat×Oper)):List (Nat×Oper)->List Nat->Bool
 | [],_=>true
 | (i,o) :: l,done=>!z2q i done && zys false dst all done i o && zu9 dst all l (i :: done)
def z37:List (Nat×Oper)->List Nat->List Nat
 | [],d=>d
 | (i,_) :: l,d=>z37 l (i :: d)
def zhu (c:Ctx) (σ:St) (o:Oper):Bool:=match o.op with
 | .call cl=>match cl.callee with
  | .value g=>match z8p σ g with
   | some f=>zmr (c.env f)
   | none=>false
  | .invoke _ _ | .builtin .copy=>false
  | _=>true
 | .mapUpdate _ _ _ _=>false
 | .makeMap _ _=>false
 | _=>true
def zx3 (σ:St) (x:Operand):List Nat:=match ev σ x with
 | some a=>a.ids
 | none=>[]
def isBptr:Option AVal->Bool
 | some (.bptr _ _)=>true
 | _=>false
def zxc (σ:St) (o:Oper):List Nat:=match o.op with
 | .move _ | .assign _ | .pick _ _ _ | .extract _ _ | .makeFunc _ _ _ | .box _ _ | .build _ _ | .alloc _ | .unOp _ _ _=>[]
 | .load _ x | .nilCheck x | .fieldAddr _ x _ | .indexAddr _ x _ | .slice _ x _ _ _=>zx3 σ x
 | .store _ x y=>cond (isBptr (ev σ x)) (zx3 σ x) (z52 σ.objs 100 (zx3 σ x++zx3 σ y) [])
 | op=>z52 σ.objs 100 (op.operands.toList.flatMap (zx3 σ)) []
def inF (base i:Nat) (F:List Nat) (id:Nat):Bool:=z2q id F || (Nat.ble (base+8*i) id && Nat.blt id (base+8*i+8))
def St.over (σ σ':St) (p:Nat->Bool):St:={ slots:=σ'.slots,objs:=fun i=>cond (p i) (σ'.objs i) (σ.objs i),next:=σ.next }
def outR (base i:Nat):List Nat->Bool
 | []=>true
 | x :: l=>!(Nat.ble (base+8*i) x && Nat.blt x (base+8*i+8)) && outR base i l
def zwz (base:Nat) (dst:Nat->Option Nat) (i:Nat) (o:Oper) (F:List Nat) (j:Nat) (p:Oper) (G:List Nat):Bool:=
 !Nat.beq i j && ze7 dst o p && ((zb3 o && zb3 p) || zfs F G) && outR base i G && outR base j F
abbrev GAcc:=List ((Nat×Oper)×List Nat×List Nat)
def okAcc (base:Nat) (dst:Nat->Option Nat) (j:Nat) (p:Oper) (G:List Nat):GAcc->Bool
 | []=>true
 | ((i,o),F,lat) :: l=>(z2q j lat || zwz base dst i o F j p G) && okAcc base dst j p G l
def genK (c:Ctx) (base:Nat) (dst:Nat->Option Nat) (all:List (Nat×Oper)):List (Nat×Oper)->GAcc->St->(St->Option R)->Option R
 | [],_,σ,k=>k σ
 | (i,o) :: l,acc,σ,k=>
  cond (zhu c σ o && okAcc base dst i o (zxc σ o) acc)
   (z1s c (σ.only (inF base i (zxc σ o))) (base+8*i) o fun σ'=>genK c base dst all l (((i,o),zxc σ o,z3b i all []) :: acc) (σ.over σ' (inF base i (zxc σ o))) k) none
def zau (done:List Nat):List (Nat×Oper)->List (Nat×Oper)
 | []=>[]
 | (i,o) :: l=>cond (z2q i done) (zau done l) ((i,o) :: zau done l)
def zrv:List (Nat×Oper)->Bool
 | []=>true
 | (_,o) :: l=>(match o.guard with
  | none=>true
  | some _=>false) && !zgc o && zrv l
def linG (all:List (Nat×Oper)) (done:List Nat):List Nat->List (Nat×Oper)->Bool
 | _,[]=>true
 | d,(i,o) :: l=>zag d o && zfs (z3b i all []) done && linG all done (i :: d) l
def lenN:List (Nat×Oper)->Nat
 | []=>0
 | _ :: l=>lenN l+1
def genOK (ops:List Oper):Bool:=zfo (z09 0 ops) && zu9 (z6p ops) (z09 0 ops) (z64 false ops) [] && zrv (zau (z37 (z64 false ops) []) (z09 0 ops)) && linG (z09 0 ops) (z37 (z64 false ops) []) (z37 (z64 false ops) []) (zau (z37 (z64 false ops) []) (z09 0 ops)) && Nat.beq (lenN (z64 false ops)+lenN (zau (z37 (z64 false ops) []) (z09 0 ops))) ops.length
def zxa (c:Ctx) (ops:List Oper) (L B:List (Nat×Oper)) (σ:St) (k:St->Option R):Option R:=
 zhw c σ.next (z6p ops) false (ops.length+ops.length+2) R [] [] L σ fun σ'=>genK c σ.next (z6p ops) (z09 0 ops) B [] σ' fun σ'=>k { σ' with next:=σ.next+8*ops.length }
open Classical in
def z4z:List (Option R)->Option R
 | []=>none
 | x :: l=>if ∀ y∈l,y=x then x else none
def z60 (done:List Nat):List (Nat×Oper)->List (Nat×Oper)
 | []=>[]
 | (i,o) :: l=>cond (!z2q i done && zag done o) ((i,o) :: z60 done l) (z60 done l)
def zv9 (c:Ctx) (dst:Nat->Option Nat) (b0:Nat) (o:Oper) (opened und:List Nat) (σ:St) (kk:List Nat->List Nat->St->Option R):Option R:=
 match o.guard with
 | none=>opM true c σ b0 o fun σ=>kk opened (zef o.dst und) σ
 | some (j,want)=>match dst j with
  | none=>none
  | some t=>match σ.slots t with
   | some (.data .bool b)=>
    cond (z2q j opened)
     (cond (b == want) (opM true c σ b0 o fun σ=>kk opened (zef o.dst und) σ) (kk opened (addU o.dst und) (σ.unset o.dst)))
     (cond b
      (cond want (opM true c (σ.set t (.data .bool true)) b0 o fun σ=>kk (j :: opened) (zef o.dst und) σ) (kk (j :: opened) (addU o.dst und) ((σ.set t (.data .bool true)).unset o.dst)))
      (cond want (kk (j :: opened) (addU o.dst und) ((σ.set t (.data .bool false)).unset o.dst)) (opM true c (σ.set t (.data .bool false)) b0 o fun σ=>kk (j :: opened) (zef o.dst und) σ)))
   | none=>cond (z2q t und) (kk opened (addU o.dst und) (σ.unset o.dst)) none
   | _=>none
def anyK (c:Ctx) (base:Nat) (dst:Nat->Option Nat) (all:List (Nat×Oper)):Nat->List Nat->(opened und:List Nat)->St->(St->Option R)->Option R
 | 0,_,_,_,_,_=>none
 | n+1,done,opened,und,σ,k=>match zl2 true dst all done all with
  | some (i,o)=>zv9 c dst (base+8*i) o opened und σ fun opened und σ=>anyK c base dst all n (i :: done) opened und σ k
  | none=>match z60 done all with
   | []=>k σ
   | x :: l=>z4z ((x :: l).map fun x=>zv9 c dst (base+8*x.1) x.2 opened und σ fun opened und σ=>anyK c base dst all n (x.1 :: done) opened und σ k)
def zq7 (c:Ctx) (ops:Array Oper) (draw:Bool) (σ:St) (k:St->Option R):Option R:=
 cond draw (cond (zjq true ops.toList) (listK true c ops.toList (z64 true ops.toList) σ k)
   (cond (zjq false ops.toList && !zgi c σ (z09 0 ops.toList)) (listK false c ops.toList (z64 false ops.toList) σ k)
   (cond (genOK ops.toList && !zgi c σ (z09 0 ops.toList)) (zxa c ops.toList (z64 false ops.toList) (zau (z37 (z64 false ops.toList) []) (z09 0 ops.toList)) σ k)
    (cond (zfo (z09 0 ops.toList)) (anyK c σ.next (z6p ops.toList) (z09 0 ops.toList) (ops.toList.length+1) [] [] [] σ fun σ'=>k { σ' with next:=σ.next+8*ops.toList.length }) none))))
  (listK true c ops.toList (z09 0 ops.toList) σ k)
def z2n:Code->Option Nat
 | .region id _ _=>some id
 | .seq a b=>(z2n a).orElse fun _=>z2n b
 | .block _ b=>z2n b
 | .loop b=>z2n b
 | .cond _ a b=>(z2n a).orElse fun _=>z2n b
 | _=>none
def zg3 (step:St->(AExit->St->Option R)->Option R) (lv:Cut):Nat->List (Nat×AVal)->List Obj->(AExit->St->Option R)->Option R
 | 0,_,_,_=>none
 | n+1,sl,os,k=>step (St.of sl os) fun e σ=>match e with
  | .normal=>znc lv σ fun sl os=>zg3 step lv n sl os k
  | e=>k e σ
def zg9 (c:Ctx) (r:Nat) (k:AExit->St->Option R):AExit->St->Option R
 | .exit id,σ=>match c.exits r id with
  | some lv=>norm lv σ (k (.exit id))
  | none=>none
 | .ret,σ=>norm c.res σ (k .ret)
 | .normal,_=>none
def kSeq (next:St->(AExit->St->Option R)->Option R) (k:AExit->St->Option R):AExit->St->Option R
 | .normal,σ=>next σ k
 | e,σ=>k e σ
def kBlock (id:Nat) (k:AExit->St->Option R):AExit->St->Option R
 | .exit j,σ=>cond (Nat.beq j id) (k .normal σ) (k (.exit j) σ)
 | e,σ=>k e σ
def kCut (cut:Option Cut) (next:St->(AExit->St->Option R)->Option R) (σ:St) (k:AExit->St->Option R):Option R:=
 match cut with
 | some lv=>norm lv σ fun σ=>next σ k
 | none=>next σ k
def cutAt (c:Ctx) (b:Code):Option Cut:=match b with
 | .loop _=>none
 | b=>(z2n b).bind c.cut
def z0z (c:Ctx):Code->St->(AExit->St->Option R)->Option R
 | .skip,σ,k=>k .normal σ
 | .region _ ops draw,σ,k=>zq7 c ops draw σ (k .normal)
 | .seq a b,σ,k=>z0z c a σ (kSeq (kCut (cutAt c b) (z0z c b)) k)
 | .cond x a b,σ,k=>match ev σ x with
  | some (.data .bool t)=>cond t (z0z c a σ k) (z0z c b σ k)
  | _=>none
 | .block id b,σ,k=>z0z c b σ (kBlock id k)
 | .loop b,σ,k=>match z2n b with
  | some r=>match c.cut r with
   | some lv=>match c.lp r with
    | some L=>znc lv σ fun sl os=>L R sl os k
    | none=>none
   | none=>none
  | none=>none
 | .exit id,σ,k=>k (.exit id) σ
 | .ret,σ,k=>k .ret σ
 | _,_,_=>none
def z00:Code->List Code
 | .seq a b=>z00 a++z00 b
 | .cond _ a b=>z00 a++z00 b
 | .block _ b=>z00 b
 | .loop b=>b :: z00 b
 | _=>[]
def z0r (c:Ctx) (b:Code):Prop:=∀ r lv L,z2n b=some r->c.cut r=some lv->c.lp r=some L->
 ∀ (R:Type) (sl:List (Nat×AVal)) (os:List Obj) (k:AExit->St->Option R) (x:R),L R sl os k=some x->zg3 (z0z c b) lv c.fuel sl os (zg9 c r k)=some x
def z04 (r:Nat):List Code->Code
 | []=>.skip
 | b :: l=>match z2n b with
  | some r'=>cond (Nat.beq r r') b (z04 r l)
  | none=>z04 r l
def rvK (tt:Nat->Option Ty) (σ:St):ResultVar->(AVal->Option R)->Option R
 | .tmp s,k=>match σ.slots s with
  | some a=>k a
  | none=>none
 | .cell s T,k=>match σ.slots s,tt T with
  | some x,some u=>zc3 σ x fun a=>cond (u.sk.same a.sk) (k a) none
  | _,_=>none
def zrq (tt:Nat->Option Ty) (σ:St):(ts:List Ty)->List ResultVar->(z33 ts->St->Option R)->Option R
 | [],[],k=>k () σ
 | [t],[s],k=>rvK tt σ s fun a=>cond (a.val && a.sk.same t.sk) (z2y 20 a t σ k) none
 | t :: u :: ts,s :: l,k=>rvK tt σ s fun a=>cond (a.val && a.sk.same t.sk) (z2y 20 a t σ fun d σ=>zrq tt σ (u :: ts) l fun ds σ=>k (d,ds) σ) none
 | _,_,_=>none
def z2d:(p:APat)->p.den->Nat->Nat->Option AVal
 | .pr (.val t) q,(x,y),i=>upd (z2d q y (i+1)) i (some (.data t x))
 | _,_,_=>fun _=>none
def entry (p:APat) (d:p.den):St:=⟨z2d p d 0,fun _=>none,0⟩
def z1y (c:Ctx) (ts:List Ty) (rs:List ResultVar) (body:Code) (σ:St):Option (z33 ts):=
 z0z c body σ fun e σ=>match e with
  | .exit _=>none
  | _=>norm c.res σ fun σ=>zrq c.tt σ ts rs fun r _=>some r
def zch (c:Ctx) (fout:SForm) (body:Code) (σ:St):Option fout.den:=
 z0z c body σ fun e σ=>match e with
  | .exit _=>none
  | _=>znc c.res σ fun sl os=>fout.take sl os some
end
end Go.Kz
namespace Go.Kz
inductive Tag where
 | alien | ro | row (id:Nat) (p:z1a) | box (id:Nat)
structure Ghost where
 tag:Nat->Tag
 sv:Nat->z1a->Value
 blk:Nat->Nat
abbrev Own:=Option (Nat×z1a)
def stp (o:Own) (s:Step):Own:=o.map fun x=>(x.1,x.2++[s])
def seg (l:List Value) (off n:Nat):List Value:=(l.drop off).take n
def Rep (w:World) (g:Ghost):Own->(t:Ty)->t.den->List Value->Prop
 | _,.int k,n,cs=>cs=[.int k n]∧k.min≤n∧n≤k.max
 | _,.bool,b,cs=>cs=[.bool b]
 | _,.str,l,cs=>∃ s:ByteArray,cs=[.string s]∧s.data.toList=l∧s.size≤maxLen
 | _,.unit,_,cs=>cs=[]
 | o,.pair a b,(x,y),cs=>∃ c1 c2,cs=c1++c2∧Rep w g (stp o .fst) a x c1∧Rep w g (stp o .snd) b y c2
 | o,.arr n t,l,cs=>List.length l=n∧cs.length=n*t.size∧
   ∀ (i:Nat) (h:i < List.length l),Rep w g (stp o (.idx i)) t (List.get l ⟨i,h⟩) (seg cs (i*t.size) t.size)
 | _,.sl false t,l,cs=>∃ a cap,cs=[.slice a (List.length l) cap]∧List.length l≤cap∧cap≤maxLen∧
   (l≠[]->∃ b off c e fz,a=some ⟨b,off,none⟩∧g.tag b = .ro∧w.heap[b]? = some (.cells c e fz)∧off+List.length l*t.size≤c.size∧
    ∀ (i:Nat) (h:i < List.length l),Rep w g none t (List.get l ⟨i,h⟩) (seg c.toList (off+i*t.size) t.size))
 | some (id,p),.sl true t,l,cs=>∃ a cap,cs=[.slice a (List.length l) cap]∧g.sv id p = .slice a (List.length l) cap∧List.length l≤cap∧cap≤maxLen∧
   ((a=none∧l=[]∧cap=0)∨∃ b off c e,a=some ⟨b,off,none⟩∧g.tag b = .row id p∧w.heap[b]? = some (.cells c e (0,0))∧off+cap*t.size≤c.size∧
    ∀ (i:Nat) (h:i < List.length l),Rep w g (some (id,p++[.idx i])) t (List.get l ⟨i,h⟩) (seg c.toList (off+i*t.size) t.size))
 | none,.sl true _,_,_=>False
 | _,.ptr t,d,cs=>∃ b off c e fz,cs=[.pointer (some ⟨b,off,none⟩)]∧g.tag b = .ro∧w.heap[b]? = some (.cells c e fz)∧off+t.size≤c.size∧
   Rep w g none t d (seg c.toList off t.size)
 | _,.fn f t,d,cs=>∃ vs,cs=[.func (.func f) #[] vs.toArray]∧Rep w g none t d vs
theorem z20 {l:List Value} {off n:Nat} (h:off+n≤l.length):(seg l off n).length=n:=by
 simp only [seg,List.length_take,List.length_drop];omega
theorem Rep.len {w:World} {g:Ghost}:{o:Own}->{t:Ty}->{d:t.den}->{cs:List Value}->Rep w g o t d cs->cs.length=t.size
 | _,.int _,_,_,h=>by obtain ⟨rfl,_⟩:=h;rfl
 | _,.bool,_,_,h=>by cases h;rfl
 | _,.str,_,_,h=>by obtain ⟨s,rfl,_⟩:=h;rfl
 | _,.unit,_,_,h=>by cases h;rfl
 | _,.pair a b,(x,y),_,h=>by
  obtain ⟨c1,c2,rfl,h1,h2⟩:=h
  simp only [List.length_append,Ty.size,Rep.len h1,Rep.len h2]
 | _,.arr n t,_,_,h=>h.2.1
 | _,.sl false t,_,_,h=>by obtain ⟨a,cap,rfl,_⟩:=h;rfl
 | some (_,_),.sl true t,_,_,h=>by obtain ⟨a,cap,rfl,_⟩:=h;rfl
 | none,.sl true t,_,_,h=>h.elim
 | _,.ptr t,_,_,h=>by obtain ⟨b,off,c,e,fz,rfl,_⟩:=h;rfl
 | _,.fn f t,_,_,h=>by obtain ⟨vs,rfl,_⟩:=h;rfl
structure RoKept (w:World) (g:Ghost) (w':World) (g':Ghost):Prop where
 blk:∀ b,g.tag b = .ro->g'.tag b = .ro∧w'.heap[b]? = w.heap[b]?
structure Moved (w:World) (g:Ghost) (w':World) (g':Ghost) (id:Nat) (p:z1a) (id':Nat) (p':z1a):Prop where
 sv:∀ q,g'.sv id' (p'++q)=g.sv id (p++q)
 blk:∀ q b,g.tag b = .row id (p++q)->g'.tag b = .row id' (p'++q)∧w'.heap[b]? = w.heap[b]?
def zk6 (w:World) (g:Ghost) (w':World) (g':Ghost):Own->Own->Prop
 | some (id,p),some (id',p')=>Moved w g w' g' id p id' p'
 | none,none=>True
 | _,_=>False
theorem Moved.step {w w':World} {g g':Ghost} {id id':Nat} {p p':z1a} (h:Moved w g w' g' id p id' p') (s:Step) :
  Moved w g w' g' id (p++[s]) id' (p'++[s]):=by
 refine ⟨fun q=>?_,fun q b hb=>?_⟩
 ·have:=h.sv ([s]++q);simpa using this
 ·have:=h.blk ([s]++q) b (by simpa using hb);simpa using this
theorem zk6.step {w w':World} {g g':Ghost}:{o o':Own}->(h:zk6 w g w' g' o o')->(s:Step)->zk6 w g w' g' (stp o s) (stp o' s)
 | some _,some _,h,s=>Moved.step h s
 | none,none,_,_=>trivial
 | some _,none,h,_=>h.elim
 | none,some _,h,_=>h.elim
theorem Rep.move {w w':World} {g g':Ghost} (hr:RoKept w g w' g'):{o o':Own}->{t:Ty}->{d:t.den}->{cs:List Value}->
  (hm:zk6 w g w' g' o o')->Rep w g o t d cs->Rep w' g' o' t d cs
 | _,_,.int _,_,_,_,h=>h
 | _,_,.bool,_,_,_,h=>h
 | _,_,.str,_,_,_,h=>h
 | _,_,.unit,_,_,_,h=>h
 | _,_,.pair a b,(x,y),_,hm,h=>by
  obtain ⟨c1,c2,rfl,h1,h2⟩:=h
  exact ⟨c1,c2,rfl,Rep.move hr (hm.step _) h1,Rep.move hr (hm.step _) h2⟩
 | _,_,.arr n t,_,_,hm,h=>⟨h.1,h.2.1,fun i hi=>Rep.move hr (hm.step _) (h.2.2 i hi)⟩
 | _,_,.sl false t,l,_,_,h=>by
  obtain ⟨a,cap,rfl,h1,h2,h3⟩:=h;refine ⟨a,cap,rfl,h1,h2,fun hn=>?_⟩;obtain ⟨b,off,c,e,fz,ha,ht,hb,hs,he⟩:=h3 hn;have hk:=hr.blk b ht
  exact ⟨b,off,c,e,fz,ha,hk.1,hk.2.trans hb,hs,fun i hi=>Rep.move hr (o:=none) (o':=none) trivial (he i hi)⟩
 | some (id,p),some (id',p'),.sl true t,l,_,hm,h=>by
  obtain ⟨a,cap,rfl,h0,h1,h2,h3⟩:=h;have hm':Moved w g w' g' id p id' p':=hm;refine ⟨a,cap,rfl,?_,h1,h2,?_⟩
  ·have:=hm'.sv [];simp only [List.append_nil] at this;rw [this];exact h0
  ·rcases h3 with h3 | ⟨b,off,c,e,ha,ht,hb,hs,he⟩
   ·exact .inl h3
   ·have hk:=hm'.blk [] b (by simpa using ht);simp only [List.append_nil] at hk
    exact .inr ⟨b,off,c,e,ha,hk.1,hk.2.trans hb,hs,fun i hi=>Rep.move hr (o:=some (id,p++[Step.idx (i:Int)])) (o':=some (id',p'++[Step.idx (i:Int)])) (hm'.step _) (he i hi)⟩
 | some _,none,.sl true _,_,_,hm,_=>hm.elim
 | none,_,.sl true _,_,_,_,h=>h.elim
 | _,_,.ptr t,_,_,_,h=>by
  obtain ⟨b,off,c,e,fz,rfl,ht,hb,hs,he⟩:=h;have hk:=hr.blk b ht
  exact ⟨b,off,c,e,fz,rfl,hk.1,hk.2.trans hb,hs,Rep.move hr (o:=none) (o':=none) trivial he⟩
 | _,_,.fn f t,_,_,_,h=>by
  obtain ⟨vs,rfl,he⟩:=h;exact ⟨vs,rfl,Rep.move hr (o:=none) (o':=none) trivial he⟩
theorem Rep.kept {w w':World} {g g':Ghost} (hr:RoKept w g w' g') {t:Ty} {d:t.den} {cs:List Value} (h:Rep w g none t d cs):Rep w' g' none t d cs:=
 Rep.move hr (o:=none) (o':=none) trivial h
structure Frozen (w:World) (g:Ghost) (w':World) (g':Ghost) (id:Nat) (p:z1a):Prop where
 blk:∀ q b,g.tag b = .row id (p++q)->g'.tag b = .ro∧w'.heap[b]? = w.heap[b]?
def zlw (w:World) (g:Ghost) (w':World) (g':Ghost):Own->Prop
 | some (id,p)=>Frozen w g w' g' id p
 | none=>True
theorem Frozen.step {w w':World} {g g':Ghost} {id:Nat} {p:z1a} (h:Frozen w g w' g' id p) (s:Step):Frozen w g w' g' id (p++[s]):=
 ⟨fun q b hb=>h.blk ([s]++q) b (by simpa using hb)⟩
theorem zlw.step {w w':World} {g g':Ghost}:{o:Own}->(h:zlw w g w' g' o)->(s:Step)->zlw w g w' g' (stp o s)
 | some _,h,s=>Frozen.step h s
 | none,_,_=>trivial
theorem Ty.size_ro:(t:Ty)->t.ro.size=t.size
 | .int _=>rfl
 | .bool=>rfl
 | .str=>rfl
 | .unit=>rfl
 | .pair a b=>by simp only [Ty.ro,Ty.size,Ty.size_ro a,Ty.size_ro b]
 | .arr n t=>by simp only [Ty.ro,Ty.size,Ty.size_ro t]
 | .sl _ t=>rfl
 | .ptr _=>rfl
 | .fn _ _=>rfl
theorem zv8 (a b:Ty) (x:a.den) (y:b.den):Ty.toRo (.pair a b) (x,y)=(Ty.toRo a x,Ty.toRo b y):=by
 have ha:=Ty.den_ro a;have hb:=Ty.den_ro b;unfold Ty.toRo;have key:∀ (A A' B B':Type) (h1:A'=A) (h2:B'=B) (h3:(A'×B')=(A×B)) (x:A) (y:B),cast h3.symm (x,y)=(cast h1.symm x,cast h2.symm y):=by
  intro A A' B B' h1 h2 h3 x y;subst h1;subst h2;rfl
 exact key _ _ _ _ ha hb (Ty.den_ro (.pair a b)) x y
theorem zm8 (t:Ty) (l:List t.den) (h:List t.ro.den=List t.den):cast h.symm l=l.map (Ty.toRo t):=by
 unfold Ty.toRo;have key:∀ (A A':Type) (h1:A'=A) (h3:List A'=List A) (l:List A),cast h3.symm l=l.map (cast h1.symm):=by
  intro A A' h1 h3 l;subst h1;exact (List.map_id l).symm
 exact key _ _ (Ty.den_ro t) h l
theorem zfc (o:Bool) (t:Ty) (l:List t.den):Ty.toRo (.sl o t) l=(l.map (Ty.toRo t):List t.ro.den):=zm8 t l (Ty.den_ro (.sl o t))
theorem zz2 (n:Nat) (t:Ty) (l:List t.den):Ty.toRo (.arr n t) l=(l.map (Ty.toRo t):List t.ro.den):=zm8 t l (Ty.den_ro (.arr n t))
theorem zz1 (t:Ty) (d:t.den):Ty.toRo (.ptr t) d=Ty.toRo t d:=rfl
theorem toRo_fn (f:Nat) (t:Ty) (d:t.den):Ty.toRo (.fn f t) d=Ty.toRo t d:=rfl
theorem Rep.freeze {w w':World} {g g':Ghost} (hr:RoKept w g w' g'):{o:Own}->{t:Ty}->{d:t.den}->{cs:List Value}->
  (hm:zlw w g w' g' o)->Rep w g o t d cs->Rep w' g' none t.ro (Ty.toRo t d) cs
 | _,.int _,_,_,_,h=>h
 | _,.bool,_,_,_,h=>h
 | _,.str,_,_,_,h=>h
 | _,.unit,_,_,_,h=>h
 | _,.pair a b,(x,y),_,hm,h=>by
  obtain ⟨c1,c2,rfl,h1,h2⟩:=h;rw [zv8]
  exact ⟨c1,c2,rfl,Rep.freeze hr (hm.step _) h1,Rep.freeze hr (hm.step _) h2⟩
 | _,.arr n t,l,_,hm,h=>by
  rw [zz2];refine ⟨by simpa using h.1,by rw [Ty.size_ro];exact h.2.1,fun i hi=>?_⟩;have hi':i < List.length l:=by simpa using hi
  have:=Rep.freeze hr (hm.step _) (h.2.2 i hi');simp only [List.get_eq_getElem,List.getElem_map,Ty.size_ro] at this ⊢
  exact this
 | _,.sl false t,l,_,_,h=>by
  obtain ⟨a,cap,rfl,h1,h2,h3⟩:=h;rw [zfc];refine ⟨a,cap,by simp,by simpa using h1,h2,fun hn=>?_⟩;obtain ⟨b,off,c,e,fz,ha,ht,hb,hs,he⟩:=h3 (by intro h;exact hn (by rw [h];rfl));have hk:=hr.blk b ht;refine ⟨b,off,c,e,fz,ha,hk.1,hk.2.trans hb,by simpa [Ty.size_ro] using hs,fun i hi=>?_⟩;have hi':i < List.length l:=by simpa using hi
  have:=Rep.freeze hr (o:=none) trivial (he i hi');simp only [List.get_eq_getElem,List.getElem_map,Ty.size_ro] at this ⊢
  exact this
 | some (id,p),.sl true t,l,_,hm,h=>by
  obtain ⟨a,cap,rfl,h0,h1,h2,h3⟩:=h;have hm':Frozen w g w' g' id p:=hm;rw [zfc];refine ⟨a,cap,by simp,by simpa using h1,h2,fun hn=>?_⟩;have hn':l≠[]:=by intro h;exact hn (by rw [h];rfl)
  rcases h3 with h3 | ⟨b,off,c,e,ha,ht,hb,hs,he⟩
  ·exact absurd h3.2.1 hn'
  ·have hk:=hm'.blk [] b (by simpa using ht);refine ⟨b,off,c,e,(0,0),ha,hk.1,hk.2.trans hb,?_,fun i hi=>?_⟩
   ·have:List.length l*t.size≤cap*t.size:=Nat.mul_le_mul_right _ h1;simp only [List.length_map,Ty.size_ro];omega
   ·have hi':i < List.length l:=by simpa using hi
    have:=Rep.freeze hr (o:=some (id,p++[Step.idx (i:Int)])) (hm'.step _) (he i hi');simp only [List.get_eq_getElem,List.getElem_map,Ty.size_ro] at this ⊢
    exact this
 | none,.sl true _,_,_,_,h=>h.elim
 | _,.ptr t,_,_,_,h=>by
  obtain ⟨b,off,c,e,fz,rfl,ht,hb,hs,he⟩:=h;have hk:=hr.blk b ht;rw [zz1];refine ⟨b,off,c,e,fz,rfl,hk.1,hk.2.trans hb,by rw [Ty.size_ro];exact hs,?_⟩;rw [Ty.size_ro]
  exact Rep.freeze hr (o:=none) trivial he
 | _,.fn f t,_,_,_,h=>by
  obtain ⟨vs,rfl,he⟩:=h;rw [toRo_fn];exact ⟨vs,rfl,Rep.freeze hr (o:=none) trivial he⟩
end Go.Kz
namespace Go.Kz
def z0f (l:List Value) (off:Nat) (x:List Value):List Value:=l.take off++x++l.drop (off+x.length)
theorem z7b (l:List Value) (a n b m:Nat) (h:b+m≤n):seg (seg l a n) b m=seg l (a+b) m:=by
 simp only [seg,List.drop_take,List.drop_drop,List.take_take];congr 1;omega
theorem z6b (l:List Value):seg l 0 l.length=l:=by simp [seg]
theorem z1f (a b:List Value) (off n:Nat) (h:off+n≤a.length):seg (a++b) off n=seg a off n:=by
 simp only [seg];rw [List.drop_append_of_le_length (by omega),List.take_append_of_le_length (by simp;omega)]
theorem zec (a b:List Value) (off n:Nat):seg (a++b) (a.length+off) n=seg b off n:=by
 simp only [seg,List.drop_append,List.drop_eq_nil_of_le (show a.length≤a.length+off by omega),List.nil_append];congr 2;omega
theorem z1g (a b:List Value) (k off n:Nat) (h:k=a.length):seg (a++b) (k+off) n=seg b off n:=by
 subst h;exact zec a b off n
theorem z1u (l:List Value) (off:Nat) (x:List Value) (h:off+x.length≤l.length):(z0f l off x).length=l.length:=by
 simp only [z0f,List.length_append,List.length_take,List.length_drop];omega
theorem z3l (a b:List Value) (off:Nat) (x:List Value) (h:off+x.length≤a.length):z0f (a++b) off x=z0f a off x++b:=by
 simp only [z0f,List.take_append_of_le_length (show off≤a.length by omega),List.drop_append_of_le_length h,List.append_assoc]
theorem z3c (a b:List Value) (k off:Nat) (x:List Value) (h:k=a.length):z0f (a++b) (k+off) x=a++z0f b off x:=by
 subst h;simp only [z0f,List.take_append,List.take_of_length_le (show a.length≤a.length+off by omega),List.append_assoc];congr 1;congr 1
 ·congr 1;omega
 ·congr 1;rw [List.drop_append,List.drop_eq_nil_of_le (by omega),List.nil_append];congr 1;omega
theorem z6a (l:List Value) (off:Nat) (x:List Value) (h:off+x.length≤l.length):seg (z0f l off x) off x.length=x:=by
 simp only [seg,z0f,List.append_assoc];rw [List.drop_append_of_le_length (by simp;omega),List.drop_eq_nil_of_le (by simp;omega),List.nil_append,List.take_left'];rfl
theorem z1p (l:List Value) (off:Nat) (x:List Value) (a n:Nat) (h:a+n≤off) (hl:off≤l.length):seg (z0f l off x) a n=seg l a n:=by
 simp only [z0f,List.append_assoc];rw [z1f _ _ _ _ (by simp;omega)];simp only [seg,List.drop_take,List.take_take];congr 1;omega
theorem z2s (l:List Value) (off:Nat) (x:List Value) (a n:Nat) (h:off+x.length≤a) (hl:off+x.length≤l.length):seg (z0f l off x) a n=seg l a n:=by
 obtain ⟨k,rfl⟩:∃ k,a=off+x.length+k:=⟨a-(off+x.length),by omega⟩;simp only [z0f];rw [z1g _ _ _ _ _ (by simp;omega)];simp only [seg,List.drop_drop]
theorem z5t (l:List Value) (a n off:Nat) (x:List Value) (h:off+x.length≤n) (hl:a+n≤l.length) :
  seg (z0f l (a+off) x) a n=z0f (seg l a n) off x:=by
 have e:l=l.take a++(seg l a n++l.drop (a+n)):=by
  simp only [seg];rw [←List.drop_drop,List.take_append_drop,List.take_append_drop]
 have hs:(seg l a n).length=n:=z20 hl;have ha:(l.take a).length=a:=by simp;omega
 have e2:z0f l (a+off) x=l.take a++(z0f (seg l a n) off x++l.drop (a+n)):=by
  conv=>lhs;rw [e]
  rw [z3c _ _ _ _ _ ha.symm,z3l _ _ _ _ (by omega)]
 rw [e2];have hsp:(z0f (seg l a n) off x).length=n:=by rw [z1u _ _ _ (by omega),hs]
 have:=z1g (l.take a) (z0f (seg l a n) off x++l.drop (a+n)) a 0 n ha.symm;simp only [Nat.add_zero] at this;rw [this,z1f _ _ _ _ (by omega)];have h2:=z6b (z0f (seg l a n) off x);rw [hsp] at h2;exact h2
def Sk.off:Sk->z1a->Option (Nat×Sk)
 | s,[]=>some (0,s)
 | .pair a _,.fst :: p=>a.off p
 | .pair a b,.snd :: p=>(b.off p).map fun x=>(a.size+x.1,x.2)
 | .arr n t,.idx i :: p=>if 0≤i∧i < n then (t.off p).map fun x=>(i.toNat*t.size+x.1,x.2) else none
 | _,_=>none
theorem Ty.sk_size:(t:Ty)->t.sk.size=t.size
 | .int _=>rfl
 | .bool=>rfl
 | .str=>rfl
 | .unit=>rfl
 | .pair a b=>by simp only [Ty.sk,Sk.size,Ty.size,Ty.sk_size a,Ty.sk_size b]
 | .arr n t=>by simp only [Ty.sk,Sk.size,Ty.size,Ty.sk_size t]
 | .sl _ t=>rfl
 | .ptr _=>rfl
 | .fn _ _=>rfl
theorem Sk.same_eq:{a b:Sk}->a.same b=true->a=b
 | .leaf,.leaf,_=>rfl
 | .unit,.unit,_=>rfl
 | .pair a b,.pair c d,h=>by
  simp only [Sk.same,zA] at h
  rw [Sk.same_eq h.1,Sk.same_eq h.2]
 | .arr n t,.arr m u,h=>by
  simp only [Sk.same,zA] at h
  rw [zE h.1,Sk.same_eq h.2]
 | .leaf,.unit,h | .leaf,.pair _ _,h | .leaf,.arr _ _,h | .unit,.leaf,h | .unit,.pair _ _,h | .unit,.arr _ _,h
 | .pair _ _,.leaf,h | .pair _ _,.unit,h | .pair _ _,.arr _ _,h | .arr _ _,.leaf,h | .arr _ _,.unit,h | .arr _ _,.pair _ _,h=>by simp [Sk.same] at h
theorem Sk.off_le:{s:Sk}->{p:z1a}->{o:Nat}->{s':Sk}->s.off p=some (o,s')->o+s'.size≤s.size
 | s,[],o,s',h=>by simp only [Sk.off,zI,Prod.mk.injEq] at h;obtain ⟨rfl,rfl⟩:=h;omega
 | .pair a b,.fst :: p,o,s',h=>by
  simp only [Sk.off] at h
  have:=Sk.off_le h;simp only [Sk.size];omega
 | .pair a b,.snd :: p,o,s',h=>by
  simp only [Sk.off,Option.map_eq_some_iff,Prod.mk.injEq] at h;obtain ⟨x,hx,rfl,rfl⟩:=h
  have:=Sk.off_le (s:=b) (p:=p) (o:=x.1) (s':=x.2) hx;simp only [Sk.size];omega
 | .arr n t,.idx i :: p,o,s',h=>by
  simp only [Sk.off] at h;split at h
  ·rename_i hi;simp only [Option.map_eq_some_iff,Prod.mk.injEq] at h;obtain ⟨x,hx,rfl,rfl⟩:=h;have:=Sk.off_le (s:=t) (p:=p) (o:=x.1) (s':=x.2) hx;have h2:(i.toNat+1)*t.size≤n*t.size:=Nat.mul_le_mul_right _ (by omega);simp only [Sk.size];rw [Nat.add_mul] at h2;omega
  ·simp at h
 | .leaf,_ :: _,_,_,h | .unit,_ :: _,_,_,h | .pair _ _,.idx _ :: _,_,_,h | .arr _ _,.fst :: _,_,_,h | .arr _ _,.snd :: _,_,_,h=>by simp [Sk.off] at h
theorem Sk.off_append:{s:Sk}->{p:z1a}->{o:Nat}->{s':Sk}->(q:z1a)->s.off p=some (o,s')->s.off (p++q)=(s'.off q).map fun x=>(o+x.1,x.2)
 | s,[],o,s',q,h=>by simp only [Sk.off,zI,Prod.mk.injEq] at h;obtain ⟨rfl,rfl⟩:=h;simp
 | .pair a b,.fst :: p,o,s',q,h=>by
  simp only [Sk.off,List.cons_append] at h ⊢
  exact Sk.off_append q h
 | .pair a b,.snd :: p,o,s',q,h=>by
  simp only [Sk.off,Option.map_eq_some_iff,Prod.mk.injEq,List.cons_append] at h ⊢;obtain ⟨x,hx,rfl,rfl⟩:=h;rw [Sk.off_append (s:=b) (p:=p) (o:=x.1) (s':=x.2) q hx,Option.map_map]
  congr 1;funext y;simp [Nat.add_assoc]
 | .arr n t,.idx i :: p,o,s',q,h=>by
  simp only [Sk.off,List.cons_append] at h ⊢;split at h
  ·simp only [Option.map_eq_some_iff,Prod.mk.injEq] at h;obtain ⟨x,hx,rfl,rfl⟩:=h;rw [Sk.off_append (s:=t) (p:=p) (o:=x.1) (s':=x.2) q hx,Option.map_map];rename_i hi;rw [if_pos hi];congr 1;funext y;simp [Nat.add_assoc]
  ·simp at h
 | .leaf,_ :: _,_,_,_,h | .unit,_ :: _,_,_,_,h | .pair _ _,.idx _ :: _,_,_,_,h | .arr _ _,.fst :: _,_,_,_,h | .arr _ _,.snd :: _,_,_,_,h=>by simp [Sk.off] at h
theorem z3o {α:Type} {l:List α} {i:Int} {x:α} (h:idx l i=some x):0≤i∧∃ hi:i.toNat < l.length,l.get ⟨i.toNat,hi⟩=x∧i < l.length:=by
 cases i with
 | ofNat n=>
  simp only [idx] at h;obtain ⟨hn,hx⟩:=List.getElem?_eq_some_iff.1 h
  exact ⟨Int.natCast_nonneg n,by simpa using hn,by simpa using hx,by show ((n:Nat):Int) < _;omega⟩
 | negSucc n=>simp [idx] at h
variable {R:Type}
theorem za5 {w:World} {g:Ghost}:{t:Ty}->{d:t.den}->{p:z1a}->{k:(u:Ty)->u.den->Option R}->{r:R}->{cs:List Value}->
  t.isRo=true->Rep w g none t d cs->z13 t d p k=some r->
  ∃ u e off,k u e=some r∧u.isRo=true∧t.sk.off p=some (off,u.sk)∧Rep w g none u e (seg cs off u.size)
 | t,d,[],k,r,cs,ht,hrep,h=>by
  have hk:k t d=some r:=by cases t <;> simpa [z13] using h
  refine ⟨t,d,0,hk,ht,?_,?_⟩
  ·simp [Sk.off]
  ·rw [←hrep.len,z6b];exact hrep
 | .pair a b,(x,y),.fst :: p,k,r,cs,ht,hrep,h=>by
  simp only [z13] at h;obtain ⟨c1,c2,rfl,h1,h2⟩:=hrep;simp only [Ty.isRo,zA] at ht;obtain ⟨u,e,off,hk,hu,ho,hr⟩:=za5 ht.1 h1 h;refine ⟨u,e,off,hk,hu,by simpa [Ty.sk,Sk.off] using ho,?_⟩;have:=Sk.off_le ho;rw [Ty.sk_size,Ty.sk_size] at this
  rw [z1f _ _ _ _ (by rw [h1.len];exact this)];exact hr
 | .pair a b,(x,y),.snd :: p,k,r,cs,ht,hrep,h=>by
  simp only [z13] at h;obtain ⟨c1,c2,rfl,h1,h2⟩:=hrep;simp only [Ty.isRo,zA] at ht;obtain ⟨u,e,off,hk,hu,ho,hr⟩:=za5 ht.2 h2 h;refine ⟨u,e,a.sk.size+off,hk,hu,by simp [Ty.sk,Sk.off,ho],?_⟩
  rw [z1g _ _ _ _ _ (by rw [h1.len,Ty.sk_size])];exact hr
 | .arr n t,l,.idx i :: p,k,r,cs,ht,hrep,h=>by
  simp only [z13,Option.bind_eq_some_iff] at h;obtain ⟨x,hx,h⟩:=h;obtain ⟨h0,hi,rfl,hlt⟩:=z3o hx;have ht':t.isRo=true:=by simpa [Ty.isRo] using ht
  have hl:=hrep.1;have hn:i.toNat < n:=by rw [←hl];exact hi
  obtain ⟨u,e,off,hk,hu,ho,hr⟩:=za5 ht' (hrep.2.2 _ hi) h;refine ⟨u,e,i.toNat*t.sk.size+off,hk,hu,?_,?_⟩
  ·simp only [Ty.sk,Sk.off];rw [if_pos ⟨h0,by omega⟩,ho];rfl
  ·have:=Sk.off_le ho;rw [Ty.sk_size,Ty.sk_size] at this;rw [z7b _ _ _ _ _ this] at hr
   rw [Ty.sk_size];exact hr
 | .sl true t,l,.idx i :: p,k,r,cs,ht,hrep,h=>by simp [Ty.isRo] at ht
 | .sl false t,l,s :: p,k,r,cs,ht,hrep,h=>by cases s <;> simp [z13] at h
 | .sl true t,l,.fst :: p,k,r,cs,ht,hrep,h=>by simp [z13] at h
 | .sl true t,l,.snd :: p,k,r,cs,ht,hrep,h=>by simp [z13] at h
 | .int _,_,s :: _,_,_,_,_,_,h=>by cases s <;> simp [z13] at h
 | .bool,_,s :: _,_,_,_,_,_,h=>by cases s <;> simp [z13] at h
 | .str,_,s :: _,_,_,_,_,_,h=>by cases s <;> simp [z13] at h
 | .unit,_,s :: _,_,_,_,_,_,h=>by cases s <;> simp [z13] at h
 | .ptr _,_,s :: _,_,_,_,_,_,h=>by cases s <;> simp [z13] at h
 | .fn _ _,_,s :: _,_,_,_,_,_,h=>by cases s <;> simp [z13] at h
 | .pair _ _,_,.idx _ :: _,_,_,_,_,_,h=>by simp [z13] at h
 | .arr _ _,_,.fst :: _,_,_,_,_,_,h=>by simp [z13] at h
 | .arr _ _,_,.snd :: _,_,_,_,_,_,h=>by simp [z13] at h
end Go.Kz
namespace Go.Kz
variable {R:Type}
theorem Rep.anyOwn {w:World} {g:Ghost}:{o o':Own}->{t:Ty}->{d:t.den}->{cs:List Value}->t.isRo=true->Rep w g o t d cs->Rep w g o' t d cs
 | _,_,.int _,_,_,_,h=>h
 | _,_,.bool,_,_,_,h=>h
 | _,_,.str,_,_,_,h=>h
 | _,_,.unit,_,_,_,h=>h
 | _,_,.pair a b,(x,y),_,ht,h=>by
  simp only [Ty.isRo,zA] at ht;obtain ⟨c1,c2,rfl,h1,h2⟩:=h
  exact ⟨c1,c2,rfl,Rep.anyOwn ht.1 h1,Rep.anyOwn ht.2 h2⟩
 | _,_,.arr n t,_,_,ht,h=>⟨h.1,h.2.1,fun i hi=>Rep.anyOwn (by simpa [Ty.isRo] using ht) (h.2.2 i hi)⟩
 | _,_,.sl false t,_,_,_,h=>h
 | _,_,.sl true t,_,_,ht,_=>by simp [Ty.isRo] at ht
 | _,_,.ptr t,_,_,_,h=>h
 | _,_,.fn f t,_,_,_,h=>h
theorem z0u {a b:Ty} {d:a.den} {k:b.den->Option R} {r:R} (h:z5q a b d k=some r):∃ e:a=b,k (cast (congrArg Ty.den e) d)=some r:=by
 unfold z5q at h;split at h
 ·rename_i x hx;exact ⟨x.down,h⟩
 ·simp at h
theorem z1b {α:Type} (l:List α) (i:Int) (x:α):(zcx l i x).length=l.length:=by simp [zcx]
theorem zbo {α:Type} (l:List α) (i:Int) (x:α) (j:Nat) (hj:j < (zcx l i x).length) :
  (zcx l i x).get ⟨j,hj⟩=if i.toNat=j then x else l.get ⟨j,by simpa [zcx] using hj⟩:=by
 simp [zcx,List.getElem_set]
theorem z9y {w:World} {g:Ghost}:{t:Ty}->{d:t.den}->{p:z1a}->{u:Ty}->{e:u.den}->{k:t.den->Option R}->{r:R}->{cs ecs:List Value}->
  t.isRo=true->Rep w g none t d cs->Rep w g none u e ecs->z3z t d p u e k=some r->
  ∃ d' off,k d'=some r∧t.sk.off p=some (off,u.sk)∧Rep w g none t d' (z0f cs off ecs)
 | t,d,[],u,e,k,r,cs,ecs,ht,hrep,hnew,h=>by
  have hk:z5q u t e k=some r:=by cases t <;> simpa [z3z] using h
  obtain ⟨rfl,hk⟩:=z0u hk;refine ⟨e,0,hk,by simp [Sk.off],?_⟩;have:z0f cs 0 ecs=ecs:=by
   simp only [z0f,List.take_zero,List.nil_append,Nat.zero_add];rw [hnew.len,←hrep.len];simp
  rw [this];exact hnew
 | .pair a b,(x,y),.fst :: p,u,e,k,r,cs,ecs,ht,hrep,hnew,h=>by
  simp only [z3z] at h;obtain ⟨c1,c2,rfl,h1,h2⟩:=hrep;simp only [Ty.isRo,zA] at ht;obtain ⟨d',off,hk,ho,hr⟩:=z9y ht.1 h1 hnew h;refine ⟨_,off,hk,by simpa [Ty.sk,Sk.off] using ho,?_⟩;have:=Sk.off_le ho;rw [Ty.sk_size,Ty.sk_size] at this;rw [z3l _ _ _ _ (by rw [h1.len,hnew.len];exact this)]
  exact ⟨_,_,rfl,hr,h2⟩
 | .pair a b,(x,y),.snd :: p,u,e,k,r,cs,ecs,ht,hrep,hnew,h=>by
  simp only [z3z] at h;obtain ⟨c1,c2,rfl,h1,h2⟩:=hrep;simp only [Ty.isRo,zA] at ht;obtain ⟨d',off,hk,ho,hr⟩:=z9y ht.2 h2 hnew h;refine ⟨_,a.sk.size+off,hk,by simp [Ty.sk,Sk.off,ho],?_⟩;rw [z3c _ _ _ _ _ (by rw [h1.len,Ty.sk_size])]
  exact ⟨_,_,rfl,h1,hr⟩
 | .arr n t,l,.idx i :: p,u,e,k,r,cs,ecs,ht,hrep,hnew,h=>by
  simp only [z3z,Option.bind_eq_some_iff] at h;obtain ⟨x,hx,h⟩:=h;obtain ⟨h0,hi,rfl,hlt⟩:=z3o hx;have ht':t.isRo=true:=by simpa [Ty.isRo] using ht
  have hl:=hrep.1;have hcl:=hrep.2.1;have hn:i.toNat < n:=by rw [←hl];exact hi
  obtain ⟨d',off,hk,ho,hr⟩:=z9y ht' (hrep.2.2 _ hi) hnew h;have hle:=Sk.off_le ho;rw [Ty.sk_size,Ty.sk_size] at hle;have hin:(i.toNat+1)*t.size≤n*t.size:=Nat.mul_le_mul_right _ hn;rw [Nat.add_mul] at hin;refine ⟨_,i.toNat*t.sk.size+off,hk,?_,?_⟩
  ·simp only [Ty.sk,Sk.off];rw [if_pos ⟨h0,by omega⟩,ho];rfl
  ·rw [Ty.sk_size];refine ⟨by rw [z1b];exact hl,?_,fun j hj=>?_⟩
   ·rw [z1u _ _ _ (by rw [hnew.len];omega)];exact hcl
   ·rw [zbo];split
    ·rename_i hij;subst hij;rw [z5t _ _ _ _ _ (by rw [hnew.len];exact hle) (by omega)];exact hr
    ·rename_i hij;have hj':j < List.length l:=by simpa [zcx] using hj
     have hjn:j < n:=by rw [←hl];exact hj'
     rcases Nat.lt_or_gt_of_ne hij with hlt' | hgt
     ·have h3:(i.toNat+1)*t.size≤j*t.size:=Nat.mul_le_mul_right _ hlt';rw [Nat.add_mul] at h3;rw [z2s _ _ _ _ _ (by rw [hnew.len];omega) (by rw [hnew.len];omega)];exact hrep.2.2 j hj'
     ·have h3:(j+1)*t.size≤i.toNat*t.size:=Nat.mul_le_mul_right _ hgt;rw [Nat.add_mul] at h3;rw [z1p _ _ _ _ _ (by omega) (by omega)]
      exact hrep.2.2 j hj'
 | .sl true t,l,.idx i :: p,_,_,k,r,cs,_,ht,hrep,_,h=>by simp [Ty.isRo] at ht
 | .sl false t,l,s :: p,_,_,k,r,cs,_,ht,hrep,_,h=>by cases s <;> simp [z3z] at h
 | .sl true t,l,.fst :: p,_,_,k,r,cs,_,ht,hrep,_,h=>by simp [z3z] at h
 | .sl true t,l,.snd :: p,_,_,k,r,cs,_,ht,hrep,_,h=>by simp [z3z] at h
 | .int _,_,s :: _,_,_,_,_,_,_,_,_,_,h=>by cases s <;> simp [z3z] at h
 | .bool,_,s :: _,_,_,_,_,_,_,_,_,_,h=>by cases s <;> simp [z3z] at h
 | .str,_,s :: _,_,_,_,_,_,_,_,_,_,h=>by cases s <;> simp [z3z] at h
 | .unit,_,s :: _,_,_,_,_,_,_,_,_,_,h=>by cases s <;> simp [z3z] at h
 | .ptr _,_,s :: _,_,_,_,_,_,_,_,_,_,h=>by cases s <;> simp [z3z] at h
 | .fn _ _,_,s :: _,_,_,_,_,_,_,_,_,_,h=>by cases s <;> simp [z3z] at h
 | .pair _ _,_,.idx _ :: _,_,_,_,_,_,_,_,_,_,h=>by simp [z3z] at h
 | .arr _ _,_,.fst :: _,_,_,_,_,_,_,_,_,_,h=>by simp [z3z] at h
 | .arr _ _,_,.snd :: _,_,_,_,_,_,_,_,_,_,h=>by simp [z3z] at h
abbrev z2c:=Nat->Option Obj
def z0w (g:Ghost) (id:Nat):(t:Ty)->(pre:z1a)->(b off:Nat)->z1a->Option (Nat×Nat)
 | _,_,b,off,[]=>some (b,off)
 | .pair a _,pre,b,off,.fst :: p=>z0w g id a (pre++[.fst]) b off p
 | .pair a c,pre,b,off,.snd :: p=>z0w g id c (pre++[.snd]) b (off+a.size) p
 | .arr _ t,pre,b,off,.idx i :: p=>z0w g id t (pre++[.idx i]) b (off+i.toNat*t.size) p
 | .sl true t,pre,_,_,.idx i :: p=>match g.sv id pre with
  | .slice (some a) _ _=>z0w g id t (pre++[.idx i]) a.block (a.off+i.toNat*t.size) p
  | _=>none
 | _,_,_,_,_=>none
def z2g (v:Value) (size:Nat) (a b:Int):Value:=match v with
 | .slice x _ cap=>.slice (if cap-a.toNat=0 then x else x.map (·.add (a.toNat*size))) (b-a).toNat (cap-a.toNat)
 | v=>v
def AVal.isAgg:AVal->Bool
 | .data t _=>t.sk.isAgg
 | .agg _=>true
 | _=>false
def mkV (agg:Bool) (cs:List Value):Value:=if agg then .agg cs.toArray else cs.headD undef
def AOK (w:World) (g:Ghost) (objs:z2c):AVal->List Value->Prop
 | .data t d,cs=>t.isRo=true∧Rep w g none t d cs
 | .nilS,cs=>cs=[.slice none 0 0]
 | .ref id p ep,cs=>∃ v,cs=[v]∧v.oneCell'=true∧∀ t l e,objs id=some (.row t l e)->ep≤e∧(e=ep->v=g.sv id p)
 | .view id p ep a b,cs=>∃ v,cs=[v]∧v.oneCell'=true∧∀ t l e,objs id=some (.row t l e)->ep≤e∧
   (e=ep->p=[]∧0≤a∧a≤b∧b≤(l.length:Int)∧v=z2g (g.sv id p) t.size a b)
 | .bptr id p,cs=>∃ v,cs=[v]∧v.oneCell'=true∧∀ a,objs id=some (.cell a)->∃ off s,a.sk.off p=some (off,s)∧v = .pointer (some ⟨g.blk id,off,none⟩)
 | .eptr id p ep,cs=>∃ v,cs=[v]∧v.oneCell'=true∧∀ t l e,objs id=some (.row t l e)->ep≤e∧
   (e=ep->p≠[]∧∃ b off,z0w g id (.sl true t) [] 0 0 p=some (b,off)∧v = .pointer (some ⟨b,off,none⟩))
 | .mref id,cs=>∃ v,cs=[v]∧v.oneCell'=true∧∀ kt vt m,objs id=some (.map kt vt m)->v = .map (some (g.blk id))
 | .nv pt id p ep,cs=>∃ v,cs=[v]∧v.oneCell'=true∧∀ t l e i h,objs id=some (.nest t l e i h)->ep≤nep pt p e i∧
   (nep pt p e i=ep->(pt=false->v=g.sv id p)∧(pt=true->p≠[]∧∃ b off,z0w g id (.sl true t) [] 0 0 p=some (b,off)∧v = .pointer (some ⟨b,off,none⟩)))
 | .clos f c,cs=>∃ vs,cs=[.func (.func f) #[] vs.toArray]∧AOK w g objs c vs
 | .ifc t c,cs=>∃ x cs',cs=[.iface t x]∧AOK w g objs c cs'∧x=mkV c.isAgg cs'
 | .agg c,cs=>AOK w g objs c cs
 | .tup _,_=>False
 | .pr a b,cs=>∃ c1 c2,cs=c1++c2∧AOK w g objs a c1∧AOK w g objs b c2
 | .un,cs=>cs=[]
theorem AOK.len {w:World} {g:Ghost} {objs:z2c}:{a:AVal}->{cs:List Value}->AOK w g objs a cs->cs.length=a.sk.size
 | .data t d,_,h=>by rw [h.2.len];simp [AVal.sk,Ty.sk_size]
 | .nilS,_,h=>by cases h;rfl
 | .ref _ _ _,_,h=>by obtain ⟨v,rfl,_⟩:=h;rfl
 | .view _ _ _ _ _,_,h=>by obtain ⟨v,rfl,_⟩:=h;rfl
 | .bptr _ _,_,h=>by obtain ⟨v,rfl,_⟩:=h;rfl
 | .eptr _ _ _,_,h=>by obtain ⟨v,rfl,_⟩:=h;rfl
 | .mref _,_,h=>by obtain ⟨v,rfl,_⟩:=h;rfl
 | .nv _ _ _ _,_,h=>by obtain ⟨v,rfl,_⟩:=h;rfl
 | .clos _ _,_,h=>by obtain ⟨v,rfl,_⟩:=h;rfl
 | .ifc _ _,_,h=>by obtain ⟨x,cs,rfl,_⟩:=h;rfl
 | .agg c,_,h=>AOK.len (a:=c) h
 | .tup _,_,h=>h.elim
 | .pr a b,_,h=>by
  obtain ⟨c1,c2,rfl,h1,h2⟩:=h
  simp only [List.length_append,AVal.sk,Sk.size,h1.len,h2.len]
 | .un,_,h=>by cases h;rfl
mutual
def VOK (w:World) (g:Ghost) (objs:z2c):AVal->Value->Prop
 | .tup c,v=>∃ vs,v = .tuple vs.toArray∧z1o w g objs c vs
 | .pr _ _,_=>False
 | .un,_=>False
 | a,v=>∃ cs,AOK w g objs a cs∧v=mkV a.isAgg cs
def z1o (w:World) (g:Ghost) (objs:z2c):AVal->List Value->Prop
 | .pr a b,vs=>∃ v r,vs=v :: r∧VOK w g objs a v∧z1o w g objs b r
 | .un,vs=>vs=[]
 | _,_=>False
end
end Go.Kz
namespace Go.Kz
variable {R:Type}
theorem z8k {w:World} {g:Ghost} {objs:z2c}:{a:AVal}->{p:z1a}->{k:AVal->Option R}->{r:R}->{cs:List Value}->
  AOK w g objs a cs->zak a p k=some r->
  ∃ a' off,k a'=some r∧a.sk.off p=some (off,a'.sk)∧AOK w g objs a' (seg cs off a'.sk.size)∧∀ m,m∉a.ids->m∉a'.ids
 | a,[],k,r,cs,hok,h=>by
  have hk:k a=some r:=by cases a <;> simpa [zak] using h
  exact ⟨a,0,hk,by simp [Sk.off],by rw [←hok.len,z6b];exact hok,fun m hm=>hm⟩
 | .agg c,s :: p,k,r,cs,hok,h=>by
  simp only [zak] at h
  exact z8k (a:=c) (show AOK w g objs c cs from hok) h
 | .pr a b,.fst :: p,k,r,cs,hok,h=>by
  simp only [zak] at h;obtain ⟨c1,c2,rfl,h1,h2⟩:=hok;obtain ⟨a',off,hk,ho,hr,hi⟩:=z8k h1 h;have:=Sk.off_le ho;refine ⟨a',off,hk,by simpa [AVal.sk,Sk.off] using ho,?_,fun m hm=>hi m (by simp [AVal.ids] at hm;exact hm.1)⟩
  rw [z1f _ _ _ _ (by rw [h1.len];exact this)];exact hr
 | .pr a b,.snd :: p,k,r,cs,hok,h=>by
  simp only [zak] at h;obtain ⟨c1,c2,rfl,h1,h2⟩:=hok;obtain ⟨a',off,hk,ho,hr,hi⟩:=z8k h2 h;refine ⟨a',a.sk.size+off,hk,by simp [AVal.sk,Sk.off,ho],?_,fun m hm=>hi m (by simp [AVal.ids] at hm;exact hm.2)⟩
  rw [z1g _ _ _ _ _ h1.len.symm];exact hr
 | .data t d,s :: p,k,r,cs,hok,h=>by
  have h':z13 t d (s :: p) (fun u e=>k (.data u e))=some r:=by cases s <;> simpa [zak] using h
  obtain ⟨u,e,off,hk,hu,ho,hr⟩:=za5 hok.1 hok.2 h'
  exact ⟨.data u e,off,hk,by simpa [AVal.sk] using ho,⟨hu,by simpa [AVal.sk,Ty.sk_size] using hr⟩,fun m _=>by simp [AVal.ids]⟩
 | .nilS,s :: _,_,_,_,_,h=>by cases s <;> simp [zak] at h
 | .ref _ _ _,s :: _,_,_,_,_,h=>by cases s <;> simp [zak] at h
 | .view _ _ _ _ _,s :: _,_,_,_,_,h=>by cases s <;> simp [zak] at h
 | .bptr _ _,s :: _,_,_,_,_,h=>by cases s <;> simp [zak] at h
 | .eptr _ _ _,s :: _,_,_,_,_,h=>by cases s <;> simp [zak] at h
 | .mref _,s :: _,_,_,_,_,h=>by cases s <;> simp [zak] at h
 | .nv _ _ _ _,s :: _,_,_,_,_,h=>by cases s <;> simp [zak] at h
 | .clos _ _,s :: _,_,_,_,_,h=>by cases s <;> simp [zak] at h
 | .tup _,s :: _,_,_,_,_,h=>by cases s <;> simp [zak] at h
 | .un,s :: _,_,_,_,_,h=>by cases s <;> simp [zak] at h
 | .pr _ _,.idx _ :: _,_,_,_,_,h=>by simp [zak] at h
theorem z9v {w:World} {g:Ghost} {objs:z2c}:{t:Ty}->{d:t.den}->{cs:List Value}->t.isRo=true->Rep w g none t d cs->
  (z2r t d).sk=t.sk->AOK w g objs (z2r t d) cs
 | .pair a b,(x,y),cs,ht,h,hs=>by
  obtain ⟨c1,c2,rfl,h1,h2⟩:=h;simp only [Ty.isRo,zA] at ht;simp only [z2r,AVal.sk,Ty.sk,Sk.pair.injEq,true_and] at hs
  exact ⟨c1,c2,rfl,⟨ht.1,h1⟩,z9v ht.2 h2 hs⟩
 | .unit,_,cs,_,h,_=>h
 | .int _,_,_,_,_,hs=>by simp [z2r,AVal.sk,Ty.sk] at hs
 | .bool,_,_,_,_,hs=>by simp [z2r,AVal.sk,Ty.sk] at hs
 | .str,_,_,_,_,hs=>by simp [z2r,AVal.sk,Ty.sk] at hs
 | .arr _ _,_,_,_,_,hs=>by simp [z2r,AVal.sk,Ty.sk] at hs
 | .sl _ _,_,_,_,_,hs=>by simp [z2r,AVal.sk,Ty.sk] at hs
 | .ptr _,_,_,_,_,hs=>by simp [z2r,AVal.sk,Ty.sk] at hs
 | .fn _ _,_,_,_,_,hs=>by simp [z2r,AVal.sk,Ty.sk] at hs
theorem zcv:(t:Ty)->(d:t.den)->(z2r t d).ids=[]
 | .pair a b,(x,y)=>by simp [z2r,AVal.ids,zcv b y]
 | .int _,_=>by simp [z2r,AVal.ids]
 | .bool,_=>by simp [z2r,AVal.ids]
 | .str,_=>by simp [z2r,AVal.ids]
 | .unit,_=>by simp [z2r,AVal.ids]
 | .arr _ _,_=>by simp [z2r,AVal.ids]
 | .sl _ _,_=>by simp [z2r,AVal.ids]
 | .ptr _,_=>by simp [z2r,AVal.ids]
 | .fn _ _,_=>by simp [z2r,AVal.ids]
theorem zbk (c1 c2 ecs:List Value) (h:ecs.length=c1.length):z0f (c1++c2) 0 ecs=ecs++c2:=by
 simp only [z0f,List.take_zero,List.nil_append,Nat.zero_add,h,List.drop_left]
theorem z8y {w:World} {g:Ghost} {objs:z2c} {new:AVal} {ecs:List Value} (hn:AOK w g objs new ecs) :
  {t:Ty}->{d:t.den}->{p:z1a}->{k:AVal->Option R}->{r:R}->{cs:List Value}->{off:Nat}->
  t.isRo=true->Rep w g none t d cs->t.sk.off p=some (off,new.sk)->z0x new t d p k=some r->
  ∃ u,k u=some r∧(∀ m,m∉new.ids->m∉u.ids)∧(u.sk=t.sk->AOK w g objs u (z0f cs off ecs))
 | .pair a b,(x,y),[.fst],k,r,cs,off,ht,h,ho,hk=>by
  obtain ⟨c1,c2,rfl,h1,h2⟩:=h;simp only [Ty.isRo,zA] at ht;simp only [Ty.sk,Sk.off,zI,Prod.mk.injEq] at ho;obtain ⟨rfl,hs⟩:=ho;refine ⟨_,hk,fun m hm=>by simp [AVal.ids,zcv,hm],fun he=>?_⟩;simp only [AVal.sk,Ty.sk,Sk.pair.injEq] at he;rw [zbk _ _ _ (by rw [hn.len,h1.len,←hs,Ty.sk_size])]
  exact ⟨ecs,c2,rfl,hn,z9v ht.2 h2 he.2⟩
 | .pair a b,(x,y),.fst :: s :: p,k,r,cs,off,ht,h,ho,hk=>by
  obtain ⟨c1,c2,rfl,h1,h2⟩:=h;simp only [Ty.isRo,zA] at ht;simp only [Ty.sk,Sk.off] at ho;simp only [z0x] at hk;obtain ⟨u,hu,hi,hok⟩:=z8y hn ht.1 h1 ho hk;refine ⟨_,hu,fun m hm=>by simp [AVal.ids,zcv,hi m hm],fun he=>?_⟩;simp only [AVal.sk,Ty.sk,Sk.pair.injEq] at he;have:=Sk.off_le ho;rw [Ty.sk_size] at this;rw [z3l _ _ _ _ (by rw [h1.len,hn.len];exact this)]
  exact ⟨_,c2,rfl,hok he.1,z9v ht.2 h2 he.2⟩
 | .pair a b,(x,y),.snd :: p,k,r,cs,off,ht,h,ho,hk=>by
  obtain ⟨c1,c2,rfl,h1,h2⟩:=h;simp only [Ty.isRo,zA] at ht;simp only [Ty.sk,Sk.off,Option.map_eq_some_iff,Prod.mk.injEq] at ho;obtain ⟨⟨o,s⟩,ho,rfl,rfl⟩:=ho;have hk':z0x new b y p (fun u=>k (.pr (.data a x) u))=some r:=by simpa [z0x] using hk
  obtain ⟨u,hu,hi,hok⟩:=z8y hn ht.2 h2 ho hk';refine ⟨_,hu,fun m hm=>by simp [AVal.ids,hi m hm],fun he=>?_⟩;simp only [AVal.sk,Ty.sk,Sk.pair.injEq] at he;rw [z3c _ _ _ _ _ (by rw [h1.len,Ty.sk_size])]
  exact ⟨c1,_,rfl,⟨ht.1,h1⟩,hok he.2⟩
 | .pair _ _,_,[],_,_,_,_,_,_,_,hk=>by simp [z0x] at hk
 | .pair _ _,_,.idx _ :: _,_,_,_,_,_,_,_,hk=>by simp [z0x] at hk
 | .int _,_,_,_,_,_,_,_,_,_,hk=>by simp [z0x] at hk
 | .bool,_,_,_,_,_,_,_,_,_,hk=>by simp [z0x] at hk
 | .str,_,_,_,_,_,_,_,_,_,hk=>by simp [z0x] at hk
 | .unit,_,_,_,_,_,_,_,_,_,hk=>by simp [z0x] at hk
 | .arr _ _,_,_,_,_,_,_,_,_,_,hk=>by simp [z0x] at hk
 | .sl _ _,_,_,_,_,_,_,_,_,_,hk=>by simp [z0x] at hk
 | .ptr _,_,_,_,_,_,_,_,_,_,hk=>by simp [z0x] at hk
 | .fn _ _,_,_,_,_,_,_,_,_,_,hk=>by simp [z0x] at hk
theorem zbp {w:World} {g:Ghost} {objs:z2c} {new:AVal} {ecs:List Value} (hn:AOK w g objs new ecs) :
  {a:AVal}->{p:z1a}->{k:AVal->Option R}->{r:R}->{cs:List Value}->{off:Nat}->
  AOK w g objs a cs->a.sk.off p=some (off,new.sk)->z7n new a p k=some r->
  ∃ a',k a'=some r∧a'.sk=a.sk∧AOK w g objs a' (z0f cs off ecs)∧∀ m,m∉a.ids->m∉new.ids->m∉a'.ids
 | a,[],k,r,cs,off,hok,ho,h=>by
  have hk:k new=some r:=by cases a <;> simpa [z7n] using h
  simp only [Sk.off,zI,Prod.mk.injEq] at ho;obtain ⟨rfl,hs⟩:=ho;have:z0f cs 0 ecs=ecs:=by
   simp only [z0f,List.take_zero,List.nil_append,Nat.zero_add];rw [hn.len,←hs,←hok.len];simp
  exact ⟨new,hk,hs.symm,by rw [this];exact hn,fun m _ h=>h⟩
 | .agg c,s :: p,k,r,cs,off,hok,ho,h=>by
  simp only [z7n] at h;obtain ⟨a',hk,hs,hr,hi⟩:=zbp hn (a:=c) (show AOK w g objs c cs from hok) ho h
  exact ⟨.agg a',hk,hs,hr,hi⟩
 | .pr a b,.fst :: p,k,r,cs,off,hok,ho,h=>by
  simp only [z7n] at h;obtain ⟨c1,c2,rfl,h1,h2⟩:=hok;have ho':a.sk.off p=some (off,new.sk):=by simpa [AVal.sk,Sk.off] using ho
  obtain ⟨a',hk,hs,hr,hi⟩:=zbp hn h1 ho' h;have:=Sk.off_le ho';refine ⟨.pr a' b,hk,by simp [AVal.sk,hs],?_,fun m hm hn=>by simp [AVal.ids] at hm ⊢;exact ⟨hi m hm.1 hn,hm.2⟩⟩;rw [z3l _ _ _ _ (by rw [h1.len,hn.len];exact this)]
  exact ⟨_,_,rfl,hr,h2⟩
 | .pr a b,.snd :: p,k,r,cs,off,hok,ho,h=>by
  simp only [z7n] at h;obtain ⟨c1,c2,rfl,h1,h2⟩:=hok;simp only [AVal.sk,Sk.off,Option.map_eq_some_iff,Prod.mk.injEq] at ho;obtain ⟨⟨o,s⟩,ho,rfl,rfl⟩:=ho;obtain ⟨a',hk,hs,hr,hi⟩:=zbp hn h2 ho h;refine ⟨.pr a a',hk,by simp [AVal.sk,hs],?_,fun m hm hn=>by simp [AVal.ids] at hm ⊢;exact ⟨hm.1,hi m hm.2 hn⟩⟩;rw [z3c _ _ _ _ _ h1.len.symm]
  exact ⟨_,_,rfl,h1,hr⟩
 | .data t d,s :: p,k,r,cs,off,hok,ho,h=>by
  have h':cond (znq t (s :: p) new) (zim new t d (s :: p) k)
   (z0x new t d (s :: p) fun u=>cond (u.sk.same t.sk) (k (.agg u)) none)=some r:=by cases s <;> simpa [z7n] using h
  cases hf:znq t (s :: p) new with
  | true=>
   rw [hf] at h'
   cases new with
   | data u e=>
    obtain ⟨d',off',hk,ho',hr⟩:=z9y hok.1 hok.2 hn.2 h';simp only [AVal.sk] at ho;rw [ho'] at ho;simp only [zI,Prod.mk.injEq] at ho;obtain ⟨rfl,_⟩:=ho
    exact ⟨_,hk,rfl,⟨hok.1,hr⟩,fun m _ _=>by simp [AVal.ids]⟩
   | _=>simp [zim] at h'
  | false=>
   rw [hf] at h';obtain ⟨u,hu,hi,hok'⟩:=z8y hn hok.1 hok.2 (by simpa [AVal.sk] using ho) h'
   cases hs:u.sk.same t.sk with
   | true=>
    rw [hs] at hu
    exact ⟨.agg u,hu,Sk.same_eq hs,hok' (Sk.same_eq hs),fun m _ hm=>hi m hm⟩
   | false=>rw [hs] at hu;simp at hu
 | .nilS,s :: _,_,_,_,_,_,_,h=>by cases s <;> simp [z7n] at h
 | .ref _ _ _,s :: _,_,_,_,_,_,_,h=>by cases s <;> simp [z7n] at h
 | .view _ _ _ _ _,s :: _,_,_,_,_,_,_,h=>by cases s <;> simp [z7n] at h
 | .bptr _ _,s :: _,_,_,_,_,_,_,h=>by cases s <;> simp [z7n] at h
 | .eptr _ _ _,s :: _,_,_,_,_,_,_,h=>by cases s <;> simp [z7n] at h
 | .mref _,s :: _,_,_,_,_,_,_,h=>by cases s <;> simp [z7n] at h
 | .nv _ _ _ _,s :: _,_,_,_,_,_,_,h=>by cases s <;> simp [z7n] at h
 | .clos _ _,s :: _,_,_,_,_,_,_,h=>by cases s <;> simp [z7n] at h
 | .tup _,s :: _,_,_,_,_,_,_,h=>by cases s <;> simp [z7n] at h
 | .un,s :: _,_,_,_,_,_,_,h=>by cases s <;> simp [z7n] at h
 | .pr _ _,.idx _ :: _,_,_,_,_,_,_,h=>by simp [z7n] at h
end Go.Kz
