/-
  A symbolic interpreter over the model's Code: definitions only (no proof).
  Abstract values are typed data (lists, numbers, pairs) or references to objects that the running function owns.
-/
import Derived.WalkKit
import Derived.ProofKit
set_option linter.unusedVariables false
set_option linter.unusedSimpArgs false
namespace Go.Kz
inductive Ty where
 | int (k:IntKind) | bool | str | unit
 | pair (a b:Ty) | arr (n:Nat) (t:Ty) | sl (own:Bool) (t:Ty) | ptr (t:Ty) | fn (f:Nat) (c:Ty)
@[reducible] def Ty.den:Ty→Type
 | .int _=>Int
 | .bool=>Bool
 | .str=>List UInt8
 | .unit=>Unit
 | .pair a b=>a.den×b.den
 | .arr _ t=>List t.den
 | .sl _ t=>List t.den
 | .ptr t=>t.den
 | .fn _ c=>c.den
def Ty.same:(a b:Ty)→Option (PLift (a=b))
 | .int k,.int j=>if h:k=j then some ⟨by rw [h]⟩ else none
 | .bool,.bool=>some ⟨rfl⟩
 | .str,.str=>some ⟨rfl⟩
 | .unit,.unit=>some ⟨rfl⟩
 | .pair a b,.pair c d=>
  match Ty.same a c with
  | some h=>match Ty.same b d with
   | some h'=>some ⟨by rw [h.down,h'.down]⟩
   | none=>none
  | none=>none
 | .arr n t,.arr m u=>if h:n=m then match Ty.same t u with
   | some h'=>some ⟨by rw [h,h'.down]⟩
   | none=>none
  else none
 | .sl o t,.sl p u=>if h:o=p then match Ty.same t u with
   | some h'=>some ⟨by rw [h,h'.down]⟩
   | none=>none
  else none
 | .ptr t,.ptr u=>match Ty.same t u with
   | some h'=>some ⟨by rw [h'.down]⟩
   | none=>none
 | .fn f c,.fn g d=>if h:f=g then match Ty.same c d with
   | some h'=>some ⟨by rw [h,h'.down]⟩
   | none=>none
  else none
 | _,_=>none
def Ty.size:Ty→Nat
 | .unit=>0
 | .pair a b=>a.size+b.size
 | .arr n t=>n*t.size
 | _=>1
def Ty.ro:Ty→Ty
 | .sl _ t=>.sl false t.ro
 | .pair a b=>.pair a.ro b.ro
 | .arr n t=>.arr n t.ro
 | .ptr t=>.ptr t.ro
 | .fn f c=>.fn f c.ro
 | t=>t
theorem Ty.den_ro:(t:Ty)→t.ro.den=t.den
 | .int _=>rfl
 | .bool=>rfl
 | .str=>rfl
 | .unit=>rfl
 | .pair a b=>by simp only [Ty.ro,Ty.den,Ty.den_ro a,Ty.den_ro b]
 | .arr _ t=>by simp only [Ty.ro,Ty.den,Ty.den_ro t]
 | .sl _ t=>by simp only [Ty.ro,Ty.den,Ty.den_ro t]
 | .ptr t=>by simp only [Ty.ro,Ty.den,Ty.den_ro t]
 | .fn _ c=>by simp only [Ty.ro,Ty.den,Ty.den_ro c]
def Ty.toRo (t:Ty) (d:t.den):t.ro.den:=cast (Ty.den_ro t).symm d
def Ty.isRo:Ty→Bool
 | .sl o t=>!o && t.isRo
 | .pair a b=>a.isRo && b.isRo
 | .arr _ t=>t.isRo
 | .ptr t=>t.isRo
 | .fn _ c=>c.isRo
 | _=>true
def Ty.zero:(t:Ty)→Option t.den
 | .int _=>some (0:Int)
 | .bool=>some false
 | .str=>some ([]:List UInt8)
 | .unit=>some ()
 | .pair a b=>match a.zero,b.zero with
  | some x,some y=>some (x,y)
  | _,_=>none
 | .arr n t=>match t.zero with
  | some x=>some (List.replicate n x)
  | none=>none
 | .sl _ t=>some ([]:List t.den)
 | _=>none
inductive Sk where
 | leaf | unit | pair (a b:Sk) | arr (n:Nat) (t:Sk)
def Sk.size:Sk→Nat
 | .leaf=>1
 | .unit=>0
 | .pair a b=>a.size+b.size
 | .arr n t=>n*t.size
def Sk.same:Sk→Sk→Bool
 | .leaf,.leaf=>true
 | .unit,.unit=>true
 | .pair a b,.pair c d=>a.same c && b.same d
 | .arr n t,.arr m u=>Nat.beq n m && t.same u
 | _,_=>false
def Sk.isAgg:Sk→Bool
 | .leaf=>false
 | _=>true
def Ty.sk:Ty→Sk
 | .unit=>.unit
 | .pair a b=>.pair a.sk b.sk
 | .arr n t=>.arr n t.sk
 | _=>.leaf
def Ty.noSl:Ty→Bool
 | .sl _ _=>false
 | .pair a b=>a.noSl && b.noSl
 | .arr _ t=>t.noSl
 | .ptr _ | .fn _ _=>false
 | _=>true
inductive Step where
 | fst | snd | idx (i:Int)
abbrev Path:=List Step
def idx {α:Type} (l:List α):Int→Option α
 | .ofNat n=>l[n]?
 | .negSucc _=>none
def setI {α:Type} (l:List α) (i:Int) (x:α):List α:=l.set i.toNat x
def inb {α:Type} (l:List α) (i:Int):Bool:=decide (0≤i) && decide (i < (l.length:Int))
def chk {R:Type} (b:Bool) (x:Option R):Option R:=cond b x none
def room:Nat:=4294967296
def sub {α:Type} (l:List α) (a b:Int):List α:=(l.drop a.toNat).take (b.toNat-a.toNat)
variable {R:Type}
def castK (a b:Ty) (d:a.den) (k:b.den→Option R):Option R:=
 match Ty.same a b with
 | some h=>k (cast (congrArg Ty.den h.down) d)
 | none=>none
def getK:(t:Ty)→t.den→Path→((u:Ty)→u.den→Option R)→Option R
 | .pair a _,(x,_),.fst :: p,k=>getK a x p k
 | .pair _ b,(_,y),.snd :: p,k=>getK b y p k
 | .arr _ t,l,.idx i :: p,k=>(idx l i).bind fun x=>getK t x p k
 | .sl true t,l,.idx i :: p,k=>(idx l i).bind fun x=>getK t x p k
 | t,d,[],k=>k t d
 | _,_,_ :: _,_=>none
def setK:(t:Ty)→t.den→Path→(u:Ty)→u.den→(t.den→Option R)→Option R
 | .pair a _,(x,y),.fst :: p,u,e,k=>setK a x p u e fun x'=>k (x',y)
 | .pair _ b,(x,y),.snd :: p,u,e,k=>setK b y p u e fun y'=>k (x,y')
 | .arr _ t,l,.idx i :: p,u,e,k=>(idx l i).bind fun x=>setK t x p u e fun x'=>k (setI l i x')
 | .sl true t,l,.idx i :: p,u,e,k=>(idx l i).bind fun x=>setK t x p u e fun x'=>k (setI l i x')
 | t,_,[],u,e,k=>castK u t e k
 | _,_,_ :: _,_,_,_=>none
inductive AVal where
 | data (t:Ty) (d:t.den)
 | nilS
 | ref (id:Nat) (p:Path) (ep:Nat)
 | view (id:Nat) (p:Path) (ep:Nat) (a b:Int)
 | bptr (id:Nat) (p:Path)
 | eptr (id:Nat) (p:Path) (ep:Nat)
 | mref (id:Nat)
 | nv (pt:Bool) (id:Nat) (p:Path) (ep:Nat)
 | clos (f:Nat) (c:AVal)
 | ifc (t:Nat) (c:AVal)
 | agg (c:AVal)
 | tup (c:AVal)
 | pr (a b:AVal)
 | un
def AVal.sk:AVal→Sk
 | .data t _=>t.sk
 | .agg c=>c.sk
 | .pr a b=>.pair a.sk b.sk
 | .un=>.unit
 | _=>.leaf
inductive Obj where
 | row (t:Ty) (l:List t.den) (ep:Nat)
 | cell (a:AVal)
 | map (kt vt:Ty) (m:List (kt.den×vt.den))
 | nest (t:Ty) (l:List t.den) (e i:Nat) (hole:Option Path)
structure St where
 slots:Nat→Option AVal
 objs:Nat→Option Obj
 next:Nat
def upd {α:Type} (f:Nat→Option α) (i:Nat) (v:Option α):Nat→Option α:=fun j=>cond (Nat.beq j i) v (f j)
def St.set (σ:St) (i:Nat) (v:AVal):St:={ σ with slots:=upd σ.slots i (some v) }
def St.unset (σ:St):Option Nat→St
 | some i=>{ σ with slots:=upd σ.slots i none }
 | none=>σ
def St.setObj (σ:St) (i:Nat) (o:Obj):St:={ σ with objs:=upd σ.objs i (some o) }
def St.kill (σ:St) (i:Nat):St:={ σ with objs:=upd σ.objs i none }
def splitC:(t:Ty)→t.den→AVal
 | .pair a b,(x,y)=>.pr (.data a x) (splitC b y)
 | _,_=>.un
def getA:AVal→Path→(AVal→Option R)→Option R
 | a,[],k=>k a
 | .agg c,s :: p,k=>getA c (s :: p) k
 | .pr a _,.fst :: p,k=>getA a p k
 | .pr _ b,.snd :: p,k=>getA b p k
 | .data t d,s :: p,k=>getK t d (s :: p) fun u e=>k (.data u e)
 | _,_,_=>none
def tyAt:Ty→Path→Option Ty
 | t,[]=>some t
 | .pair a _,.fst :: p=>tyAt a p
 | .pair _ b,.snd :: p=>tyAt b p
 | .arr _ t,.idx _ :: p=>tyAt t p
 | _,_=>none
def fitsAt (t:Ty) (p:Path):AVal→Bool
 | .data u _=>match tyAt t p with
  | some v=>(Ty.same v u).isSome
  | none=>false
 | _=>false
def setSplit (new:AVal):(t:Ty)→t.den→Path→(AVal→Option R)→Option R
 | .pair a b,(x,y),[.fst],k=>k (.pr new (splitC b y))
 | .pair a b,(x,y),.fst :: s :: p,k=>setSplit new a x (s :: p) fun u=>k (.pr (.agg u) (splitC b y))
 | .pair a b,(x,y),.snd :: p,k=>setSplit new b y p fun u=>k (.pr (.data a x) u)
 | _,_,_,_=>none
def setFit (new:AVal) (t:Ty) (d:t.den) (p:Path) (k:AVal→Option R):Option R:=match new with
 | .data u e=>setK t d p u e fun d=>k (.data t d)
 | _=>none
def setA (new:AVal):AVal→Path→(AVal→Option R)→Option R
 | _,[],k=>k new
 | .agg c,s :: p,k=>setA new c (s :: p) fun c=>k (.agg c)
 | .pr a b,.fst :: p,k=>setA new a p fun a=>k (.pr a b)
 | .pr a b,.snd :: p,k=>setA new b p fun b=>k (.pr a b)
 | .data t d,s :: p,k=>cond (fitsAt t (s :: p) new) (setFit new t d (s :: p) k)
   (setSplit new t d (s :: p) fun u=>cond (u.sk.same t.sk) (k (.agg u)) none)
 | _,_,_=>none
def rowK (t:Ty) (l:List t.den) (p:Path) (k:(u:Ty)→u.den→Option R):Option R:=getK (.sl true t) l p k
def fetchK (σ:St) (id:Nat) (p:Path) (ep:Nat) (k:(u:Ty)→List u.den→Option R):Option R:=
 match σ.objs id with
 | some (.row t l e)=>cond (Nat.beq e ep) (rowK t l p fun u d=>match u,d with
  | .sl true v,l=>k v l
  | _,_=>none) none
 | _=>none
def efetchK (σ:St) (id:Nat) (p:Path) (ep:Nat) (k:(u:Ty)→u.den→Option R):Option R:=
 match σ.objs id with
 | some (.row t l e)=>cond (Nat.beq e ep) (rowK t l p k) none
 | _=>none
def bfetchK (σ:St) (id:Nat) (p:Path) (k:AVal→Option R):Option R:=
 match σ.objs id with
 | some (.cell a)=>getA a p k
 | _=>none
def nep:Bool→Path→Nat→Nat→Nat
 | false,[],e,_=>e
 | _,_,_,i=>i
def nfetchK (σ:St) (pt:Bool) (id:Nat) (p:Path) (ep:Nat) (k:(u:Ty)→u.den→Option R):Option R:=
 match σ.objs id with
 | some (.nest t l e i none)=>cond (Nat.beq (nep pt p e i) ep) (rowK t l p k) none
 | _=>none
def nrowK (σ:St) (id:Nat) (p:Path) (ep:Nat) (k:(v:Ty)→List v.den→Option R):Option R:=
 nfetchK σ false id p ep fun u d=>match u,d with
  | .sl true v,l=>k v l
  | _,_=>none
def nilK:(t:Ty)→(t.den→Option R)→Option R
 | .sl _ _,k=>k []
 | _,_=>none
def asData (σ:St):Nat→(a:AVal)→(t:Ty)→(t.den→Option R)→Option R
 | 0,_,_,_=>none
 | _+1,.data t' d,t,k=>castK t' t d k
 | _+1,.nilS,t,k=>cond t.isRo (nilK t k) none
 | _+1,.ref id p ep,t,k=>fetchK σ id p ep fun v l=>castK (Ty.ro (.sl false v)) t (Ty.toRo (.sl false v) l) k
 | _+1,.view id p ep a b,t,k=>fetchK σ id p ep fun v l=>castK (Ty.ro (.sl false v)) t (Ty.toRo (.sl false v) (sub l a b)) k
 | _+1,.nv false id p ep,t,k=>nrowK σ id p ep fun v l=>castK (Ty.ro (.sl false v)) t (Ty.toRo (.sl false v) l) k
 | n+1,.bptr id p,.ptr t,k=>bfetchK σ id p fun a=>asData σ n a t k
 | _+1,.eptr id p ep,.ptr t,k=>efetchK σ id p ep fun u d=>castK u.ro t (Ty.toRo u d) k
 | n+1,.clos f c,.fn g t,k=>cond (Nat.beq f g) (asData σ n c t k) none
 | n+1,.agg c,t,k=>asData σ n c t k
 | n+1,.pr a b,.pair t u,k=>asData σ n a t fun x=>asData σ n b u fun y=>k (x,y)
 | _+1,.un,.unit,k=>k ()
 | _+1,_,_,_=>none
def give:Nat→(a:AVal)→(u:Ty)→St→(u.den→St→Option R)→Option R
 | 0,_,_,_,_=>none
 | _+1,.data t d,u,σ,k=>castK t u d fun d=>k d σ
 | _+1,.nilS,u,σ,k=>nilK u fun d=>k d σ
 | _+1,.ref id [] ep,u,σ,k=>
  match σ.objs id with
  | some (.row t l e)=>cond (Nat.beq e ep)
   (match u,k with
    | .sl true v,k=>castK (.sl true t) (.sl true v) l fun d=>k d (σ.kill id)
    | .sl false v,k=>castK (Ty.ro (.sl false t)) (.sl false v) (Ty.toRo (.sl false t) l) fun d=>k d (σ.kill id)
    | _,_=>none) none
  | _=>none
 | _+1,.nv false id [] ep,u,σ,k=>
  match σ.objs id with
  | some (.nest t l e _ none)=>cond (Nat.beq e ep)
   (match u,k with
    | .sl false v,k=>castK (Ty.ro (.sl false t)) (.sl false v) (Ty.toRo (.sl false t) l) fun d=>k d (σ.kill id)
    | _,_=>none) none
  | _=>none
 | n+1,.bptr id [],.ptr u,σ,k=>
  match σ.objs id with
  | some (.cell a)=>give n a u (σ.kill id) k
  | _=>none
 | n+1,.clos f c,.fn g t,σ,k=>cond (Nat.beq f g) (give n c t σ k) none
 | n+1,.agg c,u,σ,k=>give n c u σ k
 | n+1,.pr a b,.pair t u,σ,k=>give n a t σ fun x σ=>give n b u σ fun y σ=>k (x,y) σ
 | _+1,.un,.unit,σ,k=>k () σ
 | _+1,_,_,_,_=>none
def zeroAC:Ty→Option AVal×Option AVal
 | .sl _ _=>(some .nilS,none)
 | .unit=>(match (Ty.unit).zero,(Ty.unit).noSl with
  | some z,true=>some (.data .unit z)
  | _,_=>none,some .un)
 | .pair a b=>
  let c:=match (zeroAC a).1,(zeroAC b).2 with
   | some x,some y=>some (.pr x y)
   | _,_=>none
  (match Ty.zero (.pair a b),(Ty.pair a b).noSl with
  | some z,true=>some (.data (.pair a b) z)
  | _,_=>c.map .agg,c)
 | t=>(match t.zero,t.noSl with
  | some z,true=>some (.data t z)
  | _,_=>none,none)
def zeroA (t:Ty):Option AVal:=(zeroAC t).1
def zeroC (t:Ty):Option AVal:=(zeroAC t).2
def expose:(t:Ty)→t.den→Nat→AVal×List Obj
 | .sl true t,l,n=>(.ref n [] 0,[.row t l 0])
 | .pair a b,(x,y),n=>
  cond (Ty.isRo (.pair a b)) (.data (.pair a b) (x,y),[])
   (let u:=expose a x n
    let v:=exposeC b y (n+u.2.length)
    (.agg (.pr u.1 v.1),u.2++v.2))
 | t,d,_=>(.data t d,[])
where exposeC:(t:Ty)→t.den→Nat→AVal×List Obj
 | .pair a b,(x,y),n=>
   (let u:=expose a x n
    let v:=exposeC b y (n+u.2.length)
    (.pr u.1 v.1,u.2++v.2))
 | _,_,_=>(.un,[])
end Go.Kz
namespace Go.Kz
structure TabE where
 n:Nat
 t:Ty
 l:List t.den
def tab0:List Int:=[0,1,56,2,57,49,28,3,61,58,42,50,38,29,17,4,62,47,59,36,45,43,51,22,53,39,33,30,24,18,12,5,63,55,48,27,60,41,37,16,46,35,44,21,52,32,23,11,54,26,40,15,34,20,31,10,25,14,19,9,13,8,7,6]
def tab:Nat→Option TabE
 | 0=>some ⟨64,.int .u8,tab0⟩
 | _=>none
theorem idxT_ex {α:Type}:∃ f:List α→Int→Option α,f=idx:=⟨_,rfl⟩
noncomputable def idxT {α:Type}:List α→Int→Option α:=Classical.choose idxT_ex
theorem idxT_eq {α:Type} (l:List α) (i:Int):idxT l i=idx l i:=by
 have:(idxT:List α→Int→Option α)=idx:=Classical.choose_spec idxT_ex
 rw [this]
end Go.Kz
namespace Go.Kz
noncomputable section
variable {R:Type}
inductive APat where
 | val (t:Ty) | ref (i:Nat) | bptr (i:Nat) | clos (f:Nat) (c:APat) | agg (c:APat) | pr (a b:APat) | un
@[reducible] def APat.den:APat→Type
 | .val t=>t.den
 | .ref _=>Unit
 | .bptr _=>Unit
 | .clos _ c=>c.den
 | .agg c=>c.den
 | .pr a b=>a.den×b.den
 | .un=>Unit
@[reducible] def resDen:List Ty→Type
 | []=>Unit
 | [t]=>t.den
 | t :: u :: ts=>t.den×resDen (u :: ts)
inductive SPat where
 | val (t:Ty) | nilS | ref (id:Nat) | view (id:Nat) | bptr (id:Nat) (p:Path) | mref (id:Nat) | nv (id:Nat) | nvi (id:Nat) | clos (f:Nat) (c:SPat) | ifc (t:Nat) (c:SPat) | agg (c:SPat) | pr (a b:SPat) | un
@[reducible] def SPat.den:SPat→Type
 | .val t=>t.den
 | .view _=>Int×Int
 | .nvi _=>Int
 | .clos _ c=>c.den
 | .ifc _ c=>c.den
 | .agg c=>c.den
 | .pr a b=>a.den×b.den
 | _=>Unit
def SPat.mk:(p:SPat)→p.den→AVal
 | .val t,d=>.data t d
 | .nilS,_=>.nilS
 | .ref id,_=>.ref id [] 0
 | .view id,d=>.view id [] 0 d.1 d.2
 | .bptr id p,_=>.bptr id p
 | .mref id,_=>.mref id
 | .nv id,_=>.nv false id [] 0
 | .nvi id,d=>.nv false id [.idx d] 0
 | .clos f c,d=>.clos f (c.mk d)
 | .ifc t c,d=>.ifc t (c.mk d)
 | .agg c,d=>.agg (c.mk d)
 | .pr a b,d=>.pr (a.mk d.1) (b.mk d.2)
 | .un,_=>.un
def stepB:Step→Step→Bool
 | .fst,.fst=>true
 | .snd,.snd=>true
 | _,_=>false
def pathB:Path→Path→Bool
 | [],[]=>true
 | a :: p,b :: q=>stepB a b && pathB p q
 | _,_=>false
def SPat.take:(p:SPat)→AVal→(p.den→Option R)→Option R
 | .val t,.data u d,k=>castK u t d k
 | .nilS,.nilS,k=>k ()
 | .ref id,.ref id' [] ep,k=>cond (Nat.beq id id' && Nat.beq ep 0) (k ()) none
 | .view id,.view id' [] ep a b,k=>cond (Nat.beq id id' && Nat.beq ep 0) (k (a,b)) none
 | .bptr id p,.bptr id' p',k=>cond (Nat.beq id id' && pathB p p') (k ()) none
 | .mref id,.mref id',k=>cond (Nat.beq id id') (k ()) none
 | .nv id,.nv false id' [] ep,k=>cond (Nat.beq id id' && Nat.beq ep 0) (k ()) none
 | .nvi id,.nv false id' [.idx i] ep,k=>cond (Nat.beq id id' && Nat.beq ep 0) (k i) none
 | .clos f c,.clos g d,k=>cond (Nat.beq f g) (c.take d k) none
 | .ifc f c,.ifc g d,k=>cond (Nat.beq f g) (c.take d k) none
 | .agg c,.agg d,k=>c.take d k
 | .pr a b,.pr x y,k=>a.take x fun d=>b.take y fun e=>k (d,e)
 | .un,.un,k=>k ()
 | _,_,_=>none
inductive SObj where
 | row (t:Ty) | cell (p:SPat) | map (kt vt:Ty) | nest (t:Ty)
@[reducible] def SObj.den:SObj→Type
 | .row t=>List t.den
 | .cell p=>p.den
 | .map kt vt=>List (kt.den×vt.den)
 | .nest t=>List t.den
def SObj.mk:(o:SObj)→o.den→Obj
 | .row t,l=>.row t l 0
 | .cell p,d=>.cell (p.mk d)
 | .map kt vt,m=>.map kt vt m
 | .nest t,l=>.nest t l 0 0 none
def castM (kt vt kt' vt':Ty) (m:List (kt.den×vt.den)) (k:List (kt'.den×vt'.den)→Option R):Option R:=
 match Ty.same kt kt',Ty.same vt vt' with
 | some h,some h'=>k (cast (by rw [h.down,h'.down]) m)
 | _,_=>none
def SObj.take:(o:SObj)→Obj→(o.den→Option R)→Option R
 | .row t,.row u l ep,k=>cond (Nat.beq ep 0) (castK (.sl true u) (.sl true t) l k) none
 | .cell p,.cell a,k=>p.take a k
 | .map kt vt,.map kt' vt' m,k=>castM kt' vt' kt vt m k
 | .nest t,.nest u l e i none,k=>cond (Nat.beq e 0 && Nat.beq i 0) (castK (.sl true u) (.sl true t) l k) none
 | _,_,_=>none
structure SForm where
 slots:List (Nat×SPat)
 objs:List SObj
@[reducible] def slDen:List (Nat×SPat)→Type
 | []=>Unit
 | (_,p) :: l=>p.den×slDen l
@[reducible] def osDen:List SObj→Type
 | []=>Unit
 | o :: l=>o.den×osDen l
@[reducible] def SForm.den (f:SForm):Type:=slDen f.slots×osDen f.objs
def slMk:(l:List (Nat×SPat))→slDen l→List (Nat×AVal)
 | [],_=>[]
 | (i,p) :: l,d=>(i,p.mk d.1) :: slMk l d.2
def osMk:(l:List SObj)→osDen l→List Obj
 | [],_=>[]
 | o :: l,d=>o.mk d.1 :: osMk l d.2
def slTake:(l:List (Nat×SPat))→List (Nat×AVal)→(slDen l→Option R)→Option R
 | [],[],k=>k ()
 | (i,p) :: l,(j,a) :: m,k=>cond (Nat.beq i j) (p.take a fun d=>slTake l m fun e=>k (d,e)) none
 | _,_,_=>none
def osTake:(l:List SObj)→List Obj→(osDen l→Option R)→Option R
 | [],[],k=>k ()
 | o :: l,x :: m,k=>o.take x fun d=>osTake l m fun e=>k (d,e)
 | _,_,_=>none
def SForm.take (f:SForm) (sl:List (Nat×AVal)) (os:List Obj) (k:f.den→Option R):Option R:=
 slTake f.slots sl fun d=>osTake f.objs os fun e=>k (d,e)
inductive Callee where
 | pure (args:APat) (res:List Ty) (F:args.den→Option (resDen res))
 | mut (fin:SForm) (anch:List Nat) (fout:SForm) (F:fin.den→Option fout.den)
def fits:APat→AVal→Bool
 | .val (.fn f _),.clos g _=>Nat.beq f g
 | .val (.fn f _),.data (.fn g _) _=>Nat.beq f g
 | .val t,.data u _=>(Ty.same t u).isSome
 | .clos f c,.clos g d=>Nat.beq f g && fits c d
 | .agg c,.agg d=>fits c d
 | .pr p q,.pr x y=>fits p x && fits q y
 | _,_=>true
def fitS:SPat→AVal→Bool
 | .val (.fn f _),.clos g _=>Nat.beq f g
 | .val (.fn f _),.data (.fn g _) _=>Nat.beq f g
 | .val t,.data u _=>(Ty.same t u).isSome
 | .val _,.clos _ _=>false
 | .val _,_=>true
 | .nilS,.nilS=>true
 | .ref _,.ref _ _ _=>true
 | .view _,.view _ _ _ _ _=>true
 | .bptr _ _,.bptr _ _=>true
 | .mref _,.mref _=>true
 | .nv _,.nv false _ [] _=>true
 | .nvi _,.nv false _ (_ :: _) _=>true
 | .clos f c,.clos g d=>Nat.beq f g && fitS c d
 | .ifc f c,.ifc g d=>Nat.beq f g && fitS c d
 | .agg c,.agg d=>fitS c d
 | .pr p q,.pr x y=>fitS p x && fitS q y
 | .un,.un=>true
 | _,_=>false
def fitL:List (Nat×SPat)→AVal→Bool
 | [],.un=>true
 | (_,p) :: l,.pr a c=>fitS p a && fitL l c
 | _,_=>false
def Callee.fits:Callee→AVal→Bool
 | .pure p _ _,a=>Go.Kz.fits p a
 | .mut fin _ _ _,a=>fitL fin.slots a
def pickC (a:AVal):List Callee→Option Callee
 | []=>none
 | c :: l=>cond (c.fits a) (some c) (pickC a l)
abbrev Bnd:=List (Nat×Nat)
def getL {α:Type}:List (Nat×α)→Nat→Option α
 | [],_=>none
 | (i,v) :: l,j=>cond (Nat.beq i j) (some v) (getL l j)
def nthL {α:Type}:List α→Nat→Option α
 | [],_=>none
 | x :: _,0=>some x
 | _ :: l,n+1=>nthL l n
def hasVal:Bnd→Nat→Bool
 | [],_=>false
 | (_,v) :: l,x=>cond (Nat.beq v x) true (hasVal l x)
def bind1 (b:Bnd) (i id:Nat) (k:Bnd→Option R):Option R:=
 match getL b i with
 | some j=>cond (Nat.beq j id) (k b) none
 | none=>cond (hasVal b id) none (k ((i,id) :: b))
def matchArgs (σ:St):(p:APat)→(a:AVal)→Bnd→(p.den→Bnd→Option R)→Option R
 | .val t,a,b,k=>asData σ 20 a t fun d=>k d b
 | .ref i,.ref id [] ep,b,k=>
  match σ.objs id with
  | some (.row _ _ e)=>cond (Nat.beq e ep) (bind1 b i id fun b=>k () b) none
  | _=>none
 | .bptr i,.bptr id [],b,k=>bind1 b i id fun b=>k () b
 | .clos f c,.clos g d,b,k=>cond (Nat.beq f g) (matchArgs σ c d b k) none
 | .agg c,.agg d,b,k=>matchArgs σ c d b k
 | .pr p q,.pr x y,b,k=>matchArgs σ p x b fun dx b=>matchArgs σ q y b fun dy b=>k (dx,dy) b
 | .un,.un,b,k=>k () b
 | _,_,_,_=>none
def St.only (σ:St) (p:Nat→Bool):St:={ σ with objs:=fun i=>cond (p i) (σ.objs i) none }
def St.addObjs (σ:St) (n:Nat):List Obj→St
 | []=>σ
 | o :: os=>(σ.setObj n o).addObjs (n+1) os
def exposeRes:(ts:List Ty)→resDen ts→Nat→AVal×List Obj
 | [],_,_=>(.tup .un,[])
 | [t],d,n=>expose t d n
 | t :: u :: ts,(d,ds),n=>
  let x:=expose t d n
  let y:=chain (u :: ts) ds (n+x.2.length)
  (.tup (.pr x.1 y.1),x.2++y.2)
where chain:(ts:List Ty)→resDen ts→Nat→AVal×List Obj
 | [],_,_=>(.un,[])
 | [t],d,n=>let x:=expose t d n;(.pr x.1 .un,x.2)
 | t :: u :: ts,(d,ds),n=>
  let x:=expose t d n
  let y:=chain (u :: ts) ds (n+x.2.length)
  (.pr x.1 y.1,x.2++y.2)
inductive Conv where
 | row (t:Ty) | dat (t:Ty)
structure Cut where
 live:List Nat
 conv:List (Nat×Option Path×Conv)
def AVal.ids:AVal→List Nat
 | .ref i _ _ | .view i _ _ _ _ | .bptr i _ | .eptr i _ _ | .mref i | .nv _ i _ _=>[i]
 | .clos _ c | .ifc _ c | .agg c | .tup c=>c.ids
 | .pr a b=>a.ids++b.ids
 | _=>[]
def AVal.ren (objs:Nat→Option Obj) (ρ:Nat→Option Nat):AVal→Option AVal
 | .ref i p ep=>match p,objs i with
  | [],some (.row _ _ e)=>cond (Nat.beq e ep) ((ρ i).map fun j=>.ref j [] 0) none
  | _,_=>none
 | .view i p ep a b=>match p,objs i with
  | [],some (.row _ _ e)=>cond (Nat.beq e ep) ((ρ i).map fun j=>.view j [] 0 a b) none
  | _,_=>none
 | .bptr i p=>(ρ i).map fun j=>.bptr j p
 | .mref i=>(ρ i).map fun j=>.mref j
 | .nv pt i p ep=>match pt,objs i with
  | false,some (.nest _ _ e i' none)=>cond (Nat.beq (nep false p e i') ep) ((ρ i).map fun j=>.nv false j p 0) none
  | _,_=>none
 | .clos f c=>(c.ren objs ρ).map fun c=>.clos f c
 | .ifc f c=>(c.ren objs ρ).map fun c=>.ifc f c
 | .agg c=>(c.ren objs ρ).map fun c=>.agg c
 | .pr a b=>match a.ren objs ρ,b.ren objs ρ with
  | some a,some b=>some (.pr a b)
  | _,_=>none
 | .un=>some .un
 | .nilS=>some .nilS
 | .data t d=>some (.data t d)
 | _=>none
def Obj.ren (objs:Nat→Option Obj) (ρ:Nat→Option Nat):Obj→Option Obj
 | .row t l _=>some (.row t l 0)
 | .cell a=>(a.ren objs ρ).map .cell
 | .map k v m=>some (.map k v m)
 | .nest t l _ _ none=>some (.nest t l 0 0 none)
 | .nest _ _ _ _ (some _)=>none
def memN (x:Nat):List Nat→Bool
 | []=>false
 | y :: l=>cond (Nat.beq y x) true (memN x l)
def indexN (x:Nat):List Nat→Nat→Option Nat
 | [],_=>none
 | y :: l,i=>cond (Nat.beq y x) (some i) (indexN x l (i+1))
def reachN (objs:Nat→Option Obj):Nat→List Nat→List Nat→List Nat
 | 0,_,seen=>seen
 | _+1,[],seen=>seen
 | n+1,x :: todo,seen=>
  cond (memN x seen) (reachN objs n todo seen)
   (match objs x with
    | some (.cell a)=>reachN objs n (a.ids++todo) (seen++[x])
    | _=>reachN objs n todo (seen++[x]))
def St.of (sl:List (Nat×AVal)) (os:List Obj):St:=⟨getL sl,nthL os,os.length⟩
def renSlots (objs:Nat→Option Obj) (ρ:Nat→Option Nat):List (Nat×AVal)→Option (List (Nat×AVal))
 | []=>some []
 | (i,a) :: l=>match a.ren objs ρ,renSlots objs ρ l with
  | some a,some l=>some ((i,a) :: l)
  | _,_=>none
def renObjs (ρ:Nat→Option Nat) (objs:Nat→Option Obj):List Nat→Option (List Obj)
 | []=>some []
 | i :: l=>match (objs i).bind (·.ren objs ρ),renObjs ρ objs l with
  | some o,some l=>some (o :: l)
  | _,_=>none
def liveSlots (σ:St):List Nat→Option (List (Nat×AVal))
 | []=>some []
 | i :: l=>match σ.slots i,liveSlots σ l with
  | some a,some l=>some ((i,a) :: l)
  | _,_=>none
def AVal.val:AVal→Bool
 | .agg (.pr _ _) | .agg .un=>true
 | .agg _ | .pr _ _ | .un | .tup _=>false
 | _=>true
def cutRow (σ:St) (x:AVal) (k:AVal→St→Option R):Option R:=match x with
 | .view id [] ep a b=>match σ.objs id with
  | some (.row t l e)=>cond (Nat.beq e ep) (k (.ref id [] (e+1)) (σ.setObj id (.row t (sub l a b) (e+1)))) none
  | _=>none
 | x=>k x σ
def convA (σ:St) (a:AVal):Conv→(AVal→St→Option R)→Option R
 | .row t,k=>match a with
  | .nilS=>cond t.isRo (k (.ref σ.next [] 0) { σ.setObj σ.next (.row t [] 0) with next:=σ.next+1 }) none
  | a=>cutRow σ a k
 | .dat t,k=>cond (t.isRo && a.val && a.sk.same t.sk) (give 20 a t σ fun d σ=>k (.data t d) σ) none
def convK:List (Nat×Option Path×Conv)→St→(St→Option R)→Option R
 | [],σ,k=>k σ
 | (i,none,c) :: l,σ,k=>
  match σ.slots i with
  | some a=>cond a.val (convA σ a c fun a σ=>convK l (σ.set i a) k) none
  | none=>none
 | (i,some p,c) :: l,σ,k=>
  match σ.slots i with
  | some (.bptr id _)=>bfetchK σ id p fun a=>cond a.val (convA σ a c fun a σ=>bfetchK σ id [] fun whole=>setA a whole p fun whole=>convK l (σ.setObj id (.cell whole)) k) none
  | _=>none
def renumL (l:List (Nat×AVal)) (σ:St) (k:List (Nat×AVal)→List Obj→Option R):Option R:=
 let ids:=reachN σ.objs 100 (l.flatMap fun x=>x.2.ids) []
 let ρ:=fun i=>indexN i ids 0
 match renSlots σ.objs ρ l,renObjs ρ σ.objs ids with
 | some l',some os=>k l' os
 | _,_=>none
def normL (cut:Cut) (σ:St) (k:List (Nat×AVal)→List Obj→Option R):Option R:=
 convK cut.conv σ fun σ=>match liveSlots σ cut.live with
  | some l=>renumL l σ k
  | none=>none
def norm (cut:Cut) (σ:St) (k:St→Option R):Option R:=normL cut σ fun sl os=>k (St.of sl os)
inductive AExit where
 | normal | exit (id:Nat) | ret
abbrev LoopFn:=(R:Type)→List (Nat×AVal)→List Obj→(AExit→St→Option R)→Option R
structure Ctx where
 fuel:Nat
 tt:Nat→Option Ty
 mt:Nat→Option (Ty×Ty)
 ntmps:Nat
 env:Nat→List Callee
 cut:Nat→Option Cut
 exits:Nat→Nat→Option Cut
 res:Cut
 own:Nat→Option Ty
 lp:Nat→Option LoopFn
 eqs:Nat→Bool:=fun _=>false
 ct:Nat→Bool:=fun _=>false
 ms:Nat→String→Option (Nat×Option Nat):=fun _ _=>none
def tyFor (c:Ctx) (d:Option Nat) (t:Nat):Option Ty:=
 match d.bind c.own with
 | some u=>match c.tt t with
  | some v=>match Ty.same u.ro v.ro with
   | some _=>some u
   | none=>none
  | none=>none
 | none=>c.tt t
def froz (c:Ctx) (d:Option Nat):Bool:=match d.bind c.own with
 | some (.sl false _)=>true
 | _=>false
def ev (σ:St):Operand→Option AVal
 | .tmp t=>σ.slots t
 | .const (.int k n)=>cond (decide (k.min≤n) && decide (n≤k.max)) (some (.data (.int k) n)) none
 | .const (.bool b)=>some (.data .bool b)
 | .const (.string s)=>cond (Nat.ble s.size 100000) (some (.data .str s.data.toList)) none
 | .const (.slice none 0 0)=>some .nilS
 | .func f=>some (.clos f .un)
 | .global g=>match tab g with
  | some e=>some (.data (.ptr (.arr e.n e.t)) e.l)
  | none=>none
 | _=>none
def evs (σ:St):List Operand→Option AVal
 | []=>some .un
 | x :: l=>match ev σ x,evs σ l with
  | some a,some c=>some (.pr a c)
  | _,_=>none
def appendC:AVal→AVal→AVal
 | .pr a b,c=>.pr a (appendC b c)
 | _,c=>c
def isPtr:AVal→Bool
 | .bptr _ _ | .eptr _ _ _ | .data (.ptr _) _=>true
 | _=>false
def holds (σ:St):AVal→Bool
 | .data (.ptr _) _=>true
 | .bptr id _=>match σ.objs id with
  | some (.cell _)=>true
  | _=>false
 | .eptr id _ ep=>match σ.objs id with
  | some (.row _ _ e)=>Nat.beq e ep
  | _=>false
 | .nv true id _ ep=>match σ.objs id with
  | some (.nest _ _ _ i none)=>Nat.beq i ep
  | _=>false
 | _=>false
def allPtr:AVal→Bool
 | .un=>true
 | .pr (.bptr _ _) c=>allPtr c
 | .pr (.data (.ptr _) _) c=>allPtr c
 | _=>false
def St.putK (σ:St) (c:Ctx) (d:Option Nat) (v:AVal) (k:St→Option R):Option R:=match d with
 | some i=>cond (Nat.blt i c.ntmps) (k (σ.set i v)) none
 | none=>k σ
def binInt (op:BinOp) (k:IntKind) (a b:Int) (f:AVal→Option R):Option R:=
 match op with
 | .add=>f (.data (.int k) (k.wrap (a+b)))
 | .sub=>f (.data (.int k) (k.wrap (a-b)))
 | .mul=>f (.data (.int k) (k.wrap (a*b)))
 | .quo=>cond (b == 0) none (f (.data (.int k) (k.wrap (a.tdiv b))))
 | .rem=>cond (b == 0) none (f (.data (.int k) (a.tmod b)))
 | .and=>f (.data (.int k) (k.wrap (BitVec.ofInt k.bits a &&& BitVec.ofInt k.bits b).toNat))
 | .or=>f (.data (.int k) (k.wrap (BitVec.ofInt k.bits a ||| BitVec.ofInt k.bits b).toNat))
 | .xor=>f (.data (.int k) (k.wrap (BitVec.ofInt k.bits a ^^^ BitVec.ofInt k.bits b).toNat))
 | .andNot=>f (.data (.int k) (k.wrap (BitVec.ofInt k.bits a &&& ~~~BitVec.ofInt k.bits b).toNat))
 | .eql=>f (.data .bool (a == b))
 | .neq=>f (.data .bool (a != b))
 | .lss=>f (.data .bool (decide (a < b)))
 | .leq=>f (.data .bool (decide (a≤b)))
 | .gtr=>f (.data .bool (decide (a > b)))
 | .geq=>f (.data .bool (decide (a ≥ b)))
 | _=>none
def shiftInt (op:BinOp) (k:IntKind) (a b:Int) (f:AVal→Option R):Option R:=
 match op with
 | .shl=>cond (decide (b < 0)) none (f (.data (.int k) (k.wrap (a*2 ^ (min b.toNat k.bits)))))
 | .shr=>cond (decide (b < 0)) none (f (.data (.int k) (a.fdiv (2 ^ (min b.toNat k.bits)))))
 | _=>none
def isShift:BinOp→Bool
 | .shl | .shr=>true
 | _=>false
def binBool (op:BinOp) (a b:Bool) (f:AVal→Option R):Option R:=
 match op with
 | .eql=>f (.data .bool (a == b))
 | .neq=>f (.data .bool (!(a == b)))
 | _=>none
def keyTy:Ty→Bool
 | .int _ | .bool | .str=>true
 | _=>false
def keyEq:(t:Ty)→t.den→t.den→Bool
 | .int _,a,b=>decide (a=b)
 | .bool,a,b=>a == b
 | .str,a,b=>decide (a=b)
 | _,_,_=>false
def listEq {α:Type} (f:α→α→Bool):List α→List α→Bool
 | [],[]=>true
 | x :: l,y :: m=>cond (f x y) (listEq f l m) false
 | _,_=>false
def eqTy:Ty→Bool
 | .unit=>true
 | .pair a b=>keyTy a && eqTy b
 | .arr _ a=>keyTy a
 | _=>false
def eqD:(t:Ty)→t.den→t.den→Bool
 | .unit,_,_=>true
 | .pair a b,(x,u),(y,v)=>keyEq a x y && eqD b u v
 | .arr _ a,x,y=>listEq (keyEq a) x y
 | _,_,_=>false
def eqRes (op:BinOp) (b:Bool) (f:AVal→Option R):Option R:=
 match op with
 | .eql=>f (.data .bool b)
 | .neq=>f (.data .bool (!b))
 | _=>none
def binK (σ:St) (q:Bool) (t:Option Ty) (op:BinOp) (x y:AVal) (f:AVal→Option R):Option R:=
 match x,y with
 | .data (.int k) a,.data (.int j) b=>cond (isShift op) (shiftInt op k a b f) (match decEq k j with
   | isTrue _=>binInt op k a b f
   | isFalse _=>none)
 | .data .bool a,.data .bool b=>match t with
  | some .bool=>binBool op a b f
  | _=>none
 | x,y=>match t with
  | some u=>cond (q && eqTy u && x.val && y.val) (asData σ 20 x u fun d=>asData σ 20 y u fun e=>eqRes op (eqD u d e) f) none
  | none=>none
def unK (op:UnOp) (x:AVal) (f:AVal→Option R):Option R:=
 match op,x with
 | .not,.data .bool a=>f (.data .bool (!a))
 | .neg,.data (.int k) a=>f (.data (.int k) (k.wrap (0-a)))
 | .xor,.data (.int k) a=>f (.data (.int k) (k.wrap (BitVec.ofInt k.bits (if k.signed then -1 else k.max) ^^^ BitVec.ofInt k.bits a).toNat))
 | _,_=>none
def lenK (σ:St) (x:AVal) (f:Int→Option R):Option R:=
 match x with
 | .nilS=>f 0
 | .data (.sl _ _) l=>f (l.length:Int)
 | .ref id p ep=>fetchK σ id p ep fun _ l=>f (l.length:Int)
 | .view id p ep a b=>fetchK σ id p ep fun _ _=>f (b-a)
 | .nv false id p ep=>nrowK σ id p ep fun _ l=>f (l.length:Int)
 | _=>none
def mget {α β:Type} (eq:α→α→Bool):List (α×β)→α→Option β
 | [],_=>none
 | (k,v) :: m,x=>cond (eq x k) (some v) (mget eq m x)
def mput {α β:Type} (eq:α→α→Bool):List (α×β)→α→β→List (α×β)
 | [],x,y=>[(x,y)]
 | (k,v) :: m,x,y=>cond (eq x k) ((k,y) :: m) ((k,v) :: mput eq m x y)
def mapK (σ:St) (mt:Option (Ty×Ty)) (a:AVal) (f:(id:Nat)→(kt vt:Ty)→List (kt.den×vt.den)→Option R):Option R:=
 match a,mt with
 | .mref id,some (kt',vt')=>match σ.objs id with
  | some (.map kt vt m)=>cond ((Ty.same kt kt').isSome && (Ty.same vt vt').isSome && keyTy kt && vt.noSl) (f id kt vt m) none
  | _=>none
 | _,_=>none
def sliceK (σ:St) (u:Ty) (x:AVal) (lo:Int) (hi:Option Int) (f:AVal→Option R):Option R:=
 match x with
 | .nilS=>chk (decide (lo=0) && decide (hi.getD 0=0)) (f .nilS)
 | .data (.sl false t) l=>cond (t.sk.same u.sk) (chk (decide (0≤lo) && decide (lo≤hi.getD (l.length:Int)) && decide (hi.getD (l.length:Int)≤(l.length:Int))) (f (.data (.sl false t) (sub l lo (hi.getD (l.length:Int)))))) none
 | .ref id [] ep=>fetchK σ id [] ep fun t l=>cond (t.sk.same u.sk) (chk (decide (0≤lo) && decide (lo≤hi.getD (l.length:Int)) && decide (hi.getD (l.length:Int)≤(l.length:Int))) (f (.view id [] ep lo (hi.getD (l.length:Int))))) none
 | _=>none
def foldInts (g:Int→Int→Int) (k:IntKind) (x:Int):AVal→(Int→Option R)→Option R
 | .un,f=>f x
 | .pr (.data (.int j) y) c,f=>match decEq k j with
  | isTrue _=>foldInts g k (g x y) c f
  | isFalse _=>none
 | _,_=>none
def maxI (x y:Int):Int:=if y > x then y else x
def minI (x y:Int):Int:=if y < x then y else x
def innerOf (σ:St) (id:Nat):Nat:=match σ.objs id with
 | some (.nest _ _ _ i _)=>i
 | _=>0
def holed (σ:St) (id:Nat):Bool:=match σ.objs id with
 | some (.nest _ _ _ _ (some _))=>true
 | _=>false
def holeK (σ:St) (id:Nat) (ep:Nat) (u:Ty) (i:Int) (f:AVal→Option R):Option R:=
 match σ.objs id with
 | some (.nest t l e n (some _))=>cond (Nat.beq e ep && t.sk.same u.sk) (chk (inb l i) (f (.nv true id [.idx i] n))) none
 | _=>none
def noP:Path→Bool
 | []=>true
 | _=>false
def indexK (σ:St) (u:Ty) (x:AVal) (i:Int) (f:AVal→Option R):Option R:=
 match x,u with
 | .data (.sl _ t) l,.sl _ u=>cond (t.sk.same u.sk) ((idx l i).bind fun d=>f (.data (.ptr t) d)) none
 | .data (.ptr (.arr n t)) l,.arr m u=>cond (Nat.beq n m && t.sk.same u.sk) ((idxT l i).bind fun d=>f (.data (.ptr t) d)) none
 | .ref id p ep,.sl _ u=>fetchK σ id p ep fun t l=>cond (t.sk.same u.sk) (chk (inb l i) (f (.eptr id (p++[.idx i]) ep))) none
 | .view id p ep a b,.sl _ u=>fetchK σ id p ep fun t _=>cond (t.sk.same u.sk) (chk (decide (0≤i) && decide (i < b-a)) (f (.eptr id (p++[.idx (a+i)]) ep))) none
 | .nv false id p ep,.sl _ u=>cond (noP p && holed σ id) (holeK σ id ep u i f) (nrowK σ id p ep fun t l=>cond (t.sk.same u.sk) (chk (inb l i) (f (.nv true id (p++[.idx i]) (innerOf σ id)))) none)
 | .bptr id p,.arr m u=>bfetchK σ id p fun a=>match a with
  | .data (.arr n t) l=>cond (Nat.beq n m && t.sk.same u.sk) (chk (inb l i) (f (.bptr id (p++[.idx i])))) none
  | _=>none
 | .eptr id p ep,.arr m u=>match p with
  | []=>none
  | s :: q=>efetchK σ id (s :: q) ep fun a l=>match a,l with
   | .arr n t,l=>cond (Nat.beq n m && t.sk.same u.sk) (chk (inb l i) (f (.eptr id (s :: q++[.idx i]) ep))) none
   | _,_=>none
 | _,_=>none
def loadK (σ:St) (x:AVal) (f:AVal→Option R):Option R:=
 match x with
 | .data (.ptr t) d=>f (.data t d)
 | .eptr id p ep=>match p with
  | []=>none
  | s :: q=>efetchK σ id (s :: q) ep fun u d=>f (.data u d)
 | .bptr id p=>bfetchK σ id p f
 | .nv true id p ep=>nfetchK σ true id p ep fun u d=>cond u.isRo (f (.data u d)) (match u with
  | .sl true _=>f (.nv false id p ep)
  | _=>none)
 | _=>none
def lastIdx:Path→Option (Path×Int×Path)
 | []=>none
 | s :: p=>match lastIdx p with
  | some (q,j,r)=>some (s :: q,j,r)
  | none=>match s with
   | .idx j=>some ([],j,p)
   | _=>none
def pathEq:Path→Path→Bool
 | [],[]=>true
 | .fst :: p,.fst :: q=>pathEq p q
 | .snd :: p,.snd :: q=>pathEq p q
 | .idx i :: p,.idx j :: q=>decide (i=j) && pathEq p q
 | _,_=>false
def tyQ:Ty→Path→Option Ty
 | .sl true v,[]=>some v
 | .pair a _,.fst :: p=>tyQ a p
 | .pair _ b,.snd :: p=>tyQ b p
 | .arr _ t,.idx _ :: p=>tyQ t p
 | .sl true t,.idx _ :: p=>tyQ t p
 | _,_=>none
def tyR (t:Ty):Path→Option Ty
 | .idx _ :: p=>tyQ t p
 | _=>none
def giveRow (σ:St) (a:AVal) (v:Ty) (k:List v.den→St→Option R):Option R:=match a with
 | .nilS=>k [] σ
 | .ref id [] ep=>match σ.objs id with
  | some (.row t l e)=>cond (Nat.beq e ep) (castK (.sl true t) (.sl true v) l fun l=>k l (σ.kill id)) none
  | _=>none
 | _=>none
def fillK (σ:St) (id:Nat) (t:Ty) (l:List t.den) (e i:Nat) (p:Path) (a:AVal) (f:St→Option R):Option R:=
 match tyR t p with
 | some v=>cond v.isRo (giveRow σ a v fun d σ=>setK (.sl true t) l p (.sl true v) d fun l=>f (σ.setObj id (.nest t l e (i+1) none))) none
 | none=>none
def nstoreK (σ:St) (id:Nat) (p:Path) (ep:Nat) (a:AVal) (f:St→Option R):Option R:=
 match σ.objs id with
 | some (.nest t l e i none)=>cond (Nat.beq i ep)
  (cond ((tyR t p).isSome) (fillK σ id t l e i p a f)
   (match lastIdx p with
    | some (s :: p,j,q)=>getK (.sl true t) l (s :: p) fun v l1=>match v,l1 with
     | .sl true v,l1=>cond v.isRo (getK (.sl true v) l1 (.idx j :: q) fun u _=>give 20 a u σ fun d σ=>match σ.objs id with
      | some (.nest _ _ _ _ none)=>setK (.sl true v) l1 (.idx j :: q) u d fun l1=>setK (.sl true t) l (s :: p) (.sl true v) l1 fun l=>f (σ.setObj id (.nest t l e i none))
      | _=>none) none
     | _,_=>none
    | _=>none)) none
 | some (.nest t l e i (some h))=>cond (Nat.beq i ep) (chk (pathEq p h) (fillK σ id t l e i p a f)) none
 | _=>none
def storeK (σ:St) (x a:AVal) (f:St→Option R):Option R:=
 match x with
 | .eptr id p ep=>match p with
  | []=>none
  | s :: q=>efetchK σ id (s :: q) ep fun u _=>give 20 a u σ fun d σ=>
   match σ.objs id with
   | some (.row t l e)=>cond (Nat.beq e ep) (setK (.sl true t) l (s :: q) u d fun l=>f (σ.setObj id (.row t l e))) none
   | _=>none
 | .bptr id p=>match σ.objs id with
  | some (.cell whole)=>getA whole p fun old=>cond (old.sk.same a.sk) (setA a whole p fun whole=>f (σ.setObj id (.cell whole))) none
  | _=>none
 | .nv true id p ep=>nstoreK σ id p ep a f
 | _=>none
def AVal.isNv:AVal→Bool
 | .nv _ _ _ _=>true
 | _=>false
def tailK (σ:St) (t:Ty) (x:AVal) (f:List t.den→Option R):Option R:=cond (t.isRo && x.val && !x.isNv) (asData σ 20 x (.sl false t) f) none
def elemTy (σ:St):AVal→Option Ty
 | .data (.sl _ t) _=>some t
 | .ref id p ep=>fetchK σ id p ep fun t _=>some t
 | .view id p ep _ _=>fetchK σ id p ep fun t _=>some t
 | .nv false id p ep=>nrowK σ id p ep fun t _=>some t
 | _=>none
def appendK (σ:St) (n:Nat) (u:Ty) (s x:AVal) (f:AVal→St→Option R):Option R:=
 match s with
 | .nilS=>match elemTy σ x with
  | some t=>cond (t.sk.same u.sk) (tailK σ t x fun m=>chk (decide (m.length≤room)) (f (.ref n [] 1) (σ.setObj n (.row t m 1)))) none
  | none=>none
 | .ref id [] ep=>match σ.objs id with
  | some (.row t l e)=>cond (Nat.beq e ep && t.sk.same u.sk) (tailK σ t x fun m=>chk (decide (l.length+m.length≤room)) (f (.ref id [] (e+1)) (σ.setObj id (.row t (l++m) (e+1))))) none
  | _=>none
 | .view id [] ep a b=>match σ.objs id with
  | some (.row t l e)=>cond (Nat.beq e ep && t.sk.same u.sk) (tailK σ t x fun m=>chk (decide ((sub l a b).length+m.length≤room)) (f (.ref id [] (e+2)) (σ.setObj id (.row t (sub l a b++m) (e+2))))) none
  | _=>none
 | .nv false id (q :: p) ep=>match σ.objs id with
  | some (.nest t l e i none)=>cond (Nat.beq i ep) (getK (.sl true t) l (q :: p) fun v l1=>match v,l1 with
   | .sl true v,l1=>cond (v.sk.same u.sk) (tailK σ v x fun m=>chk (decide (l1.length+m.length≤room)) (f (.ref n [] 1) ((σ.setObj id (.nest t l e i (some (q :: p)))).setObj n (.row v (l1++m) 1)))) none
   | _,_=>none) none
  | _=>none
 | _=>none
def parts (σ:St) (t:Ty):List (Nat×Operand)→(List t.den→St→Option R)→Option R
 | [],k=>k [] σ
 | (_,x) :: l,k=>match ev σ x with
  | some a=>cond a.val (give 20 a t σ fun d σ=>parts σ t l fun ds σ=>k (d :: ds) σ) none
  | none=>none
def fillA (σ:St):Ty→Nat→List (Nat×Operand)→Option AVal
 | .unit,_,[]=>some .un
 | .pair a b,i,[]=>match zeroA a,fillA σ b (i+1) [] with
  | some z,some c=>some (.pr z c)
  | _,_=>none
 | .pair a b,i,(j,x) :: l=>cond (Nat.beq i j)
   (match ev σ x,fillA σ b (i+1) l with
    | some v,some c=>cond v.val (some (.pr v c)) none
    | _,_=>none)
   (match zeroA a,fillA σ b (i+1) ((j,x) :: l) with
    | some z,some c=>some (.pr z c)
    | _,_=>none)
 | _,_,_=>none
def chainD (t:Ty):AVal→(List t.den→Option R)→Option R
 | .un,k=>k []
 | .pr (.data u d) c,k=>castK u t d fun d=>chainD t c fun l=>k (d :: l)
 | _,_=>none
def inOrder:Nat→List (Nat×Operand)→Bool
 | _,[]=>true
 | i,(j,_) :: l=>Nat.beq i j && inOrder (i+1) l
def fieldPath:Nat→Path
 | 0=>[.fst]
 | n+1=>.snd :: fieldPath n
def fieldK (σ:St) (u:Ty) (x:AVal) (i:Nat) (f:AVal→Option R):Option R:=
 match x with
 | .data (.ptr t) d=>cond (t.sk.same u.sk) (getK t d (fieldPath i) fun u e=>f (.data (.ptr u) e)) none
 | .bptr id p=>bfetchK σ id p fun a=>cond (a.sk.same u.sk && (tyAt u (fieldPath i)).isSome) (f (.bptr id (p++fieldPath i))) none
 | .eptr id p ep=>match p with
  | []=>none
  | s :: q=>efetchK σ id (s :: q) ep fun t _=>cond (t.sk.same u.sk && (tyAt u (fieldPath i)).isSome) (f (.eptr id (s :: q++fieldPath i) ep)) none
 | .nv true id p ep=>nfetchK σ true id p ep fun t _=>cond (t.sk.same u.sk && (tyAt u (fieldPath i)).isSome) (f (.nv true id (p++fieldPath i) ep)) none
 | _=>none
def Ty.flat:Ty→Bool
 | .sl true t=>t.noSl
 | .pair a b=>a.flat && b.flat
 | t=>t.noSl
def flats:List Ty→Bool
 | []=>true
 | t :: ts=>t.flat && flats ts
def noIds:AVal→Bool
 | .ref _ _ _ | .view _ _ _ _ _ | .bptr _ _ | .eptr _ _ _ | .mref _ | .nv _ _ _ _=>false
 | .clos _ c | .ifc _ c | .agg c | .tup c=>noIds c
 | .pr a b=>noIds a && noIds b
 | _=>true
def valsC:AVal→Bool
 | .pr a c=>a.val && valsC c
 | .un=>true
 | _=>false
def chainP:APat→Bool
 | .pr (.val _) q=>chainP q
 | .un=>true
 | _=>false
def leafC:AVal→Bool
 | .pr a c=>a.val && !a.sk.isAgg && leafC c
 | .un=>true
 | _=>false
def calleeOf (g args:AVal):Option (Nat×AVal):=match g with
 | .clos fid cap=>cond (leafC cap) (some (fid,appendC args cap)) none
 | .data (.fn fid t) d=>cond (leafC (splitC t d) && (splitC t d).sk.same t.sk) (some (fid,appendC args (splitC t d))) none
 | _=>none
def callPure (σ:St) (n:Nat) (all:AVal) (p:APat) (res:List Ty) (F:p.den→Option (resDen res)) (f:AVal→St→Option R):Option R:=
 cond (chainP p && valsC all && (flats res || noIds all)) (matchArgs σ p all [] fun d _=>(F d).bind fun r=>
   let x:=exposeRes res r n
   cond (Nat.ble x.2.length 8) (f x.1 (σ.addObjs n x.2)) none) none
def giveArgs:(p:APat)→(all:AVal)→St→(AVal→St→Option R)→Option R
 | .pr (.val t) q,.pr a c,σ,k=>cond (a.val && t.isRo && a.sk.same t.sk) (give 20 a t σ fun d σ=>giveArgs q c σ fun c σ=>k (.pr (.data t d) c) σ) none
 | .un,.un,σ,k=>k .un σ
 | _,_,_,_=>none
def callGive (σ:St) (n:Nat) (all:AVal) (p:APat) (res:List Ty) (F:p.den→Option (resDen res)) (f:AVal→St→Option R):Option R:=
 cond (flats res || noIds all) (callPure σ n all p res F f) (giveArgs p all σ fun all σ=>callPure σ n all p res F f)
def tupleAt:AVal→Nat→Option AVal
 | .pr a _,0=>some a
 | .pr _ b,n+1=>tupleAt b n
 | _,_=>none
def mutArgs (σr:St) (objs:Nat→Option Obj) (ρ:Nat→Option Nat):(l:List (Nat×SPat))→AVal→(slDen l→Option R)→Option R
 | [],.un,k=>k ()
 | (_,.val t) :: l,.pr a c,k=>asData σr 20 a t fun d=>mutArgs σr objs ρ l c fun e=>k (d,e)
 | (_,p) :: l,.pr a c,k=>match a.ren objs ρ with
  | some a'=>p.take a' fun d=>mutArgs σr objs ρ l c fun e=>k (d,e)
  | none=>none
 | _,_,_=>none
def SPat.isVal:SPat→Bool
 | .val _=>true
 | _=>false
def handIds:List (Nat×SPat)→AVal→List Nat
 | (_,p) :: l,.pr a c=>cond p.isVal (handIds l c) (a.ids++handIds l c)
 | _,_=>[]
def lentNo:List (Nat×SPat)→AVal→Bool
 | (_,p) :: l,.pr a c=>(!p.isVal || noIds a) && lentNo l c
 | _,_=>true
def anchOK (l:List (Nat×SPat)):List Nat→Bool
 | []=>true
 | i :: a=>(match nthL l i with
  | some (_,p)=>!p.isVal
  | none=>false) && anchOK l a
def keysOK:List (Nat×SPat)→Nat→Bool
 | [],_=>true
 | (i,_) :: l,n=>Nat.beq i n && keysOK l (n+1)
def SPat.flat:SPat→Bool
 | .val t=>t.noSl
 | .clos _ c | .ifc _ c | .agg c=>c.flat
 | .pr a b=>a.flat && b.flat
 | _=>true
def Ty.allOwn:Ty→Bool
 | .sl true t=>t.allOwn
 | .pair a b=>a.allOwn && b.allOwn
 | .arr _ t=>t.allOwn
 | t=>t.noSl
def SObj.flat:SObj→Bool
 | .row t=>t.noSl
 | .cell p=>p.flat
 | .nest t=>t.allOwn
 | _=>false
def flatSl:List (Nat×SPat)→Bool
 | []=>true
 | (_,p) :: l=>p.flat && flatSl l
def flatOs:List SObj→Bool
 | []=>true
 | o :: l=>o.flat && flatOs l
def anch1 (objs:Nat→Option Obj) (a:AVal) (p:SPat) (b:Bnd):Option Bnd:=match a,p with
 | .ref id [] _,.ref j=>bind1 b j id some
 | .bptr id [],.bptr j []=>match objs id with
  | some (.cell _)=>bind1 b j id some
  | _=>none
 | .mref id,.mref j=>match objs id with
  | some (.map _ _ _)=>bind1 b j id some
  | _=>none
 | .nv false id [] _,.nv j=>bind1 b j id some
 | _,_=>none
def anchI (objs:Nat→Option Obj) (a:AVal) (p:SPat) (b:Bnd):Option Bnd:=match a,p with
 | .ifc _ a,.ifc _ p=>anch1 objs a p b
 | a,p=>anch1 objs a p b
def anchK (objs:Nat→Option Obj) (all:AVal):List Nat→List (Nat×SPat)→Bnd→Option Bnd
 | [],_,b=>some b
 | i :: l,(_,p) :: out,b=>match tupleAt all i with
  | some a=>match anchI objs a p b with
   | some b=>anchK objs all l out b
   | none=>none
  | none=>none
 | _ :: _,[],_=>none
def backM (b:Bnd) (n:Nat):Nat→Nat→List Nat
 | 0,_=>[]
 | m+1,j=>(match getL b j with
  | some id=>id
  | none=>n+j) :: backM b n m (j+1)
def backE (σ:St) (b:Bnd) (j:Nat):Nat×Nat:=match getL b j with
 | some id=>match σ.objs id with
  | some (.row _ _ e)=>(e,0)
  | some (.nest _ _ e i _)=>(e,i+1)
  | _=>(0,0)
 | none=>(0,0)
def SPat.inst (M:List Nat) (E:Nat→Nat×Nat):(p:SPat)→p.den→Option AVal
 | .val t,d=>some (.data t d)
 | .nilS,_=>some .nilS
 | .ref j,_=>(nthL M j).map fun id=>.ref id [] (E j).1
 | .view j,d=>(nthL M j).map fun id=>.view id [] (E j).1 d.1 d.2
 | .bptr j p,_=>(nthL M j).map fun id=>.bptr id p
 | .mref j,_=>(nthL M j).map fun id=>.mref id
 | .nv j,_=>(nthL M j).map fun id=>.nv false id [] (E j).1
 | .nvi j,d=>(nthL M j).map fun id=>.nv false id [.idx d] (E j).2
 | .clos f c,d=>(c.inst M E d).map fun a=>.clos f a
 | .ifc f c,d=>(c.inst M E d).map fun a=>.ifc f a
 | .agg c,d=>(c.inst M E d).map fun a=>.agg a
 | .pr a b,d=>match a.inst M E d.1,b.inst M E d.2 with
  | some x,some y=>some (.pr x y)
  | _,_=>none
 | .un,_=>some .un
def SObj.inst (M:List Nat) (E:Nat→Nat×Nat) (j:Nat):(o:SObj)→o.den→Option Obj
 | .row t,l=>some (.row t l (E j).1)
 | .cell p,d=>(p.inst M E d).map fun a=>.cell a
 | .map kt vt,m=>some (.map kt vt m)
 | .nest t,l=>some (.nest t l (E j).1 (E j).2 none)
def osInst (M:List Nat) (E:Nat→Nat×Nat):(l:List SObj)→osDen l→Nat→Option (List Obj)
 | [],_,_=>some []
 | o :: l,d,j=>match o.inst M E j d.1,osInst M E l d.2 (j+1) with
  | some x,some y=>some (x :: y)
  | _,_=>none
def slInst (M:List Nat) (E:Nat→Nat×Nat):(l:List (Nat×SPat))→slDen l→Option (List AVal)
 | [],_=>some []
 | (_,p) :: l,d=>match p.inst M E d.1,slInst M E l d.2 with
  | some x,some y=>some (x :: y)
  | _,_=>none
def sameKind:Option Obj→Obj→Bool
 | some (.row t _ _),.row u _ _=>(Ty.same t u).isSome
 | some (.cell a),.cell x=>x.sk.same a.sk
 | some (.map kt vt _),.map kt' vt' _=>(Ty.same kt kt').isSome && (Ty.same vt vt').isSome
 | some (.nest t _ _ _ none),.nest u _ _ _ none=>(Ty.same t u).isSome
 | _,_=>false
def okBack (σ:St) (ids:List Nat) (b:Bnd):List Obj→Nat→Bool
 | [],_=>true
 | o :: l,j=>(match getL b j with
  | some id=>memN id ids && sameKind (σ.objs id) o
  | none=>true) && okBack σ ids b l (j+1)
def nodupN:List Nat→Bool
 | []=>true
 | x :: l=>!memN x l && nodupN l
def backSt (σ:St) (ids M:List Nat) (os:List Obj):St:={ σ with objs:=fun i=>match indexN i M 0 with
 | some j=>nthL os j
 | none=>cond (memN i ids) none (σ.objs i) }
def chainV:List AVal→AVal
 | []=>.un
 | a :: l=>.pr a (chainV l)
def resVal:List AVal→AVal
 | [a]=>a
 | l=>.tup (chainV l)
def dropN {α:Type}:Nat→List α→List α
 | 0,l=>l
 | _+1,[]=>[]
 | n+1,_ :: l=>dropN n l
def mutOut (σ:St) (n:Nat) (ids:List Nat) (b:Bnd) (anch:List Nat) (fout:SForm) (r:fout.den) (f:AVal→St→Option R):Option R:=
 match osInst (backM b n fout.objs.length 0) (backE σ b) fout.objs r.2 0,slInst (backM b n fout.objs.length 0) (backE σ b) fout.slots r.1 with
 | some os,some vs=>cond (nodupN (backM b n fout.objs.length 0) && okBack σ ids b os 0) (f (resVal (dropN anch.length vs)) (backSt σ ids (backM b n fout.objs.length 0) os)) none
 | _,_=>none
def mutIn (σ:St) (all:AVal) (fin:SForm) (ids:List Nat) (k:fin.den→Option R):Option R:=
 match renObjs (fun i=>indexN i ids 0) σ.objs ids with
 | some os=>mutArgs (σ.only fun i=>!memN i ids) σ.objs (fun i=>indexN i ids 0) fin.slots all fun d=>osTake fin.objs os fun e=>k (d,e)
 | none=>none
def mutK (σ:St) (n:Nat) (all:AVal) (fin:SForm) (anch:List Nat) (fout:SForm) (F:fin.den→Option fout.den) (f:AVal→St→Option R):Option R:=
 cond (valsC all && keysOK fin.slots 0 && anchOK fin.slots anch && (lentNo fin.slots all || (flatSl fout.slots && flatOs fout.objs)) && Nat.ble fout.objs.length 8)
  (match anchK σ.objs all anch fout.slots [] with
   | some b=>mutIn σ all fin (reachN σ.objs 100 (handIds fin.slots all) []) fun d=>(F d).bind fun r=>mutOut σ n (reachN σ.objs 100 (handIds fin.slots all) []) b anch fout r f
   | none=>none) none
def callK (c:Ctx) (σ:St) (n:Nat) (g:AVal) (args:AVal) (f:AVal→St→Option R):Option R:=
 match calleeOf g args with
 | some (fid,all)=>match pickC all (c.env fid) with
  | some (.pure p res F)=>callPure σ n all p res F f
  | _=>none
 | none=>none
def callM (c:Ctx) (σ:St) (n:Nat) (g:AVal) (args:AVal) (f:AVal→St→Option R):Option R:=
 match calleeOf g args with
 | some (fid,all)=>match pickC all (c.env fid) with
  | some (.pure p res F)=>callGive σ n all p res F f
  | some (.mut fin anch fout F)=>mutK σ n all fin anch fout F f
  | none=>none
 | none=>none
def copyN {α:Type} (m:List α) (a b:Int):Int:=(Nat.min m.length (b-a).toNat:Nat)
def copyL {α:Type} (l:List α) (a b:Int) (m:List α):List α:=l.take a.toNat++m.take (Nat.min m.length (b-a).toNat)++l.drop (a.toNat+Nat.min m.length (b-a).toNat)
def copyAt (σ:St) (u:Ty) (id:Nat) (ep:Nat) (a b:Int) (y:AVal) (f:Int→St→Option R):Option R:=match σ.objs id with
 | some (.row t l e)=>cond (Nat.beq e ep && (Ty.same t u).isSome) (tailK σ t y fun m=>f (copyN m a b) (σ.setObj id (.row t (copyL l a b m) e))) none
 | _=>none
def copyK (σ:St) (u:Ty) (x y:AVal) (f:Int→St→Option R):Option R:=match x with
 | .view id [] ep a b=>copyAt σ u id ep a b y f
 | .ref id [] ep=>match σ.objs id with
  | some (.row _ l _)=>copyAt σ u id ep 0 (l.length:Int) y f
  | _=>none
 | _=>none
def recvK (c:Ctx) (σ:St) (t:Nat) (nm:String) (v:AVal) (f:Nat→AVal→Option R):Option R:=match c.ms t nm with
 | some (m,none)=>f m v
 | some (m,some E)=>match c.tt E with
  | some u=>loadK σ v fun v=>cond (v.val && u.sk.same v.sk) (f m v) none
  | none=>none
 | none=>none
def invK (c:Ctx) (σ:St) (nm:String) (x args:AVal) (f:AVal→AVal→Option R):Option R:=match x with
 | .ifc t v=>cond v.val (recvK c σ t nm v fun m v=>f (.clos m .un) (.pr v args)) none
 | _=>none
def evI (σ:St):Option Operand→Option (Option Int)
 | none=>some none
 | some x=>match ev σ x with
  | some (.data (.int _) n)=>some (some n)
  | _=>none
def rowTy:Ty→Bool
 | .sl true v=>v.isRo
 | _=>false
def clearL {α:Type} (z:α) (l:List α) (a b:Int):List α:=(List.range l.length).map fun (i:Nat)=>if a≤(i:Int)∧(i:Int) < b then z else l.getD i z
def zeroN (n:Nat):Ty→Option AVal
 | .fn _ _ | .ptr _=>some (.mref n)
 | u=>zeroA u
def opK0 (c:Ctx) (σ:St) (n:Nat) (o:Oper) (k:St→Option R):Option R:=
 match o.op with
 | .move x | .assign x=>match ev σ x with
  | some a=>σ.putK c o.dst a k
  | none=>none
 | .pick t x y=>match ev σ t with
  | some (.data .bool b)=>cond b
    (match ev σ x with
     | some a=>σ.putK c o.dst a k
     | none=>none)
    (match ev σ y with
     | some a=>σ.putK c o.dst a k
     | none=>none)
  | _=>none
 | .binOp op t x y _=>match ev σ x,ev σ y with
  | some a,some b=>binK σ (c.eqs t) (c.tt t) op a b fun v=>σ.putK c o.dst v k
  | _,_=>none
 | .unOp op _ x=>match ev σ x with
  | some a=>unK op a fun v=>σ.putK c o.dst v k
  | none=>none
 | .convert t t' x=>match ev σ x,c.tt t,c.tt t' with
  | some (.data (.int _) j),some (.int _),some (.int kd)=>σ.putK c o.dst (.data (.int kd) (kd.wrap j)) k
  | _,_,_=>none
 | .indexAddr t x i=>match ev σ x,ev σ i,c.tt t with
  | some a,some (.data (.int _) j),some u=>indexK σ u a j fun v=>σ.putK c o.dst v k
  | _,_,_=>none
 | .fieldAddr t x i=>match ev σ x,c.tt t with
  | some a,some u=>fieldK σ u a i fun v=>σ.putK c o.dst v k
  | _,_=>none
 | .index t x i=>match ev σ x,ev σ i,c.tt t with
  | some (.data (.arr n t') l),some (.data (.int _) j),some (.arr m u)=>cond (Nat.beq n m && t'.sk.same u.sk) ((idx l j).bind fun d=>σ.putK c o.dst (.data t' d) k) none
  | _,_,_=>none
 | .field t x i=>match ev σ x,c.tt t with
  | some a,some u=>cond (a.val && a.sk.same u.sk && (tyAt u (fieldPath i)).isSome) (getA a (fieldPath i) fun v=>cond v.val (σ.putK c o.dst v k) none) none
  | _,_=>none
 | .nilCheck x=>match ev σ x with
  | some a=>cond (holds σ a) (σ.putK c o.dst a k) none
  | none=>none
 | .load t x=>match ev σ x,c.tt t with
  | some a,some u=>loadK σ a fun v=>cond (v.val && u.sk.same v.sk) (σ.putK c o.dst v k) none
  | _,_=>none
 | .store t x y=>match ev σ x,ev σ y,c.tt t,o.dst with
  | some a,some b,some u,none=>cond (b.val && u.sk.same b.sk) (storeK σ a b k) none
  | _,_,_,_=>none
 | .extract x i=>match ev σ x with
  | some (.tup a)=>match tupleAt a i with
   | some v=>σ.putK c o.dst v k
   | none=>none
  | _=>none
 | .alloc t=>match (c.tt t).bind (zeroN n) with
  | some z=>σ.putK c o.dst (.bptr n []) fun σ=>k (σ.setObj n (.cell z))
  | none=>none
 | .box _ x=>match ev σ x with
  | some a=>cond a.val (σ.putK c o.dst (.bptr n []) fun σ=>k (σ.setObj n (.cell a))) none
  | none=>none
 | .makeFunc (.func f) first cap=>match first.toList with
  | []=>match evs σ cap.toList with
   | some a=>cond (allPtr a) (σ.putK c o.dst (.clos f a) k) none
   | none=>none
  | _=>none
 | .makeSlice t len cap=>match tyFor c o.dst t with
  | some (.sl _ u)=>match u.zero,ev σ len,ev σ cap with
   | some z,some (.data (.int _) l),some (.data (.int _) m)=>
    cond u.isRo (chk (decide (0≤l) && decide (l≤m) && decide (m≤(room:Int))) (σ.putK c o.dst (.ref n [] 0) fun σ=>k (σ.setObj n (.row u (List.replicate l.toNat z) 0))))
     (cond (rowTy u) (chk (decide (0≤l) && decide (l≤m) && decide (m≤(room:Int))) (σ.putK c o.dst (.nv false n [] 0) fun σ=>k (σ.setObj n (.nest u (List.replicate l.toNat z) 0 0 none)))) none)
   | _,_,_=>none
  | _=>none
 | .build t ps=>match c.tt t with
  | some (.pair x y)=>match fillA σ (.pair x y) 0 ps.toList with
   | some a=>cond (a.sk.same (Ty.pair x y).sk) (σ.putK c o.dst (.agg a) k) none
   | none=>none
  | some (.arr n u)=>match evs σ (ps.toList.map (·.2)) with
   | some a=>cond (inOrder 0 ps.toList && Nat.beq ps.toList.length n && keyTy u) (chainD u a fun l=>σ.putK c o.dst (.data (.arr n u) l) k) none
   | none=>none
  | _=>none
 | .buildSlice t len ps=>match tyFor c o.dst t with
  | some (.sl _ u)=>cond (u.isRo && inOrder 0 ps.toList && Nat.beq ps.toList.length len && Nat.ble (len*u.size) 100000) (parts σ u ps.toList fun ds σ=>cond (froz c o.dst) (σ.putK c o.dst (.data (.sl false u) ds) k) (σ.putK c o.dst (.ref n [] 0) fun σ=>k (σ.setObj n (.row u ds 0)))) none
  | _=>none
 | .makeMap t none=>match c.mt t with
  | some (kt,vt)=>cond (keyTy kt && vt.noSl) (σ.putK c o.dst (.mref n) fun σ=>k (σ.setObj n (.map kt vt []))) none
  | none=>none
 | .lookup t x i ok=>match ev σ x,ev σ i with
  | some a,some b=>mapK σ (c.mt t) a fun _ kt vt m=>cond b.val (asData σ 20 b kt fun key=>match vt.zero with
   | some z=>cond ok (σ.putK c o.dst (.tup (.pr (.data vt ((mget (keyEq kt) m key).getD z)) (.pr (.data .bool (mget (keyEq kt) m key).isSome) .un))) k)
    (σ.putK c o.dst (.data vt ((mget (keyEq kt) m key).getD z)) k)
   | none=>none) none
  | _,_=>none
 | .mapUpdate t x i y=>match ev σ x,ev σ i,ev σ y,o.dst with
  | some a,some b,some v,none=>mapK σ (c.mt t) a fun id kt vt m=>cond (b.val && v.val) (asData σ 20 b kt fun key=>asData σ 20 v vt fun d=>k (σ.setObj id (.map kt vt (mput (keyEq kt) m key d)))) none
  | _,_,_,_=>none
 | .slice t x lo hi none=>match ev σ x,c.tt t,evI σ lo,evI σ hi with
  | some a,some (.sl _ u),some lo,some hi=>sliceK σ u a (lo.getD 0) hi fun v=>σ.putK c o.dst v k
  | _,_,_,_=>none
 | .slice t x none (some hi) (some mx)=>match ev σ x,ev σ hi,ev σ mx,c.tt t with
  | some (.ref id [] ep),some (.data (.int _) h),some (.data (.int _) m),some (.sl _ u)=>match σ.objs id with
   | some (.row t' l e)=>cond (Nat.beq e ep && t'.sk.same u.sk) (chk (decide (0≤h) && decide (h≤m) && decide (m≤(l.length:Int))) ((σ.setObj id (.row t' (sub l 0 h) (e+1))).putK c o.dst (.ref id [] (e+1)) k)) none
   | _=>none
  | _,_,_,_=>none
 | .call { callee:=.builtin .len,args:=args,argTypes:=ts }=>match args.toList,ts.toList with
  | [x],[t]=>match ev σ x,c.tt t with
   | some a,some (.sl _ _)=>lenK σ a fun v=>σ.putK c o.dst (.data (.int .i64) v) k
   | some a,none=>mapK σ (c.mt t) a fun _ _ _ m=>chk (decide (m.length≤room)) (σ.putK c o.dst (.data (.int .i64) (m.length:Int)) k)
   | _,_=>none
  | _,_=>none
 | .call { callee:=.builtin .max,args:=args,.. }=>match evs σ args.toList with
  | some (.pr (.data (.int i) x) r)=>foldInts maxI i x r fun v=>σ.putK c o.dst (.data (.int i) v) k
  | _=>none
 | .call { callee:=.builtin .min,args:=args,.. }=>match evs σ args.toList with
  | some (.pr (.data (.int i) x) r)=>foldInts minI i x r fun v=>σ.putK c o.dst (.data (.int i) v) k
  | _=>none
 | .call { callee:=.builtin .append,args:=args,argTypes:=ts }=>match args.toList,ts.toList with
  | [x,y],[t,t']=>match ev σ x,ev σ y,c.tt t with
   | some a,some b,some (.sl _ u)=>cond (Nat.beq t t') (appendK σ n u a b fun v σ=>σ.putK c o.dst v k) none
   | _,_,_=>none
  | _,_=>none
 | .call { callee:=.builtin .clear,args:=args,argTypes:=ts }=>match args.toList,ts.toList with
  | [x],[t]=>match ev σ x,c.tt t with
   | some (.view id [] ep a b),some (.sl _ u)=>match σ.objs id with
    | some (.row t' l e)=>cond (Nat.beq e ep && (Ty.same t' u).isSome) (match t'.zero with
     | some z=>(σ.setObj id (.row t' (clearL z l a b) e)).putK c o.dst (.tup .un) k
     | none=>none) none
    | _=>none
   | _,_=>none
  | _,_=>none
 | .call { callee:=.builtin .copy,args:=args,argTypes:=ts }=>match args.toList,ts.toList with
  | [x,y],[t,_]=>match ev σ x,ev σ y,c.tt t with
   | some a,some b,some (.sl _ u)=>copyK σ u a b fun n σ=>σ.putK c o.dst (.data (.int .i64) n) k
   | _,_,_=>none
  | _,_=>none
 | .call { callee:=.value g,args:=args,.. }=>match ev σ g,evs σ args.toList with
  | some g,some a=>callK c σ n g a fun v σ=>σ.putK c o.dst v k
  | _,_=>none
 | .call { callee:=.invoke x nm,args:=args,.. }=>match ev σ x,evs σ args.toList with
  | some x,some a=>invK c σ nm x a fun g a=>callK c σ n g a fun v σ=>σ.putK c o.dst v k
  | _,_=>none
 | .makeInterface t x=>match ev σ x with
  | some a=>cond (a.val && c.ct t) (σ.putK c o.dst (.ifc t a) k) none
  | none=>none
 | .typeAssert x _ t ok=>match ev σ x with
  | some (.ifc u a)=>cond (Nat.beq u t && c.ct t && a.val) (cond ok (σ.putK c o.dst (.tup (.pr a (.pr (.data .bool true) .un))) k) (σ.putK c o.dst a k)) none
  | _=>none
 | _=>none
def isM (o:Oper):Bool:=match o.op with
 | .store _ _ _=>true
 | .mapUpdate _ _ _ _=>true
 | .call cl=>match cl.callee with
  | .builtin .append | .builtin .clear | .builtin .copy=>true
  | _=>false
 | _=>false
def isCall (o:Oper):Bool:=match o.op with
 | .call cl=>match cl.callee with
  | .value _ | .invoke _ _=>true
  | _=>false
 | _=>false
def isMq (q:Bool) (o:Oper):Bool:=cond q (isM o || isCall o) (isM o)
def isJunk (o:Oper):Bool:=match o.op with
 | .assign (.const .nilFunc) | .assign (.const .nilIface) | .assign (.const (.pointer none))=>true
 | _=>false
def opK (c:Ctx) (σ:St) (n:Nat) (o:Oper) (k:St→Option R):Option R:=cond (isJunk o) (k (σ.unset o.dst)) (opK0 c σ n o k)
def opM (q:Bool) (c:Ctx) (σ:St) (n:Nat) (o:Oper) (k:St→Option R):Option R:=match o.op with
 | .call { callee:=.value g,args:=args,.. }=>cond q (match ev σ g,evs σ args.toList with
   | some g,some a=>callM c σ n g a fun v σ=>σ.putK c o.dst v k
   | _,_=>none) (opK c σ n o k)
 | .call { callee:=.invoke x nm,args:=args,.. }=>cond q (match ev σ x,evs σ args.toList with
   | some x,some a=>invK c σ nm x a fun g a=>callM c σ n g a fun v σ=>σ.putK c o.dst v k
   | _,_=>none) (opK c σ n o k)
 | _=>opK c σ n o k
def isY0 (o:Oper):Bool:=match o.op with
 | .move _ | .assign _ | .pick _ _ _ | .binOp _ _ _ _ _ | .unOp _ _ _ | .convert _ _ _ | .indexAddr _ _ _ | .fieldAddr _ _ _ | .nilCheck _ | .load _ _ | .extract _ _ | .makeFunc _ _ _ | .lookup _ _ _ _ | .slice _ _ _ _ none | .build _ _ | .index _ _ _ | .field _ _ _ | .makeInterface _ _ | .typeAssert _ _ _ _=>true
 | .call cl=>match cl.callee with
  | .builtin .len | .builtin .max | .builtin .min=>true
  | _=>false
 | _=>false
def isY (o:Oper):Bool:=!isJunk o && isY0 o
def isP (o:Oper):Bool:=match o.op with
 | .load _ _ | .lookup _ _ _ _=>false
 | .call cl=>match cl.callee with
  | .builtin .max | .builtin .min=>true
  | _=>false
 | _=>true
def noM:List (Nat×Oper)→Bool
 | []=>true
 | (_,o) :: l=>!isM o && noM l
def isPickOf (t:Nat) (o:Oper):Bool:=match o.op with
 | .pick (.tmp u) _ _=>Nat.beq t u
 | _=>false
def splitAt (p:Oper→Bool):List (Nat×Oper)→List (Nat×Oper)→Option (List (Nat×Oper)×Option Nat×List (Nat×Oper))
 | [],_=>none
 | (i,o) :: l,acc=>cond (p o) (some (acc++[(i,o)],o.dst,l)) (splitAt p l (acc++[(i,o)]))
def boolAt (σ:St) (d:Nat):Option Bool:=match σ.slots d with
 | some (.data .bool b)=>some b
 | _=>none
def unsetAll:List (Nat×Oper)→St→St
 | [],σ=>σ
 | (_,o) :: l,σ=>unsetAll l (σ.unset o.dst)
def rmN (d:Nat):List Nat→List Nat
 | []=>[]
 | x :: l=>cond (Nat.beq x d) (rmN d l) (x :: rmN d l)
def dropU:Option Nat→List Nat→List Nat
 | none,u=>u
 | some d,u=>rmN d u
def addU:Option Nat→List Nat→List Nat
 | none,u=>u
 | some d,u=>d :: u
def dropAllU:List (Nat×Oper)→List Nat→List Nat
 | [],u=>u
 | (_,o) :: l,u=>dropAllU l (dropU o.dst u)
def opsK (c:Ctx) (base:Nat) (dst:Nat→Option Nat):(q:Bool)→(fuel:Nat)→(R:Type)→(opened und:List Nat)→List (Nat×Oper)→St→(St→Option R)→Option R
 | _,0,_,_,_,_,_,_=>none
 | _,_+1,_,_,_,[],σ,k=>k σ
 | q,n+1,R,opened,und,(i,o) :: l,σ,k=>
  match o.guard with
  | none=>opM q c σ (base+8*i) o fun σ=>opsK c base dst q n R opened (dropU o.dst und) l σ k
  | some (j,want)=>
   match dst j with
   | none=>none
   | some t=>
    match σ.slots t with
    | some (.data .bool b)=>
     cond (memN j opened)
      (cond (b == want) (opM q c σ (base+8*i) o fun σ=>opsK c base dst q n R opened (dropU o.dst und) l σ k) (opsK c base dst q n R opened (addU o.dst und) l (σ.unset o.dst) k))
      (match splitAt (isPickOf t) ((i,o) :: l) [] with
       | some (grp,some d,rest)=>cond (noM grp) (
        (cond b (opsK c base dst false n Bool (j :: opened) und grp (σ.set t (.data .bool true)) fun σ=>boolAt σ d)
            (opsK c base dst false n Bool (j :: opened) und grp (σ.set t (.data .bool false)) fun σ=>boolAt σ d)).bind fun v=>
        cond (Nat.blt d c.ntmps) (opsK c base dst q n R opened (dropAllU grp und) rest ((unsetAll grp σ).set d (.data .bool v)) k) none) none
       | _=>none)
    | none=>cond (memN t und) (opsK c base dst q n R opened (addU o.dst und) l (σ.unset o.dst) k) none
    | _=>none
def numbered {α:Type}:Nat→List α→List (Nat×α)
 | _,[]=>[]
 | i,x :: l=>(i,x) :: numbered (i+1) l
def dstOf (ops:List Oper) (j:Nat):Option Nat:=(nthL ops j).bind (·.dst)
def edgeOns:List Edge→List Nat
 | []=>[]
 | e :: l=>cond (Region.binds .any e) (e.on :: edgeOns l) (edgeOns l)
def allIn:List Nat→List Nat→Bool
 | [],_=>true
 | x :: l,d=>memN x d && allIn l d
def anyIn:List Nat→List Nat→Bool
 | [],_=>false
 | x :: l,d=>memN x d || anyIn l d
def readyL (done:List Nat) (o:Oper):Bool:=allIn (edgeOns o.after.toList) done
def tmpsL:List Operand→List Nat
 | []=>[]
 | .tmp t :: l=>t :: tmpsL l
 | _ :: l=>tmpsL l
def guardL (dst:Nat→Option Nat) (o:Oper):List Nat:=match o.guard with
 | some (j,_)=>match dst j with
  | some t=>[t]
  | none=>[]
 | none=>[]
def looksL (dst:Nat→Option Nat) (o:Oper) (t:Nat):Bool:=memN t (tmpsL o.op.operands.toList) || memN t (guardL dst o)
def apartL (dst:Nat→Option Nat) (x y:Oper):Bool:=
 (match x.dst with
  | some d=>!looksL dst y d && (match y.dst with
   | some e=>!Nat.beq d e
   | none=>true)
  | none=>true) &&
 (match y.dst with
  | some d=>!looksL dst x d
  | none=>true)
def laterL (i:Nat):List (Nat×Oper)→List Nat→List Nat
 | [],acc=>acc
 | (j,o) :: l,acc=>laterL i l (cond (memN i (edgeOns o.after.toList) || anyIn (edgeOns o.after.toList) acc) (j :: acc) acc)
def freeL (q:Bool) (dst:Nat→Option Nat) (done later:List Nat) (i:Nat) (o:Oper):List (Nat×Oper)→Bool
 | []=>true
 | (j,oj) :: l=>(Nat.beq j i || memN j done || ((memN i (edgeOns oj.after.toList) || apartL dst o oj) && (isP o || !isMq q oj || memN j later))) && freeL q dst done later i o l
def aloneL (done:List Nat) (i:Nat):List (Nat×Oper)→Bool
 | []=>true
 | (j,oj) :: l=>(Nat.beq j i || memN j done || !readyL done oj) && aloneL done i l
def noneIn:List Nat→List Nat→Bool
 | [],_=>true
 | x :: l,d=>!memN x d && noneIn l d
def okAt (q:Bool) (dst:Nat→Option Nat) (all:List (Nat×Oper)) (done:List Nat) (i:Nat) (o:Oper):Bool:=
 readyL done o && ((isY o && freeL q dst done (laterL i all []) i o all && noneIn (laterL i all []) done) || aloneL done i all)
def okOrder (q:Bool) (dst:Nat→Option Nat) (all:List (Nat×Oper)):List (Nat×Oper)→List Nat→Bool
 | [],done=>aloneL done all.length all
 | (i,o) :: l,done=>!memN i done && okAt q dst all done i o && okOrder q dst all l (i :: done)
def plainL:List (Nat×Oper)→Bool
 | []=>true
 | (_,o) :: l=>(match o.op with
  | .select _ _=>false
  | _=>true) && plainL l
def nextL (q:Bool) (dst:Nat→Option Nat) (all:List (Nat×Oper)) (done:List Nat):List (Nat×Oper)→Option (Nat×Oper)
 | []=>none
 | (i,o) :: l=>cond (!memN i done && okAt q dst all done i o) (some (i,o)) (nextL q dst all done l)
def orderL (q:Bool) (dst:Nat→Option Nat) (all:List (Nat×Oper)):Nat→List Nat→List (Nat×Oper)
 | 0,_=>[]
 | n+1,done=>match nextL q dst all done all with
  | some (i,o)=>(i,o) :: orderL q dst all n (i :: done)
  | none=>[]
def listK (q:Bool) (c:Ctx) (ops:List Oper) (l:List (Nat×Oper)) (σ:St) (k:St→Option R):Option R:=
 opsK c σ.next (dstOf ops) q (ops.length+ops.length+2) R [] [] l σ fun σ'=>k { σ' with next:=σ.next+8*ops.length }
def drawL (q:Bool) (ops:List Oper):List (Nat×Oper):=orderL q (dstOf ops) (numbered 0 ops) ops.length []
def drawOK (q:Bool) (ops:List Oper):Bool:=plainL (numbered 0 ops) && okOrder q (dstOf ops) (numbered 0 ops) (drawL q ops) []
def pureC:List Callee→Bool
 | []=>true
 | .pure _ _ _ :: l=>pureC l
 | _=>false
def calleeId (σ:St) (x:Operand):Option Nat:=match ev σ x with
 | some (.clos f _)=>some f
 | some (.data (.fn f _) _)=>some f
 | _=>none
def okRun (dst:Nat→Option Nat) (all:List (Nat×Oper)):List (Nat×Oper)→List Nat→Bool
 | [],_=>true
 | (i,o) :: l,done=>!memN i done && okAt false dst all done i o && okRun dst all l (i :: done)
def addDone:List (Nat×Oper)→List Nat→List Nat
 | [],d=>d
 | (i,_) :: l,d=>addDone l (i :: d)
def pureG (c:Ctx) (σ:St) (o:Oper):Bool:=match o.op with
 | .call cl=>match cl.callee with
  | .value g=>match calleeId σ g with
   | some f=>pureC (c.env f)
   | none=>false
  | .invoke _ _ | .builtin .copy=>false
  | _=>true
 | .mapUpdate _ _ _ _=>false
 | .makeMap _ _=>false
 | _=>true
def idsAt (σ:St) (x:Operand):List Nat:=match ev σ x with
 | some a=>a.ids
 | none=>[]
def isBptr:Option AVal→Bool
 | some (.bptr _ _)=>true
 | _=>false
def footG (σ:St) (o:Oper):List Nat:=match o.op with
 | .move _ | .assign _ | .pick _ _ _ | .extract _ _ | .makeFunc _ _ _ | .box _ _ | .build _ _ | .alloc _ | .unOp _ _ _=>[]
 | .load _ x | .nilCheck x | .fieldAddr _ x _ | .indexAddr _ x _ | .slice _ x _ _ _=>idsAt σ x
 | .store _ x y=>cond (isBptr (ev σ x)) (idsAt σ x) (reachN σ.objs 100 (idsAt σ x++idsAt σ y) [])
 | op=>reachN σ.objs 100 (op.operands.toList.flatMap (idsAt σ)) []
def inF (base i:Nat) (F:List Nat) (id:Nat):Bool:=memN id F || (Nat.ble (base+8*i) id && Nat.blt id (base+8*i+8))
def St.over (σ σ':St) (p:Nat→Bool):St:={ slots:=σ'.slots,objs:=fun i=>cond (p i) (σ'.objs i) (σ.objs i),next:=σ.next }
def outR (base i:Nat):List Nat→Bool
 | []=>true
 | x :: l=>!(Nat.ble (base+8*i) x && Nat.blt x (base+8*i+8)) && outR base i l
def indep (base:Nat) (dst:Nat→Option Nat) (i:Nat) (o:Oper) (F:List Nat) (j:Nat) (p:Oper) (G:List Nat):Bool:=
 !Nat.beq i j && apartL dst o p && ((isY0 o && isY0 p) || noneIn F G) && outR base i G && outR base j F
abbrev GAcc:=List ((Nat×Oper)×List Nat×List Nat)
def okAcc (base:Nat) (dst:Nat→Option Nat) (j:Nat) (p:Oper) (G:List Nat):GAcc→Bool
 | []=>true
 | ((i,o),F,lat) :: l=>(memN j lat || indep base dst i o F j p G) && okAcc base dst j p G l
def genK (c:Ctx) (base:Nat) (dst:Nat→Option Nat) (all:List (Nat×Oper)):List (Nat×Oper)→GAcc→St→(St→Option R)→Option R
 | [],_,σ,k=>k σ
 | (i,o) :: l,acc,σ,k=>
  cond (pureG c σ o && okAcc base dst i o (footG σ o) acc)
   (opK0 c (σ.only (inF base i (footG σ o))) (base+8*i) o fun σ'=>genK c base dst all l (((i,o),footG σ o,laterL i all []) :: acc) (σ.over σ' (inF base i (footG σ o))) k) none
def restL (done:List Nat):List (Nat×Oper)→List (Nat×Oper)
 | []=>[]
 | (i,o) :: l=>cond (memN i done) (restL done l) ((i,o) :: restL done l)
def plainG:List (Nat×Oper)→Bool
 | []=>true
 | (_,o) :: l=>(match o.guard with
  | none=>true
  | some _=>false) && !isJunk o && plainG l
def linG (all:List (Nat×Oper)) (done:List Nat):List Nat→List (Nat×Oper)→Bool
 | _,[]=>true
 | d,(i,o) :: l=>readyL d o && noneIn (laterL i all []) done && linG all done (i :: d) l
def lenN:List (Nat×Oper)→Nat
 | []=>0
 | _ :: l=>lenN l+1
def genOK (ops:List Oper):Bool:=plainL (numbered 0 ops) && okRun (dstOf ops) (numbered 0 ops) (drawL false ops) [] && plainG (restL (addDone (drawL false ops) []) (numbered 0 ops)) && linG (numbered 0 ops) (addDone (drawL false ops) []) (addDone (drawL false ops) []) (restL (addDone (drawL false ops) []) (numbered 0 ops)) && Nat.beq (lenN (drawL false ops)+lenN (restL (addDone (drawL false ops) []) (numbered 0 ops))) ops.length
def genRunK (c:Ctx) (ops:List Oper) (L B:List (Nat×Oper)) (σ:St) (k:St→Option R):Option R:=
 opsK c σ.next (dstOf ops) false (ops.length+ops.length+2) R [] [] L σ fun σ'=>genK c σ.next (dstOf ops) (numbered 0 ops) B [] σ' fun σ'=>k { σ' with next:=σ.next+8*ops.length }
def regionK (c:Ctx) (ops:Array Oper) (draw:Bool) (σ:St) (k:St→Option R):Option R:=
 cond draw (cond (drawOK true ops.toList) (listK true c ops.toList (drawL true ops.toList) σ k)
   (cond (drawOK false ops.toList) (listK false c ops.toList (drawL false ops.toList) σ k)
   (cond (genOK ops.toList) (genRunK c ops.toList (drawL false ops.toList) (restL (addDone (drawL false ops.toList) []) (numbered 0 ops.toList)) σ k) none)))
  (listK true c ops.toList (numbered 0 ops.toList) σ k)
def firstRegion:Code→Option Nat
 | .region id _ _=>some id
 | .seq a b=>(firstRegion a).orElse fun _=>firstRegion b
 | .block _ b=>firstRegion b
 | .loop b=>firstRegion b
 | .cond _ a b=>(firstRegion a).orElse fun _=>firstRegion b
 | _=>none
def loopN (step:St→(AExit→St→Option R)→Option R) (lv:Cut):Nat→List (Nat×AVal)→List Obj→(AExit→St→Option R)→Option R
 | 0,_,_,_=>none
 | n+1,sl,os,k=>step (St.of sl os) fun e σ=>match e with
  | .normal=>normL lv σ fun sl os=>loopN step lv n sl os k
  | e=>k e σ
def kExit (c:Ctx) (r:Nat) (k:AExit→St→Option R):AExit→St→Option R
 | .exit id,σ=>match c.exits r id with
  | some lv=>norm lv σ (k (.exit id))
  | none=>none
 | .ret,σ=>norm c.res σ (k .ret)
 | .normal,_=>none
def kSeq (next:St→(AExit→St→Option R)→Option R) (k:AExit→St→Option R):AExit→St→Option R
 | .normal,σ=>next σ k
 | e,σ=>k e σ
def kBlock (id:Nat) (k:AExit→St→Option R):AExit→St→Option R
 | .exit j,σ=>cond (Nat.beq j id) (k .normal σ) (k (.exit j) σ)
 | e,σ=>k e σ
def kCut (cut:Option Cut) (next:St→(AExit→St→Option R)→Option R) (σ:St) (k:AExit→St→Option R):Option R:=
 match cut with
 | some lv=>norm lv σ fun σ=>next σ k
 | none=>next σ k
def cutAt (c:Ctx) (b:Code):Option Cut:=match b with
 | .loop _=>none
 | b=>(firstRegion b).bind c.cut
def codeK (c:Ctx):Code→St→(AExit→St→Option R)→Option R
 | .skip,σ,k=>k .normal σ
 | .region _ ops draw,σ,k=>regionK c ops draw σ (k .normal)
 | .seq a b,σ,k=>codeK c a σ (kSeq (kCut (cutAt c b) (codeK c b)) k)
 | .cond x a b,σ,k=>match ev σ x with
  | some (.data .bool t)=>cond t (codeK c a σ k) (codeK c b σ k)
  | _=>none
 | .block id b,σ,k=>codeK c b σ (kBlock id k)
 | .loop b,σ,k=>match firstRegion b with
  | some r=>match c.cut r with
   | some lv=>match c.lp r with
    | some L=>normL lv σ fun sl os=>L R sl os k
    | none=>none
   | none=>none
  | none=>none
 | .exit id,σ,k=>k (.exit id) σ
 | .ret,σ,k=>k .ret σ
 | _,_,_=>none
def loopsOf:Code→List Code
 | .seq a b=>loopsOf a++loopsOf b
 | .cond _ a b=>loopsOf a++loopsOf b
 | .block _ b=>loopsOf b
 | .loop b=>b :: loopsOf b
 | _=>[]
def LoopOK (c:Ctx) (b:Code):Prop:=∀ r lv L,firstRegion b=some r→c.cut r=some lv→c.lp r=some L→
 ∀ (R:Type) (sl:List (Nat×AVal)) (os:List Obj) (k:AExit→St→Option R) (x:R),L R sl os k=some x→loopN (codeK c b) lv c.fuel sl os (kExit c r k)=some x
def loopAt (r:Nat):List Code→Code
 | []=>.skip
 | b :: l=>match firstRegion b with
  | some r'=>cond (Nat.beq r r') b (loopAt r l)
  | none=>loopAt r l
def rvK (tt:Nat→Option Ty) (σ:St):ResultVar→(AVal→Option R)→Option R
 | .tmp s,k=>match σ.slots s with
  | some a=>k a
  | none=>none
 | .cell s T,k=>match σ.slots s,tt T with
  | some x,some u=>loadK σ x fun a=>cond (u.sk.same a.sk) (k a) none
  | _,_=>none
def resK (tt:Nat→Option Ty) (σ:St):(ts:List Ty)→List ResultVar→(resDen ts→St→Option R)→Option R
 | [],[],k=>k () σ
 | [t],[s],k=>rvK tt σ s fun a=>cond (a.val && a.sk.same t.sk) (give 20 a t σ k) none
 | t :: u :: ts,s :: l,k=>rvK tt σ s fun a=>cond (a.val && a.sk.same t.sk) (give 20 a t σ fun d σ=>resK tt σ (u :: ts) l fun ds σ=>k (d,ds) σ) none
 | _,_,_=>none
def argSlots:(p:APat)→p.den→Nat→Nat→Option AVal
 | .pr (.val t) q,(x,y),i=>upd (argSlots q y (i+1)) i (some (.data t x))
 | _,_,_=>fun _=>none
def entry (p:APat) (d:p.den):St:=⟨argSlots p d 0,fun _=>none,0⟩
def bodyK (c:Ctx) (ts:List Ty) (rs:List ResultVar) (body:Code) (σ:St):Option (resDen ts):=
 codeK c body σ fun e σ=>match e with
  | .exit _=>none
  | _=>norm c.res σ fun σ=>resK c.tt σ ts rs fun r _=>some r
end
end Go.Kz
namespace Go.Kz
inductive Tag where
 | alien | ro | row (id:Nat) (p:Path) | box (id:Nat)
structure Ghost where
 tag:Nat→Tag
 sv:Nat→Path→Value
 blk:Nat→Nat
abbrev Own:=Option (Nat×Path)
def stp (o:Own) (s:Step):Own:=o.map fun x=>(x.1,x.2++[s])
def seg (l:List Value) (off n:Nat):List Value:=(l.drop off).take n
def Rep (w:World) (g:Ghost):Own→(t:Ty)→t.den→List Value→Prop
 | _,.int k,n,cs=>cs=[.int k n]∧k.min≤n∧n≤k.max
 | _,.bool,b,cs=>cs=[.bool b]
 | _,.str,l,cs=>∃ s:ByteArray,cs=[.string s]∧s.data.toList=l∧s.size≤maxLen
 | _,.unit,_,cs=>cs=[]
 | o,.pair a b,(x,y),cs=>∃ c1 c2,cs=c1++c2∧Rep w g (stp o .fst) a x c1∧Rep w g (stp o .snd) b y c2
 | o,.arr n t,l,cs=>List.length l=n∧cs.length=n*t.size∧
   ∀ (i:Nat) (h:i < List.length l),Rep w g (stp o (.idx i)) t (List.get l ⟨i,h⟩) (seg cs (i*t.size) t.size)
 | _,.sl false t,l,cs=>∃ a cap,cs=[.slice a (List.length l) cap]∧List.length l≤cap∧cap≤maxLen∧
   (l≠[]→∃ b off c e fz,a=some ⟨b,off,none⟩∧g.tag b = .ro∧w.heap[b]? = some (.cells c e fz)∧off+List.length l*t.size≤c.size∧
    ∀ (i:Nat) (h:i < List.length l),Rep w g none t (List.get l ⟨i,h⟩) (seg c.toList (off+i*t.size) t.size))
 | some (id,p),.sl true t,l,cs=>∃ a cap,cs=[.slice a (List.length l) cap]∧g.sv id p = .slice a (List.length l) cap∧List.length l≤cap∧cap≤maxLen∧
   ((a=none∧l=[]∧cap=0)∨∃ b off c e,a=some ⟨b,off,none⟩∧g.tag b = .row id p∧w.heap[b]? = some (.cells c e (0,0))∧off+cap*t.size≤c.size∧
    ∀ (i:Nat) (h:i < List.length l),Rep w g (some (id,p++[.idx i])) t (List.get l ⟨i,h⟩) (seg c.toList (off+i*t.size) t.size))
 | none,.sl true _,_,_=>False
 | _,.ptr t,d,cs=>∃ b off c e fz,cs=[.pointer (some ⟨b,off,none⟩)]∧g.tag b = .ro∧w.heap[b]? = some (.cells c e fz)∧off+t.size≤c.size∧
   Rep w g none t d (seg c.toList off t.size)
 | _,.fn f t,d,cs=>∃ vs,cs=[.func (.func f) #[] vs.toArray]∧Rep w g none t d vs
theorem seg_length {l:List Value} {off n:Nat} (h:off+n≤l.length):(seg l off n).length=n:=by
 simp only [seg,List.length_take,List.length_drop];omega
theorem Rep.len {w:World} {g:Ghost}:{o:Own}→{t:Ty}→{d:t.den}→{cs:List Value}→Rep w g o t d cs→cs.length=t.size
 | _,.int _,_,_,h=>by obtain ⟨rfl,_⟩:=h;rfl
 | _,.bool,_,_,h=>by cases h;rfl
 | _,.str,_,_,h=>by obtain ⟨s,rfl,_⟩:=h;rfl
 | _,.unit,_,_,h=>by cases h;rfl
 | _,.pair a b,(x,y),_,h=>by
  obtain ⟨c1,c2,rfl,h1,h2⟩:=h
  simp only [List.length_append,Ty.size,Rep.len h1,Rep.len h2]
 | _,.arr n t,_,_,h=>h.2.1
 | _,.sl false t,_,_,h=>by obtain ⟨a,cap,rfl,_⟩:=h;rfl
 | some (_,_),.sl true t,_,_,h=>by obtain ⟨a,cap,rfl,_⟩:=h;rfl
 | none,.sl true t,_,_,h=>h.elim
 | _,.ptr t,_,_,h=>by obtain ⟨b,off,c,e,fz,rfl,_⟩:=h;rfl
 | _,.fn f t,_,_,h=>by obtain ⟨vs,rfl,_⟩:=h;rfl
structure RoKept (w:World) (g:Ghost) (w':World) (g':Ghost):Prop where
 blk:∀ b,g.tag b = .ro→g'.tag b = .ro∧w'.heap[b]? = w.heap[b]?
structure Moved (w:World) (g:Ghost) (w':World) (g':Ghost) (id:Nat) (p:Path) (id':Nat) (p':Path):Prop where
 sv:∀ q,g'.sv id' (p'++q)=g.sv id (p++q)
 blk:∀ q b,g.tag b = .row id (p++q)→g'.tag b = .row id' (p'++q)∧w'.heap[b]? = w.heap[b]?
def MovedO (w:World) (g:Ghost) (w':World) (g':Ghost):Own→Own→Prop
 | some (id,p),some (id',p')=>Moved w g w' g' id p id' p'
 | none,none=>True
 | _,_=>False
theorem Moved.step {w w':World} {g g':Ghost} {id id':Nat} {p p':Path} (h:Moved w g w' g' id p id' p') (s:Step) :
  Moved w g w' g' id (p++[s]) id' (p'++[s]):=by
 refine ⟨fun q=>?_,fun q b hb=>?_⟩
 ·have:=h.sv ([s]++q);simpa using this
 ·have:=h.blk ([s]++q) b (by simpa using hb);simpa using this
theorem MovedO.step {w w':World} {g g':Ghost}:{o o':Own}→(h:MovedO w g w' g' o o')→(s:Step)→MovedO w g w' g' (stp o s) (stp o' s)
 | some _,some _,h,s=>Moved.step h s
 | none,none,_,_=>trivial
 | some _,none,h,_=>h.elim
 | none,some _,h,_=>h.elim
theorem Rep.move {w w':World} {g g':Ghost} (hr:RoKept w g w' g'):{o o':Own}→{t:Ty}→{d:t.den}→{cs:List Value}→
  (hm:MovedO w g w' g' o o')→Rep w g o t d cs→Rep w' g' o' t d cs
 | _,_,.int _,_,_,_,h=>h
 | _,_,.bool,_,_,_,h=>h
 | _,_,.str,_,_,_,h=>h
 | _,_,.unit,_,_,_,h=>h
 | _,_,.pair a b,(x,y),_,hm,h=>by
  obtain ⟨c1,c2,rfl,h1,h2⟩:=h
  exact ⟨c1,c2,rfl,Rep.move hr (hm.step _) h1,Rep.move hr (hm.step _) h2⟩
 | _,_,.arr n t,_,_,hm,h=>⟨h.1,h.2.1,fun i hi=>Rep.move hr (hm.step _) (h.2.2 i hi)⟩
 | _,_,.sl false t,l,_,_,h=>by
  obtain ⟨a,cap,rfl,h1,h2,h3⟩:=h
  refine ⟨a,cap,rfl,h1,h2,fun hn=>?_⟩
  obtain ⟨b,off,c,e,fz,ha,ht,hb,hs,he⟩:=h3 hn
  have hk:=hr.blk b ht
  exact ⟨b,off,c,e,fz,ha,hk.1,hk.2.trans hb,hs,fun i hi=>Rep.move hr (o:=none) (o':=none) trivial (he i hi)⟩
 | some (id,p),some (id',p'),.sl true t,l,_,hm,h=>by
  obtain ⟨a,cap,rfl,h0,h1,h2,h3⟩:=h
  have hm':Moved w g w' g' id p id' p':=hm
  refine ⟨a,cap,rfl,?_,h1,h2,?_⟩
  ·have:=hm'.sv [];simp only [List.append_nil] at this;rw [this];exact h0
  ·rcases h3 with h3 | ⟨b,off,c,e,ha,ht,hb,hs,he⟩
   ·exact .inl h3
   ·have hk:=hm'.blk [] b (by simpa using ht)
    simp only [List.append_nil] at hk
    exact .inr ⟨b,off,c,e,ha,hk.1,hk.2.trans hb,hs,fun i hi=>Rep.move hr (o:=some (id,p++[Step.idx (i:Int)])) (o':=some (id',p'++[Step.idx (i:Int)])) (hm'.step _) (he i hi)⟩
 | some _,none,.sl true _,_,_,hm,_=>hm.elim
 | none,_,.sl true _,_,_,_,h=>h.elim
 | _,_,.ptr t,_,_,_,h=>by
  obtain ⟨b,off,c,e,fz,rfl,ht,hb,hs,he⟩:=h
  have hk:=hr.blk b ht
  exact ⟨b,off,c,e,fz,rfl,hk.1,hk.2.trans hb,hs,Rep.move hr (o:=none) (o':=none) trivial he⟩
 | _,_,.fn f t,_,_,_,h=>by
  obtain ⟨vs,rfl,he⟩:=h
  exact ⟨vs,rfl,Rep.move hr (o:=none) (o':=none) trivial he⟩
theorem Rep.kept {w w':World} {g g':Ghost} (hr:RoKept w g w' g') {t:Ty} {d:t.den} {cs:List Value} (h:Rep w g none t d cs):Rep w' g' none t d cs:=
 Rep.move hr (o:=none) (o':=none) trivial h
structure Frozen (w:World) (g:Ghost) (w':World) (g':Ghost) (id:Nat) (p:Path):Prop where
 blk:∀ q b,g.tag b = .row id (p++q)→g'.tag b = .ro∧w'.heap[b]? = w.heap[b]?
def FrozenO (w:World) (g:Ghost) (w':World) (g':Ghost):Own→Prop
 | some (id,p)=>Frozen w g w' g' id p
 | none=>True
theorem Frozen.step {w w':World} {g g':Ghost} {id:Nat} {p:Path} (h:Frozen w g w' g' id p) (s:Step):Frozen w g w' g' id (p++[s]):=
 ⟨fun q b hb=>h.blk ([s]++q) b (by simpa using hb)⟩
theorem FrozenO.step {w w':World} {g g':Ghost}:{o:Own}→(h:FrozenO w g w' g' o)→(s:Step)→FrozenO w g w' g' (stp o s)
 | some _,h,s=>Frozen.step h s
 | none,_,_=>trivial
theorem Ty.size_ro:(t:Ty)→t.ro.size=t.size
 | .int _=>rfl
 | .bool=>rfl
 | .str=>rfl
 | .unit=>rfl
 | .pair a b=>by simp only [Ty.ro,Ty.size,Ty.size_ro a,Ty.size_ro b]
 | .arr n t=>by simp only [Ty.ro,Ty.size,Ty.size_ro t]
 | .sl _ t=>rfl
 | .ptr _=>rfl
 | .fn _ _=>rfl
theorem toRo_pair (a b:Ty) (x:a.den) (y:b.den):Ty.toRo (.pair a b) (x,y)=(Ty.toRo a x,Ty.toRo b y):=by
 have ha:=Ty.den_ro a
 have hb:=Ty.den_ro b
 unfold Ty.toRo
 have key:∀ (A A' B B':Type) (h1:A'=A) (h2:B'=B) (h3:(A'×B')=(A×B)) (x:A) (y:B),cast h3.symm (x,y)=(cast h1.symm x,cast h2.symm y):=by
  intro A A' B B' h1 h2 h3 x y;subst h1;subst h2;rfl
 exact key _ _ _ _ ha hb (Ty.den_ro (.pair a b)) x y
theorem toRo_list (t:Ty) (l:List t.den) (h:List t.ro.den=List t.den):cast h.symm l=l.map (Ty.toRo t):=by
 unfold Ty.toRo
 have key:∀ (A A':Type) (h1:A'=A) (h3:List A'=List A) (l:List A),cast h3.symm l=l.map (cast h1.symm):=by
  intro A A' h1 h3 l;subst h1;exact (List.map_id l).symm
 exact key _ _ (Ty.den_ro t) h l
theorem toRo_sl (o:Bool) (t:Ty) (l:List t.den):Ty.toRo (.sl o t) l=(l.map (Ty.toRo t):List t.ro.den):=toRo_list t l (Ty.den_ro (.sl o t))
theorem toRo_arr (n:Nat) (t:Ty) (l:List t.den):Ty.toRo (.arr n t) l=(l.map (Ty.toRo t):List t.ro.den):=toRo_list t l (Ty.den_ro (.arr n t))
theorem toRo_ptr (t:Ty) (d:t.den):Ty.toRo (.ptr t) d=Ty.toRo t d:=rfl
theorem toRo_fn (f:Nat) (t:Ty) (d:t.den):Ty.toRo (.fn f t) d=Ty.toRo t d:=rfl
theorem Rep.freeze {w w':World} {g g':Ghost} (hr:RoKept w g w' g'):{o:Own}→{t:Ty}→{d:t.den}→{cs:List Value}→
  (hm:FrozenO w g w' g' o)→Rep w g o t d cs→Rep w' g' none t.ro (Ty.toRo t d) cs
 | _,.int _,_,_,_,h=>h
 | _,.bool,_,_,_,h=>h
 | _,.str,_,_,_,h=>h
 | _,.unit,_,_,_,h=>h
 | _,.pair a b,(x,y),_,hm,h=>by
  obtain ⟨c1,c2,rfl,h1,h2⟩:=h
  rw [toRo_pair]
  exact ⟨c1,c2,rfl,Rep.freeze hr (hm.step _) h1,Rep.freeze hr (hm.step _) h2⟩
 | _,.arr n t,l,_,hm,h=>by
  rw [toRo_arr]
  refine ⟨by simpa using h.1,by rw [Ty.size_ro];exact h.2.1,fun i hi=>?_⟩
  have hi':i < List.length l:=by simpa using hi
  have:=Rep.freeze hr (hm.step _) (h.2.2 i hi')
  simp only [List.get_eq_getElem,List.getElem_map,Ty.size_ro] at this ⊢
  exact this
 | _,.sl false t,l,_,_,h=>by
  obtain ⟨a,cap,rfl,h1,h2,h3⟩:=h
  rw [toRo_sl]
  refine ⟨a,cap,by simp,by simpa using h1,h2,fun hn=>?_⟩
  obtain ⟨b,off,c,e,fz,ha,ht,hb,hs,he⟩:=h3 (by intro h;exact hn (by rw [h];rfl))
  have hk:=hr.blk b ht
  refine ⟨b,off,c,e,fz,ha,hk.1,hk.2.trans hb,by simpa [Ty.size_ro] using hs,fun i hi=>?_⟩
  have hi':i < List.length l:=by simpa using hi
  have:=Rep.freeze hr (o:=none) trivial (he i hi')
  simp only [List.get_eq_getElem,List.getElem_map,Ty.size_ro] at this ⊢
  exact this
 | some (id,p),.sl true t,l,_,hm,h=>by
  obtain ⟨a,cap,rfl,h0,h1,h2,h3⟩:=h
  have hm':Frozen w g w' g' id p:=hm
  rw [toRo_sl]
  refine ⟨a,cap,by simp,by simpa using h1,h2,fun hn=>?_⟩
  have hn':l≠[]:=by intro h;exact hn (by rw [h];rfl)
  rcases h3 with h3 | ⟨b,off,c,e,ha,ht,hb,hs,he⟩
  ·exact absurd h3.2.1 hn'
  ·have hk:=hm'.blk [] b (by simpa using ht)
   refine ⟨b,off,c,e,(0,0),ha,hk.1,hk.2.trans hb,?_,fun i hi=>?_⟩
   ·have:List.length l*t.size≤cap*t.size:=Nat.mul_le_mul_right _ h1
    simp only [List.length_map,Ty.size_ro];omega
   ·have hi':i < List.length l:=by simpa using hi
    have:=Rep.freeze hr (o:=some (id,p++[Step.idx (i:Int)])) (hm'.step _) (he i hi')
    simp only [List.get_eq_getElem,List.getElem_map,Ty.size_ro] at this ⊢
    exact this
 | none,.sl true _,_,_,_,h=>h.elim
 | _,.ptr t,_,_,_,h=>by
  obtain ⟨b,off,c,e,fz,rfl,ht,hb,hs,he⟩:=h
  have hk:=hr.blk b ht
  rw [toRo_ptr]
  refine ⟨b,off,c,e,fz,rfl,hk.1,hk.2.trans hb,by rw [Ty.size_ro];exact hs,?_⟩
  rw [Ty.size_ro]
  exact Rep.freeze hr (o:=none) trivial he
 | _,.fn f t,_,_,_,h=>by
  obtain ⟨vs,rfl,he⟩:=h
  rw [toRo_fn]
  exact ⟨vs,rfl,Rep.freeze hr (o:=none) trivial he⟩
end Go.Kz
namespace Go.Kz
def splice (l:List Value) (off:Nat) (x:List Value):List Value:=l.take off++x++l.drop (off+x.length)
theorem seg_seg (l:List Value) (a n b m:Nat) (h:b+m≤n):seg (seg l a n) b m=seg l (a+b) m:=by
 simp only [seg,List.drop_take,List.drop_drop,List.take_take]
 congr 1;omega
theorem seg_all (l:List Value):seg l 0 l.length=l:=by simp [seg]
theorem seg_append_left (a b:List Value) (off n:Nat) (h:off+n≤a.length):seg (a++b) off n=seg a off n:=by
 simp only [seg]
 rw [List.drop_append_of_le_length (by omega),List.take_append_of_le_length (by simp;omega)]
theorem seg_append_right (a b:List Value) (off n:Nat):seg (a++b) (a.length+off) n=seg b off n:=by
 simp only [seg,List.drop_append,List.drop_eq_nil_of_le (show a.length≤a.length+off by omega),List.nil_append]
 congr 2;omega
theorem seg_append_right' (a b:List Value) (k off n:Nat) (h:k=a.length):seg (a++b) (k+off) n=seg b off n:=by
 subst h;exact seg_append_right a b off n
theorem splice_length (l:List Value) (off:Nat) (x:List Value) (h:off+x.length≤l.length):(splice l off x).length=l.length:=by
 simp only [splice,List.length_append,List.length_take,List.length_drop];omega
theorem splice_append_left (a b:List Value) (off:Nat) (x:List Value) (h:off+x.length≤a.length):splice (a++b) off x=splice a off x++b:=by
 simp only [splice,List.take_append_of_le_length (show off≤a.length by omega),List.drop_append_of_le_length h,List.append_assoc]
theorem splice_append_right (a b:List Value) (k off:Nat) (x:List Value) (h:k=a.length):splice (a++b) (k+off) x=a++splice b off x:=by
 subst h
 simp only [splice,List.take_append,List.take_of_length_le (show a.length≤a.length+off by omega),List.append_assoc]
 congr 1
 congr 1
 ·congr 1;omega
 ·congr 1
  rw [List.drop_append,List.drop_eq_nil_of_le (by omega),List.nil_append]
  congr 1;omega
theorem seg_splice_same (l:List Value) (off:Nat) (x:List Value) (h:off+x.length≤l.length):seg (splice l off x) off x.length=x:=by
 simp only [seg,splice,List.append_assoc]
 rw [List.drop_append_of_le_length (by simp;omega),List.drop_eq_nil_of_le (by simp;omega),List.nil_append,List.take_left']
 rfl
theorem seg_splice_before (l:List Value) (off:Nat) (x:List Value) (a n:Nat) (h:a+n≤off) (hl:off≤l.length):seg (splice l off x) a n=seg l a n:=by
 simp only [splice,List.append_assoc]
 rw [seg_append_left _ _ _ _ (by simp;omega)]
 simp only [seg,List.drop_take,List.take_take]
 congr 1;omega
theorem seg_splice_after (l:List Value) (off:Nat) (x:List Value) (a n:Nat) (h:off+x.length≤a) (hl:off+x.length≤l.length):seg (splice l off x) a n=seg l a n:=by
 obtain ⟨k,rfl⟩:∃ k,a=off+x.length+k:=⟨a-(off+x.length),by omega⟩
 simp only [splice]
 rw [seg_append_right' _ _ _ _ _ (by simp;omega)]
 simp only [seg,List.drop_drop]
theorem splice_seg_inner (l:List Value) (a n off:Nat) (x:List Value) (h:off+x.length≤n) (hl:a+n≤l.length) :
  seg (splice l (a+off) x) a n=splice (seg l a n) off x:=by
 have e:l=l.take a++(seg l a n++l.drop (a+n)):=by
  simp only [seg]
  rw [←List.drop_drop,List.take_append_drop,List.take_append_drop]
 have hs:(seg l a n).length=n:=seg_length hl
 have ha:(l.take a).length=a:=by simp;omega
 have e2:splice l (a+off) x=l.take a++(splice (seg l a n) off x++l.drop (a+n)):=by
  conv=>lhs;rw [e]
  rw [splice_append_right _ _ _ _ _ ha.symm,splice_append_left _ _ _ _ (by omega)]
 rw [e2]
 have hsp:(splice (seg l a n) off x).length=n:=by rw [splice_length _ _ _ (by omega),hs]
 have:=seg_append_right' (l.take a) (splice (seg l a n) off x++l.drop (a+n)) a 0 n ha.symm
 simp only [Nat.add_zero] at this
 rw [this,seg_append_left _ _ _ _ (by omega)]
 have h2:=seg_all (splice (seg l a n) off x)
 rw [hsp] at h2
 exact h2
def Sk.off:Sk→Path→Option (Nat×Sk)
 | s,[]=>some (0,s)
 | .pair a _,.fst :: p=>a.off p
 | .pair a b,.snd :: p=>(b.off p).map fun x=>(a.size+x.1,x.2)
 | .arr n t,.idx i :: p=>if 0≤i∧i < n then (t.off p).map fun x=>(i.toNat*t.size+x.1,x.2) else none
 | _,_=>none
theorem Ty.sk_size:(t:Ty)→t.sk.size=t.size
 | .int _=>rfl
 | .bool=>rfl
 | .str=>rfl
 | .unit=>rfl
 | .pair a b=>by simp only [Ty.sk,Sk.size,Ty.size,Ty.sk_size a,Ty.sk_size b]
 | .arr n t=>by simp only [Ty.sk,Sk.size,Ty.size,Ty.sk_size t]
 | .sl _ t=>rfl
 | .ptr _=>rfl
 | .fn _ _=>rfl
theorem Sk.same_eq:{a b:Sk}→a.same b=true→a=b
 | .leaf,.leaf,_=>rfl
 | .unit,.unit,_=>rfl
 | .pair a b,.pair c d,h=>by
  simp only [Sk.same,Bool.and_eq_true] at h
  rw [Sk.same_eq h.1,Sk.same_eq h.2]
 | .arr n t,.arr m u,h=>by
  simp only [Sk.same,Bool.and_eq_true] at h
  rw [Nat.eq_of_beq_eq_true h.1,Sk.same_eq h.2]
 | .leaf,.unit,h | .leaf,.pair _ _,h | .leaf,.arr _ _,h | .unit,.leaf,h | .unit,.pair _ _,h | .unit,.arr _ _,h
 | .pair _ _,.leaf,h | .pair _ _,.unit,h | .pair _ _,.arr _ _,h | .arr _ _,.leaf,h | .arr _ _,.unit,h | .arr _ _,.pair _ _,h=>by simp [Sk.same] at h
theorem Sk.off_le:{s:Sk}→{p:Path}→{o:Nat}→{s':Sk}→s.off p=some (o,s')→o+s'.size≤s.size
 | s,[],o,s',h=>by simp only [Sk.off,Option.some.injEq,Prod.mk.injEq] at h;obtain ⟨rfl,rfl⟩:=h;omega
 | .pair a b,.fst :: p,o,s',h=>by
  simp only [Sk.off] at h
  have:=Sk.off_le h;simp only [Sk.size];omega
 | .pair a b,.snd :: p,o,s',h=>by
  simp only [Sk.off,Option.map_eq_some_iff,Prod.mk.injEq] at h
  obtain ⟨x,hx,rfl,rfl⟩:=h
  have:=Sk.off_le (s:=b) (p:=p) (o:=x.1) (s':=x.2) hx;simp only [Sk.size];omega
 | .arr n t,.idx i :: p,o,s',h=>by
  simp only [Sk.off] at h
  split at h
  ·rename_i hi
   simp only [Option.map_eq_some_iff,Prod.mk.injEq] at h
   obtain ⟨x,hx,rfl,rfl⟩:=h
   have:=Sk.off_le (s:=t) (p:=p) (o:=x.1) (s':=x.2) hx
   have h2:(i.toNat+1)*t.size≤n*t.size:=Nat.mul_le_mul_right _ (by omega)
   simp only [Sk.size];rw [Nat.add_mul] at h2;omega
  ·simp at h
 | .leaf,_ :: _,_,_,h | .unit,_ :: _,_,_,h | .pair _ _,.idx _ :: _,_,_,h | .arr _ _,.fst :: _,_,_,h | .arr _ _,.snd :: _,_,_,h=>by simp [Sk.off] at h
theorem Sk.off_append:{s:Sk}→{p:Path}→{o:Nat}→{s':Sk}→(q:Path)→s.off p=some (o,s')→s.off (p++q)=(s'.off q).map fun x=>(o+x.1,x.2)
 | s,[],o,s',q,h=>by simp only [Sk.off,Option.some.injEq,Prod.mk.injEq] at h;obtain ⟨rfl,rfl⟩:=h;simp
 | .pair a b,.fst :: p,o,s',q,h=>by
  simp only [Sk.off,List.cons_append] at h ⊢
  exact Sk.off_append q h
 | .pair a b,.snd :: p,o,s',q,h=>by
  simp only [Sk.off,Option.map_eq_some_iff,Prod.mk.injEq,List.cons_append] at h ⊢
  obtain ⟨x,hx,rfl,rfl⟩:=h
  rw [Sk.off_append (s:=b) (p:=p) (o:=x.1) (s':=x.2) q hx,Option.map_map]
  congr 1;funext y;simp [Nat.add_assoc]
 | .arr n t,.idx i :: p,o,s',q,h=>by
  simp only [Sk.off,List.cons_append] at h ⊢
  split at h
  ·simp only [Option.map_eq_some_iff,Prod.mk.injEq] at h
   obtain ⟨x,hx,rfl,rfl⟩:=h
   rw [Sk.off_append (s:=t) (p:=p) (o:=x.1) (s':=x.2) q hx,Option.map_map]
   rename_i hi
   rw [if_pos hi]
   congr 1;funext y;simp [Nat.add_assoc]
  ·simp at h
 | .leaf,_ :: _,_,_,_,h | .unit,_ :: _,_,_,_,h | .pair _ _,.idx _ :: _,_,_,_,h | .arr _ _,.fst :: _,_,_,_,h | .arr _ _,.snd :: _,_,_,_,h=>by simp [Sk.off] at h
theorem idx_some {α:Type} {l:List α} {i:Int} {x:α} (h:idx l i=some x):0≤i∧∃ hi:i.toNat < l.length,l.get ⟨i.toNat,hi⟩=x∧i < l.length:=by
 cases i with
 | ofNat n=>
  simp only [idx] at h
  obtain ⟨hn,hx⟩:=List.getElem?_eq_some_iff.1 h
  exact ⟨Int.natCast_nonneg n,by simpa using hn,by simpa using hx,by show ((n:Nat):Int) < _;omega⟩
 | negSucc n=>simp [idx] at h
variable {R:Type}
theorem getK_rep {w:World} {g:Ghost}:{t:Ty}→{d:t.den}→{p:Path}→{k:(u:Ty)→u.den→Option R}→{r:R}→{cs:List Value}→
  t.isRo=true→Rep w g none t d cs→getK t d p k=some r→
  ∃ u e off,k u e=some r∧u.isRo=true∧t.sk.off p=some (off,u.sk)∧Rep w g none u e (seg cs off u.size)
 | t,d,[],k,r,cs,ht,hrep,h=>by
  have hk:k t d=some r:=by cases t <;> simpa [getK] using h
  refine ⟨t,d,0,hk,ht,?_,?_⟩
  ·simp [Sk.off]
  ·rw [←hrep.len,seg_all];exact hrep
 | .pair a b,(x,y),.fst :: p,k,r,cs,ht,hrep,h=>by
  simp only [getK] at h
  obtain ⟨c1,c2,rfl,h1,h2⟩:=hrep
  simp only [Ty.isRo,Bool.and_eq_true] at ht
  obtain ⟨u,e,off,hk,hu,ho,hr⟩:=getK_rep ht.1 h1 h
  refine ⟨u,e,off,hk,hu,by simpa [Ty.sk,Sk.off] using ho,?_⟩
  have:=Sk.off_le ho
  rw [Ty.sk_size,Ty.sk_size] at this
  rw [seg_append_left _ _ _ _ (by rw [h1.len];exact this)];exact hr
 | .pair a b,(x,y),.snd :: p,k,r,cs,ht,hrep,h=>by
  simp only [getK] at h
  obtain ⟨c1,c2,rfl,h1,h2⟩:=hrep
  simp only [Ty.isRo,Bool.and_eq_true] at ht
  obtain ⟨u,e,off,hk,hu,ho,hr⟩:=getK_rep ht.2 h2 h
  refine ⟨u,e,a.sk.size+off,hk,hu,by simp [Ty.sk,Sk.off,ho],?_⟩
  rw [seg_append_right' _ _ _ _ _ (by rw [h1.len,Ty.sk_size])];exact hr
 | .arr n t,l,.idx i :: p,k,r,cs,ht,hrep,h=>by
  simp only [getK,Option.bind_eq_some_iff] at h
  obtain ⟨x,hx,h⟩:=h
  obtain ⟨h0,hi,rfl,hlt⟩:=idx_some hx
  have ht':t.isRo=true:=by simpa [Ty.isRo] using ht
  have hl:=hrep.1
  have hn:i.toNat < n:=by rw [←hl];exact hi
  obtain ⟨u,e,off,hk,hu,ho,hr⟩:=getK_rep ht' (hrep.2.2 _ hi) h
  refine ⟨u,e,i.toNat*t.sk.size+off,hk,hu,?_,?_⟩
  ·simp only [Ty.sk,Sk.off]
   rw [if_pos ⟨h0,by omega⟩,ho];rfl
  ·have:=Sk.off_le ho
   rw [Ty.sk_size,Ty.sk_size] at this
   rw [seg_seg _ _ _ _ _ this] at hr
   rw [Ty.sk_size];exact hr
 | .sl true t,l,.idx i :: p,k,r,cs,ht,hrep,h=>by simp [Ty.isRo] at ht
 | .sl false t,l,s :: p,k,r,cs,ht,hrep,h=>by cases s <;> simp [getK] at h
 | .sl true t,l,.fst :: p,k,r,cs,ht,hrep,h=>by simp [getK] at h
 | .sl true t,l,.snd :: p,k,r,cs,ht,hrep,h=>by simp [getK] at h
 | .int _,_,s :: _,_,_,_,_,_,h=>by cases s <;> simp [getK] at h
 | .bool,_,s :: _,_,_,_,_,_,h=>by cases s <;> simp [getK] at h
 | .str,_,s :: _,_,_,_,_,_,h=>by cases s <;> simp [getK] at h
 | .unit,_,s :: _,_,_,_,_,_,h=>by cases s <;> simp [getK] at h
 | .ptr _,_,s :: _,_,_,_,_,_,h=>by cases s <;> simp [getK] at h
 | .fn _ _,_,s :: _,_,_,_,_,_,h=>by cases s <;> simp [getK] at h
 | .pair _ _,_,.idx _ :: _,_,_,_,_,_,h=>by simp [getK] at h
 | .arr _ _,_,.fst :: _,_,_,_,_,_,h=>by simp [getK] at h
 | .arr _ _,_,.snd :: _,_,_,_,_,_,h=>by simp [getK] at h
end Go.Kz
