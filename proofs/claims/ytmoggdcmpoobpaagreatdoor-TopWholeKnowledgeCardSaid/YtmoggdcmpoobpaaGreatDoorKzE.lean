/-
  Type codes, and layouts.
-/
import Derived.WalkKit
import Derived.ProofKit
set_option linter.unusedVariables false
set_option linter.unusedSimpArgs false
set_option linter.defProp false
namespace Go.Kz
def zW:=@cond_false
def zB:=@Option.bind_some
def zD:=@cond_true
def qQ:=@if_neg
def qW:=@decide_eq_false
def yW:=@if_pos
def yS:=@Nat.le_refl
def jg:=@decide_eq_true
def jE:=@Nat.zero_le
def jL:=@decide_eq_true_eq
def vX:=@Array.length_toList
def wq:=@Option.map_eq_some_iff
def C6:=@congrArg
def wz:=@Nat.add_mul
def kj:=@Nat.mul_le_mul_right
def kK:=@List.getElem_mem
def gj:=@List.getElem?_eq_getElem
def gX:=@List.mem_cons
def gB:=@Prod.mk.injEq
def pE:=@Bool.not_true
def ue:=@List.cons_append
def xB:=@decide_eq_false_iff_not
def Zu:=@List.nil_append
def Zp:=@Nat.zero_add
def JU:=@List.map_cons
def Jk:=@List.length_map
def Kj:=@List.length_append
def Jo:=@List.mem_map
def VO:=@List.append_assoc
def VL:=@true_and
def VI:=@List.mem_iff_getElem
def VH:=@Bool.or_eq_false_iff
def VN:=@Option.bind_eq_some_iff
def KJ:=@List.take_length
def P0:=@List.length_take
def GO:=@List.length_cons
def Gt:=@List.mem_append
def A1:=@Bool.not_eq_true'
def A0:=@decide_true
def Az:=@List.cons.injEq
def AM:=@of_decide_eq_true
def AL:=@List.append_nil
def E1:=@Nat.lt_succ_self
def E0:=@List.getD_eq_getElem?_getD
def Dt:=@List.drop_eq_nil_of_le
def Ds:=@and_true
def Dr:=@Array.toList_inj
def Dn:=@if_true
def EY:=@List.mem_singleton
def HV:=@List.get_eq_getElem
def Z1e:=@Nat.le_trans
def He:=@List.length_nil
def HJ:=@Bool.or_eq_true
def HY:=@Bool.not_eq_false'
def LZ:=@List.mem_cons_of_mem
def Lx:=@List.length_drop
def Lu:=@Nat.beq_refl
def Lp:=@if_false
def Np:=@List.getElem_map
def Ng:=@List.drop_drop
def Z1o:=@Nat.le_succ
def Nk:=@List.mem_cons_self
def Nw:=@List.mem_range
def R4:=@Nat.add_assoc
def R3:=@Int.mul_nonneg
def RU:=@List.take_append_drop
def RG:=@Nat.add_zero
def RK:=@List.map_append
def RW:=@List.range_succ
def RV:=@Int.toNat_natCast
def RJ:=@of_decide_eq_false
def RY:=@Bool.and_eq_false_iff
def Z20:=@List.take_zero
def Z21:=@Nat.lt_of_lt_of_le
def Z22:=@Array.getElem?_toList
def Z23:=@List.drop_eq_getElem_cons
def Z24:=@Nat.mul_comm
def Z25:=@Bool.false_eq_true
def Z26:=@List.size_toArray
def Z27:=@List.getElem?_drop
def Z28:=@Array.getElem?_eq_some_iff
def Z29:=@Int.mul_le_mul_of_nonneg_right
def Z2a:=@Nat.mul_one
def Z2b:=@Bool.not_false
def Z2c:=@List.get_mem
def Z2d:=@List.take_of_length_le
def Z2e:=@List.length_eq_one_iff
def Z2f:=@Nat.zero_mul
def Z2g:=@List.foldl_cons
def Z2h:=@List.eq_nil_of_length_eq_zero
def Z2i:=@List.map_nil
def Z2j:=@List.headD_cons
def Z2k:=@List.all_eq_true
def Z2l:=@Nat.testBit_two_pow_mul
def Z2m:=@Array.getD_eq_getD_getElem?
def Z2n:=@Int.toNat_of_nonneg
def Z2o:=@Option.map_some
def Z2p:=@List.take_succ_cons
def Z2q:=@Bool.true_and
def Z2r:=@List.getElem?_map
def Z2s:=@List.nodup_cons
def Z2t:=@List.filter_append
def Z2u:=@Array.toList_map
def Z2v:=@List.getElem?_take
def Z2w:=@Nat.mod_lt
def Z2x:=@List.flatten_cons
def Z2y:=@List.ext_getElem
def Z2z:=@List.ext_getElem?
def Z30:=@List.mem_filter
def Z31:=@Bool.and_true
def Z32:=@Nat.blt_eq
def Z33:=@List.take_take
def Z34:=@List.drop_append_of_le_length
def Z35:=@eq_of_heq
def Z36:=@Int.ediv_nonneg
def Z37:=@Int.ediv_le_self
def Z38:=@List.getElem_take
def Z39:=@List.map_map
def Z3a:=@Option.isSome_iff_exists
def Z3b:=@Nat.le_of_eq
def Z3c:=@List.drop_zero
def Z3d:=@Array.getElem?_eq_getElem
def Z3e:=@Array.toList_modify
def Z3f:=@List.mem_of_mem_take
def Z3g:=@Array.getElem?_eq_none
def Z3h:=@Nat.lt_or_ge
def Z3i:=@List.getElem?_eq_none
def Z3j:=@getElem!_pos
def Z3k:=@decide_false
def Z3l:=@List.length_filter_le
def Z3m:=@List.foldl_nil
def Z3n:=@List.take_append_of_le_length
def Z3o:=@List.drop_append
def Z3p:=@List.getElem?_eq_some_iff
def Z3q:=@Nat.lt_or_gt_of_ne
def Z3r:=@List.length_singleton
def Z3s:=@List.append_inj
def Z3t:=@List.getElem_drop
def Z3u:=@List.length_pos_iff
def Z3v:=@Nat.eq_zero_or_pos
def Z3w:=@Nat.div_lt_of_lt_mul
def Z3x:=@Nat.div_add_mod
def Z3y:=@Int.le_refl
def Z3z:=@Option.map_none
def Z40:=@Bool.eq_iff_iff
def Z41:=@Array.getElem?_append_left
def Z42:=@List.mem_of_getElem?
def Z43:=@Nat.le_add_right
def Z44:=@Option.getD_some
def Z45:=@List.getElem_cons_succ
def Z46:=@List.mem_of_mem_drop
def Z47:=@List.foldl_append
def Z48:=@List.length_range
def Z49:=@List.drop_take
def Z4a:=@List.getElem_set
def Z4b:=@Int.tmod_nonneg
def Z4c:=@List.prefix_refl
def Z4d:=@List.prefix_append_right_inj
def Z4e:=@List.append_cancel_left
def Z4f:=@List.replicate_succ
def Z4g:=@Nat.add_comm
def Z4h:=@Nat.min_eq_left
def Z4i:=@Nat.sub_self
def Z4j:=@Sigma.mk.injEq
def Z4k:=@Array.toList_push
def Z4l:=@List.getElem?_modify
def Z4m:=@List.filter_congr
def Z4n:=@Nat.min_le_left
def Z4o:=@List.getElem?_append_left
def Z4p:=@List.nodup_append
def Z4q:=@Nat.sub_zero
def Z4r:=@List.mem_filterMap
def Z4s:=@List.pairwise_iff_getElem
def Z4t:=@Int.mul_le_mul
def Z4u:=@Int.add_mul
def Z4v:=@Int.tdiv_eq_ediv_of_nonneg
def Z4w:=@List.filter_nil
def Z4x:=@Int.natCast_nonneg
def Z4y:=@Int.fdiv_eq_ediv_of_nonneg
def Z4z:=@Array.eq_empty_of_size_eq_zero
def Z50:=@List.prefix_append
def Z51:=@List.map_congr_left
def Z52:=@List.map_toArray
def Z53:=@Nat.mul_le_mul_left
def Z54:=@Array.getElem_toList
def Z55:=@List.getElem_append_left
def Z56:=@Array.size_append
def Z57:=@Array.toList_append
def Z58:=@Nat.add_sub_cancel_left
def Z59:=@List.modify_zero_cons
def Z5a:=@List.modify_succ_cons
def Z5b:=@List.length_modify
def Z5c:=@List.getElem?_range
def Z5d:=@List.getElem?_cons_zero
def Z5e:=@List.eq_nil_iff_forall_not_mem
def Z5f:=@List.pairwise_cons
def Z5g:=@Nat.mod_eq_of_lt
def Z5h:=@Option.isSome_none
def Z5i:=@List.flatMap_cons
def Z5j:=@List.singleton_append
def Z5k:=@List.getElem_cons_zero
def Z5l:=@List.getElem_cons_drop
def Z5m:=@Int.emod_nonneg
def Z5n:=@Int.emod_lt_of_pos
def Z5o:=@List.length_replicate
def Z5p:=@List.any_eq_false
def Z5q:=@List.filter_eq_nil_iff
def Z5r:=@Array.getElem?_setIfInBounds
def Z5s:=@List.take_succ_eq_append_getElem
def Z5t:=@Array.getElem?_setIfInBounds_ne
def Z5u:=@List.getElem?_append_right
def Z5v:=@Go.WideShapes.okWide_struct
def Z5w:=@Int.tmod_eq_emod_of_nonneg
def Z5x:=@List.nodup_iff_pairwise_ne
theorem zI.{u} {I:Type u} (a b:I):(some a=some b)=(a=b):=Option.some.injEq a b
theorem zA (a b:Bool):((a&&b)=true)=(a=true/\b=true):=Bool.and_eq_true a b
theorem zE {n m:Nat} (h:Nat.beq n m=true):n=m:=Nat.eq_of_beq_eq_true h
theorem zL {n m:Nat} (h:Nat.ble n m=true):n<=m:=Nat.le_of_ble_eq_true h
inductive Ty where
 | int (k:IntKind) | bool | str | unit
 | pair (a b:Ty) | arr (n:Nat) (t:Ty) | sl (own:Bool) (t:Ty) | ptr (t:Ty) | fn (f:Nat) (c:Ty)
 | tree (k:Nat)
inductive Sk where
 | leaf | unit | pair (a b:Sk) | arr (n:Nat) (t:Sk) | tree (k:Nat)
def Sk.same:Sk->Sk->Bool
 | .leaf,.leaf=>true
 | .unit,.unit=>true
 | .pair a b,.pair c d=>a.same c && b.same d
 | .arr n t,.arr m u=>Nat.beq n m && t.same u
 | .tree k,.tree j=>Nat.beq k j
 | _,_=>false
def Sk.isAgg:Sk->Bool
 | .leaf=>false
 | _=>true
end Go.Kz
namespace Go.Kz
structure Tm where
 op:Int
 n:Int
 kids:List Tm
structure Sp where
 act:Int
 cost:Int
 var:Int
 n:Int
 term:Tm
 jG:List Sp
 uw:List Sp
 bounds:List Int
@[reducible] def Rec:Nat->Type
 | 0=>Tm
 | 1=>Sp
 | _=>Unit
def pn:Nat->Ty
 | 0 | 1=>.int .i64
 | _=>.unit
def pf:Nat->Ty
 | 0=>.pair (.int .i64) (.pair (.sl false (.tree 0)) .unit)
 | 1=>.pair (.int .i64) (.pair (.int .i64) (.pair (.int .i64) (.pair (.pair (.int .i64) (.pair (.int .i64) (.pair (.sl false (.tree 0)) .unit))) (.pair (.sl false (.tree 1)) (.pair (.sl false (.tree 1)) (.pair (.sl false (.int .i64)) .unit))))))
 | _=>.unit
def B9:Nat->Nat
 | 0=>3
 | 1=>10
 | _=>0
def zic:Nat->List Value
 | 0=>[.int .i64 0,.int .i64 0,.slice none 0 0]
 | 1=>[.int .i64 0,.int .i64 0,.int .i64 0,.int .i64 0,.int .i64 0,.int .i64 0,.slice none 0 0,.slice none 0 0,.slice none 0 0,.slice none 0 0]
 | _=>[]
def recOn:Nat->Bool
 | 0 | 1=>true
 | _=>false
def z5k:Nat->Nat
 | 0=>109
 | 1=>111
 | _=>0
@[reducible] def Ty.den:Ty->Type
 | .int _=>Int
 | .bool=>Bool
 | .str=>List UInt8
 | .unit=>Unit
 | .pair a b=>a.den×b.den
 | .arr _ t=>List t.den
 | .sl _ t=>List t.den
 | .ptr t=>t.den
 | .fn _ c=>c.den
 | .tree k=>Rec k
def vq:(k:Nat)->Rec k->(pn k).den×(pf k).den
 | 0,x=>(x.op,x.n,x.kids,())
 | 1,x=>(x.act,x.cost,x.var,x.n,(x.term.op,x.term.n,x.term.kids,()),x.jG,x.uw,x.bounds,())
 | _+2,_=>((),())
def Ld:(k:Nat)->(pn k).den×(pf k).den->Rec k
 | 0,y=>⟨y.1,y.2.1,y.2.2.1⟩
 | 1,y=>⟨y.1,y.2.1,y.2.2.1,y.2.2.2.1,⟨y.2.2.2.2.1.1,y.2.2.2.2.1.2.1,y.2.2.2.2.1.2.2.1⟩,y.2.2.2.2.2.1,y.2.2.2.2.2.2.1,y.2.2.2.2.2.2.2.1⟩
 | _+2,_=>()
theorem Bz:(k:Nat)->(y:(pn k).den×(pf k).den)->vq k (Ld k y)=y
 | 0,_=>rfl
 | 1,_=>rfl
 | _+2,_=>rfl
end Go.Kz
namespace Go.Kz
def Ty.same:(a b:Ty)->Option (PLift (a=b))
 | .int k,.int j=>if h:k=j then some ⟨by rw [h]⟩ else none
 | .bool,.bool=>some ⟨rfl⟩
 | .str,.str=>some ⟨rfl⟩
 | .unit,.unit=>some ⟨rfl⟩
 | .pair a b,.pair c d=>
  match Ty.same a c with
  | some h=>match Ty.same b d with
   | some h'=>some ⟨by rw [h.down,h'.down]⟩
   | none=>none
  | none=>none
 | .arr n t,.arr m u=>if h:n=m then match Ty.same t u with
   | some h'=>some ⟨by rw [h,h'.down]⟩
   | none=>none
  else none
 | .sl o t,.sl p u=>if h:o=p then match Ty.same t u with
   | some h'=>some ⟨by rw [h,h'.down]⟩
   | none=>none
  else none
 | .ptr t,.ptr u=>match Ty.same t u with
   | some h'=>some ⟨by rw [h'.down]⟩
   | none=>none
 | .fn f c,.fn g d=>if h:f=g then match Ty.same c d with
   | some h'=>some ⟨by rw [h,h'.down]⟩
   | none=>none
  else none
 | .tree k,.tree j=>if h:k=j then some ⟨by rw [h]⟩ else none
 | _,_=>none
def Ty.size:Ty->Nat
 | .unit=>0
 | .pair a b=>a.size+b.size
 | .arr n t=>n*t.size
 | .tree k=>B9 k
 | _=>1
def Ty.ro:Ty->Ty
 | .sl _ t=>.sl false t.ro
 | .pair a b=>.pair a.ro b.ro
 | .arr n t=>.arr n t.ro
 | .ptr t=>.ptr t.ro
 | .fn f c=>.fn f c.ro
 | t=>t
theorem Ty.gb:(t:Ty)->t.ro.den=t.den
 | .int _=>rfl
 | .bool=>rfl
 | .str=>rfl
 | .unit=>rfl
 | .pair a b=>by simp only [Ty.ro,Ty.den,Ty.gb a,Ty.gb b]
 | .arr _ t=>by simp only [Ty.ro,Ty.den,Ty.gb t]
 | .sl _ t=>by simp only [Ty.ro,Ty.den,Ty.gb t]
 | .ptr t=>by simp only [Ty.ro,Ty.den,Ty.gb t]
 | .fn _ c=>by simp only [Ty.ro,Ty.den,Ty.gb c]
 | .tree _=>rfl
def Ty.kZ (t:Ty) (d:t.den):t.ro.den:=cast (Ty.gb t).symm d
def Ty.zV:Ty->Bool
 | .sl o t=>!o && t.zV
 | .pair a b=>a.zV && b.zV
 | .arr _ t=>t.zV
 | .ptr t=>t.zV
 | .fn _ c=>c.zV
 | _=>true
def Ty.zero:(t:Ty)->Option t.den
 | .int _=>some (0:Int)
 | .bool=>some false
 | .str=>some ([]:List UInt8)
 | .unit=>some ()
 | .pair a b=>match a.zero,b.zero with
  | some x,some y=>some (x,y)
  | _,_=>none
 | .arr n t=>match t.zero with
  | some x=>some (List.replicate n x)
  | none=>none
 | .sl _ t=>some ([]:List t.den)
 | _=>none
def Sk.size:Sk->Nat
 | .leaf=>1
 | .unit=>0
 | .pair a b=>a.size+b.size
 | .arr n t=>n*t.size
 | .tree k=>B9 k
def Ty.sk:Ty->Sk
 | .unit=>.unit
 | .pair a b=>.pair a.sk b.sk
 | .arr n t=>.arr n t.sk
 | .tree k=>.tree k
 | _=>.leaf
theorem Uu:(k:Nat)->B9 k=(Ty.pair (pn k) (pf k)).size
 | 0=>rfl
 | 1=>rfl
 | _+2=>rfl
theorem SZ:(k:Nat)->(Ty.pair (pn k) (pf k)).zV=true
 | 0=>rfl
 | 1=>rfl
 | _+2=>rfl
def Ty.qn:Ty->Bool
 | .sl _ _=>false
 | .pair a b=>a.qn && b.qn
 | .arr _ t=>t.qn
 | .ptr _ | .fn _ _ | .tree _=>false
 | _=>true
inductive Step where
 | fst | snd | idx (i:Int)
abbrev Path:=List Step
def idx {I:Type} (l:List I):Int->Option I
 | .ofNat n=>l[n]?
 | .negSucc _=>none
def wx {I:Type} (l:List I) (i:Int) (x:I):List I:=l.set i.toNat x
def gU {I:Type} (l:List I) (i:Int):Bool:=decide (0<=i) && decide (i < (l.length:Int))
def qR {R:Type} (b:Bool) (x:Option R):Option R:=cond b x none
def room:Nat:=4294967296
def sub {I:Type} (l:List I) (a b:Int):List I:=(l.drop a.toNat).take (b.toNat-a.toNat)
variable {R:Type}
def pJ (a b:Ty) (d:a.den) (k:b.den->Option R):Option R:=
 match Ty.same a b with
 | some h=>k (cast (C6 Ty.den h.down) d)
 | none=>none
def za:(t:Ty)->t.den->Path->((u:Ty)->u.den->Option R)->Option R
 | .pair a _,(x,_),.fst :: p,k=>za a x p k
 | .pair _ b,(_,y),.snd :: p,k=>za b y p k
 | .arr _ t,l,.idx i :: p,k=>(idx l i).bind fun x=>za t x p k
 | .sl true t,l,.idx i :: p,k=>(idx l i).bind fun x=>za t x p k
 | t,d,[],k=>k t d
 | _,_,_ :: _,_=>none
def jM:(t:Ty)->t.den->Path->(u:Ty)->u.den->(t.den->Option R)->Option R
 | .pair a _,(x,y),.fst :: p,u,e,k=>jM a x p u e fun x'=>k (x',y)
 | .pair _ b,(x,y),.snd :: p,u,e,k=>jM b y p u e fun y'=>k (x,y')
 | .arr _ t,l,.idx i :: p,u,e,k=>(idx l i).bind fun x=>jM t x p u e fun x'=>k (wx l i x')
 | .sl true t,l,.idx i :: p,u,e,k=>(idx l i).bind fun x=>jM t x p u e fun x'=>k (wx l i x')
 | t,_,[],u,e,k=>pJ u t e k
 | _,_,_ :: _,_,_,_=>none
inductive z7 where
 | data (t:Ty) (d:t.den)
 | qy
 | ref (id:Nat) (p:Path) (ep:Nat)
 | view (id:Nat) (p:Path) (ep:Nat) (a b:Int)
 | zu (id:Nat) (p:Path)
 | vW (id:Nat) (p:Path) (ep:Nat)
 | qA (id:Nat)
 | nv (pt:Bool) (id:Nat) (p:Path) (ep:Nat)
 | yG (f:Nat) (c:z7)
 | JJ (t:Nat) (c:z7)
 | agg (c:z7)
 | jC (c:z7)
 | pr (a b:z7)
 | un
def z7.sk:z7->Sk
 | .data t _=>t.sk
 | .agg c=>c.sk
 | .jC c=>c.sk
 | .pr a b=>.pair a.sk b.sk
 | .un=>.unit
 | _=>.leaf
inductive Obj where
 | row (t:Ty) (l:List t.den) (ep:Nat)
 | cell (a:z7)
 | map (kt vt:Ty) (m:List (kt.den×vt.den))
 | nest (t:Ty) (l:List t.den) (e i:Nat) (hole:Option Path)
structure St where
 zj:Nat->Option z7
 z6:Nat->Option Obj
 next:Nat
def KK {I:Type} (f:Nat->Option I) (i:Nat) (v:Option I):Nat->Option I:=fun j=>cond (Nat.beq j i) v (f j)
def St.set (J:St) (i:Nat) (v:z7):St:={ J with zj:=KK J.zj i (some v) }
def St.wh (J:St):Option Nat->St
 | some i=>{ J with zj:=KK J.zj i none }
 | none=>J
def St.setObj (J:St) (i:Nat) (o:Obj):St:={ J with z6:=KK J.z6 i (some o) }
def St.kill (J:St) (i:Nat):St:={ J with z6:=KK J.z6 i none }
def j5:(t:Ty)->t.den->z7
 | .pair a b,(x,y)=>.pr (.data a x) (j5 b y)
 | _,_=>.un
def uM:z7->Path->(z7->Option R)->Option R
 | a,[],k=>k a
 | .agg c,s :: p,k=>uM c (s :: p) k
 | .pr a _,.fst :: p,k=>uM a p k
 | .pr _ b,.snd :: p,k=>uM b p k
 | .data t d,s :: p,k=>za t d (s :: p) fun u e=>k (.data u e)
 | _,_,_=>none
def vz:Ty->Path->Option Ty
 | t,[]=>some t
 | .pair a _,.fst :: p=>vz a p
 | .pair _ b,.snd :: p=>vz b p
 | .arr _ t,.idx _ :: p=>vz t p
 | _,_=>none
def Ic (t:Ty) (p:Path):z7->Bool
 | .data u _=>match vz t p with
  | some v=>(Ty.same v u).isSome
  | none=>false
 | _=>false
def jy (new:z7):(t:Ty)->t.den->Path->(z7->Option R)->Option R
 | .pair a b,(x,y),[.fst],k=>k (.pr new (j5 b y))
 | .pair a b,(x,y),.fst :: s :: p,k=>jy new a x (s :: p) fun u=>k (.pr (.agg u) (j5 b y))
 | .pair a b,(x,y),.snd :: p,k=>jy new b y p fun u=>k (.pr (.data a x) u)
 | _,_,_,_=>none
def I3 (new:z7) (t:Ty) (d:t.den) (p:Path) (k:z7->Option R):Option R:=match new with
 | .data u e=>jM t d p u e fun d=>k (.data t d)
 | _=>none
def uU (new:z7):z7->Path->(z7->Option R)->Option R
 | _,[],k=>k new
 | .agg c,s :: p,k=>uU new c (s :: p) fun c=>k (.agg c)
 | .pr a b,.fst :: p,k=>uU new a p fun a=>k (.pr a b)
 | .pr a b,.snd :: p,k=>uU new b p fun b=>k (.pr a b)
 | .data t d,s :: p,k=>cond (Ic t (s :: p) new) (I3 new t d (s :: p) k)
   (jy new t d (s :: p) fun u=>cond (u.sk.same t.sk) (k (.agg u)) none)
 | _,_,_=>none
def Sv (t:Ty) (l:List t.den) (p:Path) (k:(u:Ty)->u.den->Option R):Option R:=za (.sl true t) l p k
def uN (J:St) (id:Nat) (p:Path) (ep:Nat) (k:(u:Ty)->List u.den->Option R):Option R:=
 match J.z6 id with
 | some (.row t l e)=>cond (Nat.beq e ep) (Sv t l p fun u d=>match u,d with
  | .sl true v,l=>k v l
  | _,_=>none) none
 | _=>none
def p6 (J:St) (id:Nat) (p:Path) (ep:Nat) (k:(u:Ty)->u.den->Option R):Option R:=
 match J.z6 id with
 | some (.row t l e)=>cond (Nat.beq e ep) (Sv t l p k) none
 | _=>none
def z7.wk:z7->Bool
 | .jC _=>true
 | _=>false
def z7.wg:z7->Bool
 | .jC (.agg _)=>true
 | .jC (.qA _)=>true
 | _=>false
def z7.cont:z7->Option z7
 | .jC (.agg c)=>some (.agg c)
 | .jC (.qA i)=>some (.qA i)
 | .jC _=>none
 | a=>some a
def Jv (J:St) (id:Nat) (p:Path) (k:z7->Option R):Option R:=
 match J.z6 id with
 | some (.cell a)=>match a.cont with
  | some x=>uM x p k
  | none=>none
 | _=>none
def YQ (J:St) (id:Nat) (p:Path) (k:z7->Option R):Option R:=
 match J.z6 id with
 | some (.cell a)=>cond a.wk none (uM a p k)
 | _=>none
def F8:Bool->Path->Nat->Nat->Nat
 | false,[],e,_=>e
 | _,_,_,i=>i
def Wq (J:St) (pt:Bool) (id:Nat) (p:Path) (ep:Nat) (k:(u:Ty)->u.den->Option R):Option R:=
 match J.z6 id with
 | some (.nest t l e i none)=>cond (Nat.beq (F8 pt p e i) ep) (Sv t l p k) none
 | _=>none
def UH (J:St) (id:Nat) (p:Path) (ep:Nat) (k:(v:Ty)->List v.den->Option R):Option R:=
 Wq J false id p ep fun u d=>match u,d with
  | .sl true v,l=>k v l
  | _,_=>none
def Z3 (a b:Ty) (d:a.den) (k:b.den->Option R):Option R:=
 match a,b,d,k with
 | .sl false (.tree j),.sl false (.pair x y),l,k=>pJ (.sl false (.pair (pn j) (pf j))) (.sl false (.pair x y)) (List.map (vq j) l) k
 | .sl false (.pair x y),.sl false (.tree j),l,k=>pJ (.sl false (.pair x y)) (.sl false (.pair (pn j) (pf j))) l fun l=>k (List.map (Ld j) l)
 | a,b,d,k=>pJ a b d k
def Si:(t:Ty)->(t.den->Option R)->Option R
 | .sl _ _,k=>k []
 | _,_=>none
def asData (J:St):Nat->(a:z7)->(t:Ty)->(t.den->Option R)->Option R
 | 0,_,_,_=>none
 | _+1,.data t' d,t,k=>Z3 t' t d k
 | _+1,.qy,t,k=>cond t.zV (Si t k) none
 | _+1,.ref id p ep,t,k=>uN J id p ep fun v l=>Z3 (Ty.ro (.sl false v)) t (Ty.kZ (.sl false v) l) k
 | _+1,.view id p ep a b,t,k=>uN J id p ep fun v l=>Z3 (Ty.ro (.sl false v)) t (Ty.kZ (.sl false v) (sub l a b)) k
 | _+1,.nv false id p ep,t,k=>UH J id p ep fun v l=>Z3 (Ty.ro (.sl false v)) t (Ty.kZ (.sl false v) l) k
 | n+1,.zu id p,.ptr t,k=>Jv J id p fun a=>asData J n a t k
 | _+1,.vW id p ep,.ptr t,k=>p6 J id p ep fun u d=>pJ u.ro t (Ty.kZ u d) k
 | n+1,.yG f c,.fn g t,k=>cond (Nat.beq f g) (asData J n c t k) none
 | n+1,.agg c,t,k=>asData J n c t k
 | n+1,.pr a b,.pair t u,k=>asData J n a t fun x=>asData J n b u fun y=>k (x,y)
 | _+1,.un,.unit,k=>k ()
 | _+1,_,_,_=>none
def j6:Nat->(a:z7)->(u:Ty)->St->(u.den->St->Option R)->Option R
 | 0,_,_,_,_=>none
 | _+1,.data t d,u,J,k=>Z3 t u d fun d=>k d J
 | _+1,.qy,u,J,k=>Si u fun d=>k d J
 | _+1,.ref id [] ep,u,J,k=>
  match J.z6 id with
  | some (.row t l e)=>cond (Nat.beq e ep)
   (match u,k with
    | .sl true v,k=>pJ (.sl true t) (.sl true v) l fun d=>k d (J.kill id)
    | .sl false v,k=>Z3 (Ty.ro (.sl false t)) (.sl false v) (Ty.kZ (.sl false t) l) fun d=>k d (J.kill id)
    | _,_=>none) none
  | _=>none
 | _+1,.nv false id [] ep,u,J,k=>
  match J.z6 id with
  | some (.nest t l e _ none)=>cond (Nat.beq e ep)
   (match u,k with
    | .sl false v,k=>Z3 (Ty.ro (.sl false t)) (.sl false v) (Ty.kZ (.sl false t) l) fun d=>k d (J.kill id)
    | _,_=>none) none
  | _=>none
 | n+1,.zu id [],.ptr u,J,k=>
  match J.z6 id with
  | some (.cell a)=>cond a.wk none (j6 n a u (J.kill id) k)
  | _=>none
 | n+1,.yG f c,.fn g t,J,k=>cond (Nat.beq f g) (j6 n c t J k) none
 | n+1,.agg c,u,J,k=>j6 n c u J k
 | n+1,.pr a b,.pair t u,J,k=>j6 n a t J fun x J=>j6 n b u J fun y J=>k (x,y) J
 | _+1,.un,.unit,J,k=>k () J
 | _+1,_,_,_,_=>none
def v8:Ty->Option z7×Option z7
 | .sl _ _=>(some .qy,none)
 | .unit=>(match (Ty.unit).zero,(Ty.unit).qn with
  | some z,true=>some (.data .unit z)
  | _,_=>none,some .un)
 | .pair a b=>
  let c:=match (v8 a).1,(v8 b).2 with
   | some x,some y=>some (.pr x y)
   | _,_=>none
  (match Ty.zero (.pair a b),(Ty.pair a b).qn with
  | some z,true=>some (.data (.pair a b) z)
  | _,_=>c.map .agg,c)
 | .arr n t=>(match (Ty.arr n t).zero,(Ty.arr n t).zV with
  | some z,true=>some (.data (.arr n t) z)
  | _,_=>none,none)
 | t=>(match t.zero,t.qn with
  | some z,true=>some (.data t z)
  | _,_=>none,none)
def p8 (t:Ty):Option z7:=(v8 t).1
def xC (t:Ty):Option z7:=(v8 t).2
def zy:(t:Ty)->t.den->Nat->z7×List Obj
 | .sl true t,l,n=>(.ref n [] 0,[.row t l 0])
 | .pair a b,(x,y),n=>
  cond (Ty.zV (.pair a b)) (.data (.pair a b) (x,y),[])
   (let u:=zy a x n
    let v:=zc b y (n+u.2.length)
    (.agg (.pr u.1 v.1),u.2++v.2))
 | t,d,_=>(.data t d,[])
where zc:(t:Ty)->t.den->Nat->z7×List Obj
 | .pair a b,(x,y),n=>
   (let u:=zy a x n
    let v:=zc b y (n+u.2.length)
    (.pr u.1 v.1,u.2++v.2))
 | _,_,_=>(.un,[])
end Go.Kz
namespace Go.Kz
structure zxl where
 n:Nat
 t:Ty
 l:List t.den
def tab0:List Int:=[0,1,56,2,57,49,28,3,61,58,42,50,38,29,17,4,62,47,59,36,45,43,51,22,53,39,33,30,24,18,12,5,63,55,48,27,60,41,37,16,46,35,44,21,52,32,23,11,54,26,40,15,34,20,31,10,25,14,19,9,13,8,7,6]
def tab1:List Int:=[1,10,100,1000,10000,100000,1000000,10000000,100000000,1000000000,10000000000,100000000000,1000000000000,10000000000000,100000000000000,1000000000000000,10000000000000000,100000000000000000,1000000000000000000,10000000000000000000]
def tab:Nat->Option zxl
 | 0=>some ⟨64,.int .u8,tab0⟩
 | 1=>some ⟨20,.int .u64,tab1⟩
 | _=>none
theorem Mz {I:Type}:∃ f:List I->Int->Option I,f=idx:=⟨_,rfl⟩
noncomputable def z6k {I:Type}:List I->Int->Option I:=Classical.choose Mz
theorem Mq {I:Type} (l:List I) (i:Int):z6k l i=idx l i:=by
 have:(z6k:List I->Int->Option I)=idx:=Classical.choose_spec Mz;rw [this]
end Go.Kz
namespace Go.Kz
noncomputable section
variable {R:Type}
inductive kG where
 | val (t:Ty) | ref (i:Nat) | zu (i:Nat) | yG (f:Nat) (c:kG) | agg (c:kG) | pr (a b:kG) | un
@[reducible] def kG.den:kG->Type
 | .val t=>t.den
 | .ref _=>Unit
 | .zu _=>Unit
 | .yG _ c=>c.den
 | .agg c=>c.den
 | .pr a b=>a.den×b.den
 | .un=>Unit
@[reducible] def jv:List Ty->Type
 | []=>Unit
 | [t]=>t.den
 | t :: u :: ts=>t.den×jv (u :: ts)
inductive zG where
 | val (t:Ty) | qy | ref (id:Nat) | view (id:Nat) | zu (id:Nat) (p:Path) | qA (id:Nat) | nv (id:Nat) | nvi (id:Nat) | yG (f:Nat) (c:zG) | JJ (t:Nat) (c:zG) | agg (c:zG) | pr (a b:zG) | un
@[reducible] def zG.den:zG->Type
 | .val t=>t.den
 | .view _=>Int×Int
 | .nvi _=>Int
 | .yG _ c=>c.den
 | .JJ _ c=>c.den
 | .agg c=>c.den
 | .pr a b=>a.den×b.den
 | _=>Unit
def zG.mk:(p:zG)->p.den->z7
 | .val t,d=>.data t d
 | .qy,_=>.qy
 | .ref id,_=>.ref id [] 0
 | .view id,d=>.view id [] 0 d.1 d.2
 | .zu id p,_=>.zu id p
 | .qA id,_=>.qA id
 | .nv id,_=>.nv false id [] 0
 | .nvi id,d=>.nv false id [.idx d] 0
 | .yG f c,d=>.yG f (c.mk d)
 | .JJ t c,d=>.JJ t (c.mk d)
 | .agg c,d=>.agg (c.mk d)
 | .pr a b,d=>.pr (a.mk d.1) (b.mk d.2)
 | .un,_=>.un
def S0:Step->Step->Bool
 | .fst,.fst=>true
 | .snd,.snd=>true
 | _,_=>false
def Bv:Path->Path->Bool
 | [],[]=>true
 | a :: p,b :: q=>S0 a b && Bv p q
 | _,_=>false
def zG.take:(p:zG)->z7->(p.den->Option R)->Option R
 | .val t,.data u d,k=>pJ u t d k
 | .qy,.qy,k=>k ()
 | .ref id,.ref vu [] ep,k=>cond (Nat.beq id vu && Nat.beq ep 0) (k ()) none
 | .view id,.view vu [] ep a b,k=>cond (Nat.beq id vu && Nat.beq ep 0) (k (a,b)) none
 | .zu id p,.zu vu p',k=>cond (Nat.beq id vu && Bv p p') (k ()) none
 | .qA id,.qA vu,k=>cond (Nat.beq id vu) (k ()) none
 | .nv id,.nv false vu [] ep,k=>cond (Nat.beq id vu && Nat.beq ep 0) (k ()) none
 | .nvi id,.nv false vu [.idx i] ep,k=>cond (Nat.beq id vu && Nat.beq ep 0) (k i) none
 | .yG f c,.yG g d,k=>cond (Nat.beq f g) (c.take d k) none
 | .JJ f c,.JJ g d,k=>cond (Nat.beq f g) (c.take d k) none
 | .agg c,.agg d,k=>c.take d k
 | .pr a b,.pr x y,k=>a.take x fun d=>b.take y fun e=>k (d,e)
 | .un,.un,k=>k ()
 | _,_,_=>none
inductive yK where
 | row (t:Ty) | cell (p:zG) | map (kt vt:Ty) | nest (t:Ty) | iter (id:Nat) | Jq (p:zG)
@[reducible] def yK.den:yK->Type
 | .row t=>List t.den
 | .cell p=>p.den
 | .map kt vt=>List (kt.den×vt.den)
 | .nest t=>List t.den
 | .iter _=>Int×List Int×Int
 | .Jq p=>p.den
def pF (id:Nat) (n:Int) (left:List Int) (cur:Int):z7:=.jC (.pr (.qA id) (.pr (.data (.int .i64) n) (.pr (.data (.sl false (.int .i64)) left) (.pr (.data (.int .i64) cur) .un))))
def yK.mk:(o:yK)->o.den->Obj
 | .row t,l=>.row t l 0
 | .cell p,d=>.cell (p.mk d)
 | .map kt vt,m=>.map kt vt m
 | .nest t,l=>.nest t l 0 0 none
 | .iter id,d=>.cell (pF id d.1 d.2.1 d.2.2)
 | .Jq p,d=>.cell (.jC (p.mk d))
def zb2 (kt vt Ur Pe:Ty) (m:List (kt.den×vt.den)) (k:List (Ur.den×Pe.den)->Option R):Option R:=
 match Ty.same kt Ur,Ty.same vt Pe with
 | some h,some h'=>k (cast (by rw [h.down,h'.down]) m)
 | _,_=>none
def yK.take:(o:yK)->Obj->(o.den->Option R)->Option R
 | .row t,.row u l ep,k=>cond (Nat.beq ep 0) (pJ (.sl true u) (.sl true t) l k) none
 | .cell p,.cell a,k=>p.take a k
 | .map kt vt,.map Ur Pe m,k=>zb2 Ur Pe kt vt m k
 | .nest t,.nest u l e i none,k=>cond (Nat.beq e 0 && Nat.beq i 0) (pJ (.sl true u) (.sl true t) l k) none
 | .iter id,.cell (.jC (.pr (.qA vu) (.pr (.data (.int .i64) n) (.pr (.data (.sl false (.int .i64)) left) (.pr (.data (.int .i64) cur) .un))))),k=>cond (Nat.beq id vu) (k (n,left,cur)) none
 | .Jq p,.cell (.jC a),k=>p.take a k
 | _,_,_=>none
structure vO where
 zj:List (Nat×zG)
 z6:List yK
@[reducible] def xD:List (Nat×zG)->Type
 | []=>Unit
 | (_,p) :: l=>p.den×xD l
@[reducible] def JN:List yK->Type
 | []=>Unit
 | o :: l=>o.den×JN l
@[reducible] def vO.den (f:vO):Type:=xD f.zj×JN f.z6
def vY:(l:List (Nat×zG))->xD l->List (Nat×z7)
 | [],_=>[]
 | (i,p) :: l,d=>(i,p.mk d.1) :: vY l d.2
def vr:(l:List yK)->JN l->List Obj
 | [],_=>[]
 | o :: l,d=>o.mk d.1 :: vr l d.2
def KG:(l:List (Nat×zG))->List (Nat×z7)->(xD l->Option R)->Option R
 | [],[],k=>k ()
 | (i,p) :: l,(j,a) :: m,k=>cond (Nat.beq i j) (p.take a fun d=>KG l m fun e=>k (d,e)) none
 | _,_,_=>none
def V7:(l:List yK)->List Obj->(JN l->Option R)->Option R
 | [],[],k=>k ()
 | o :: l,x :: m,k=>o.take x fun d=>V7 l m fun e=>k (d,e)
 | _,_,_=>none
def vO.take (f:vO) (sl:List (Nat×z7)) (os:List Obj) (k:f.den->Option R):Option R:=
 KG f.zj sl fun d=>V7 f.z6 os fun e=>k (d,e)
inductive Callee where
 | pure (args:kG) (res:List Ty) (F:args.den->Option (jv res))
 | mut (fin:vO) (jI:List Nat) (zi:vO) (F:fin.den->Option zi.den)
def fits:kG->z7->Bool
 | .val (.fn f _),.yG g _=>Nat.beq f g
 | .val (.fn f _),.data (.fn g _) _=>Nat.beq f g
 | .val t,.data u _=>(Ty.same t u).isSome
 | .yG f c,.yG g d=>Nat.beq f g && fits c d
 | .agg c,.agg d=>fits c d
 | .pr p q,.pr x y=>fits p x && fits q y
 | _,_=>true
def Ob:zG->z7->Bool
 | .val (.fn f _),.yG g _=>Nat.beq f g
 | .val (.fn f _),.data (.fn g _) _=>Nat.beq f g
 | .val t,.data u _=>(Ty.same t u).isSome
 | .val _,.yG _ _=>false
 | .val _,_=>true
 | .qy,.qy=>true
 | .ref _,.ref _ _ _=>true
 | .view _,.view _ _ _ _ _=>true
 | .zu _ _,.zu _ _=>true
 | .qA _,.qA _=>true
 | .nv _,.nv false _ [] _=>true
 | .nvi _,.nv false _ (_ :: _) _=>true
 | .yG f c,.yG g d=>Nat.beq f g && Ob c d
 | .JJ f c,.JJ g d=>Nat.beq f g && Ob c d
 | .agg c,.agg d=>Ob c d
 | .pr p q,.pr x y=>Ob p x && Ob q y
 | .un,.un=>true
 | _,_=>false
def zm6:List (Nat×zG)->z7->Bool
 | [],.un=>true
 | (_,p) :: l,.pr a c=>Ob p a && zm6 l c
 | _,_=>false
def Callee.fits:Callee->z7->Bool
 | .pure p _ _,a=>Go.Kz.fits p a
 | .mut fin _ _ _,a=>zm6 fin.zj a
def GV (a:z7):List Callee->Option Callee
 | []=>none
 | c :: l=>cond (c.fits a) (some c) (GV a l)
abbrev Qq:=List (Nat×Nat)
def yT {I:Type}:List (Nat×I)->Nat->Option I
 | [],_=>none
 | (i,v) :: l,j=>cond (Nat.beq i j) (some v) (yT l j)
def zF {I:Type}:List I->Nat->Option I
 | [],_=>none
 | x :: _,0=>some x
 | _ :: l,n+1=>zF l n
def IT:Qq->Nat->Bool
 | [],_=>false
 | (_,v) :: l,x=>cond (Nat.beq v x) true (IT l x)
def GM (b:Qq) (i id:Nat) (k:Qq->Option R):Option R:=
 match yT b i with
 | some j=>cond (Nat.beq j id) (k b) none
 | none=>cond (IT b id) none (k ((i,id) :: b))
def vF (J:St):(p:kG)->(a:z7)->Qq->(p.den->Qq->Option R)->Option R
 | .val t,a,b,k=>asData J 20 a t fun d=>k d b
 | .ref i,.ref id [] ep,b,k=>
  match J.z6 id with
  | some (.row _ _ e)=>cond (Nat.beq e ep) (GM b i id fun b=>k () b) none
  | _=>none
 | .zu i,.zu id [],b,k=>GM b i id fun b=>k () b
 | .yG f c,.yG g d,b,k=>cond (Nat.beq f g) (vF J c d b k) none
 | .agg c,.agg d,b,k=>vF J c d b k
 | .pr p q,.pr x y,b,k=>vF J p x b fun dx b=>vF J q y b fun dy b=>k (dx,dy) b
 | .un,.un,b,k=>k () b
 | _,_,_,_=>none
def St.only (J:St) (p:Nat->Bool):St:={ J with z6:=fun i=>cond (p i) (J.z6 i) none }
def St.gG (J:St) (n:Nat):List Obj->St
 | []=>J
 | o :: os=>(J.setObj n o).gG (n+1) os
def zx:(ts:List Ty)->jv ts->Nat->z7×List Obj
 | [],_,_=>(.jC .un,[])
 | [t],d,n=>zy t d n
 | t :: u :: ts,(d,ds),n=>
  let x:=zy t d n;let y:=chain (u :: ts) ds (n+x.2.length)
  (.jC (.pr x.1 y.1),x.2++y.2)
where chain:(ts:List Ty)->jv ts->Nat->z7×List Obj
 | [],_,_=>(.un,[])
 | [t],d,n=>let x:=zy t d n;(.pr x.1 .un,x.2)
 | t :: u :: ts,(d,ds),n=>
  let x:=zy t d n;let y:=chain (u :: ts) ds (n+x.2.length)
  (.pr x.1 y.1,x.2++y.2)
inductive Conv where
 | row (t:Ty) | dat (t:Ty) | Jq
structure Cut where
 live:List Nat
 conv:List (Nat×Option Path×Conv)
def z7.ids:z7->List Nat
 | .ref i _ _ | .view i _ _ _ _ | .zu i _ | .vW i _ _ | .qA i | .nv _ i _ _=>[i]
 | .yG _ c | .JJ _ c | .agg c | .jC c=>c.ids
 | .pr a b=>a.ids++b.ids
 | _=>[]
def z7.vU (z6:Nat->Option Obj) (Y:Nat->Option Nat):z7->Option z7
 | .ref i p ep=>match p,z6 i with
  | [],some (.row _ _ e)=>cond (Nat.beq e ep) ((Y i).map fun j=>.ref j [] 0) none
  | _,_=>none
 | .view i p ep a b=>match p,z6 i with
  | [],some (.row _ _ e)=>cond (Nat.beq e ep) ((Y i).map fun j=>.view j [] 0 a b) none
  | _,_=>none
 | .zu i p=>(Y i).map fun j=>.zu j p
 | .qA i=>(Y i).map fun j=>.qA j
 | .nv pt i p ep=>match pt,z6 i with
  | false,some (.nest _ _ e i' none)=>cond (Nat.beq (F8 false p e i') ep) ((Y i).map fun j=>.nv false j p 0) none
  | _,_=>none
 | .yG f c=>(c.vU z6 Y).map fun c=>.yG f c
 | .JJ f c=>(c.vU z6 Y).map fun c=>.JJ f c
 | .agg c=>(c.vU z6 Y).map fun c=>.agg c
 | .pr a b=>match a.vU z6 Y,b.vU z6 Y with
  | some a,some b=>some (.pr a b)
  | _,_=>none
 | .un=>some .un
 | .qy=>some .qy
 | .data t d=>some (.data t d)
 | _=>none
def xp (z6:Nat->Option Obj) (Y:Nat->Option Nat):z7->Option z7
 | .jC c=>(c.vU z6 Y).map .jC
 | a=>a.vU z6 Y
def Obj.vU (z6:Nat->Option Obj) (Y:Nat->Option Nat):Obj->Option Obj
 | .row t l _=>some (.row t l 0)
 | .cell a=>(xp z6 Y a).map .cell
 | .map k v m=>some (.map k v m)
 | .nest t l _ _ none=>some (.nest t l 0 0 none)
 | .nest _ _ _ _ (some _)=>none
def yD (x:Nat):List Nat->Bool
 | []=>false
 | y :: l=>cond (Nat.beq y x) true (yD x l)
def qZ (x:Nat):List Nat->Nat->Option Nat
 | [],_=>none
 | y :: l,i=>cond (Nat.beq y x) (some i) (qZ x l (i+1))
def k8 (z6:Nat->Option Obj):Nat->List Nat->List Nat->List Nat
 | 0,_,seen=>seen
 | _+1,[],seen=>seen
 | n+1,x :: todo,seen=>
  cond (yD x seen) (k8 z6 n todo seen)
   (match z6 x with
    | some (.cell a)=>k8 z6 n (a.ids++todo) (seen++[x])
    | _=>k8 z6 n todo (seen++[x]))
def St.of (sl:List (Nat×z7)) (os:List Obj):St:=⟨yT sl,zF os,os.length⟩
def QA (z6:Nat->Option Obj) (Y:Nat->Option Nat):List (Nat×z7)->Option (List (Nat×z7))
 | []=>some []
 | (i,a) :: l=>match a.vU z6 Y,QA z6 Y l with
  | some a,some l=>some ((i,a) :: l)
  | _,_=>none
def YK (Y:Nat->Option Nat) (z6:Nat->Option Obj):List Nat->Option (List Obj)
 | []=>some []
 | i :: l=>match (z6 i).bind (·.vU z6 Y),YK Y z6 l with
  | some o,some l=>some (o :: l)
  | _,_=>none
def xe (J:St):List Nat->Option (List (Nat×z7))
 | []=>some []
 | i :: l=>match J.zj i,xe J l with
  | some a,some l=>some ((i,a) :: l)
  | _,_=>none
def z7.val:z7->Bool
 | .agg (.pr _ _) | .agg .un=>true
 | .agg _ | .pr _ _ | .un | .jC _=>false
 | _=>true
def L1 (J:St) (x:z7) (k:z7->St->Option R):Option R:=match x with
 | .view id [] ep a b=>match J.z6 id with
  | some (.row t l e)=>cond (Nat.beq e ep) (k (.ref id [] (e+1)) (J.setObj id (.row t (sub l a b) (e+1)))) none
  | _=>none
 | x=>k x J
def XT (J:St) (a:z7):Conv->(z7->St->Option R)->Option R
 | .row t,k=>match a with
  | .qy=>cond t.zV (k (.ref J.next [] 0) { J.setObj J.next (.row t [] 0) with next:=J.next+1 }) none
  | a=>L1 J a k
 | .dat t,k=>cond (t.zV && a.val && a.sk.same t.sk) (j6 20 a t J fun d J=>k (.data t d) J) none
 | .Jq,_=>none
def zb1 (J:St) (i:Nat) (k:St->Option R):Option R:=match J.zj i with
 | some (.zu id _)=>match J.z6 id with
  | some (.cell (.jC _))=>k J
  | some (.cell a)=>cond (z7.jC a).wg (k (J.setObj id (.cell (.jC a)))) none
  | _=>none
 | _=>none
def Jl:List (Nat×Option Path×Conv)->St->(St->Option R)->Option R
 | [],J,k=>k J
 | (i,none,c) :: l,J,k=>
  match J.zj i with
  | some a=>cond a.val (XT J a c fun a J=>Jl l (J.set i a) k) none
  | none=>none
 | (i,some p,c) :: l,J,k=>match c with
  | .Jq=>zb1 J i fun J=>Jl l J k
  | c=>match J.zj i with
   | some (.zu id _)=>YQ J id p fun a=>cond a.val (XT J a c fun a J=>YQ J id [] fun whole=>uU a whole p fun whole=>Jl l (J.setObj id (.cell whole)) k) none
   | _=>none
def Iy (l:List (Nat×z7)) (J:St) (k:List (Nat×z7)->List Obj->Option R):Option R:=
 let ids:=k8 J.z6 100 (l.flatMap fun x=>x.2.ids) [];let Y:=fun i=>qZ i ids 0
 match QA J.z6 Y l,YK Y J.z6 ids with
 | some l',some os=>k l' os
 | _,_=>none
def GW (cut:Cut) (J:St) (k:List (Nat×z7)->List Obj->Option R):Option R:=
 Jl cut.conv J fun J=>match xe J cut.live with
  | some l=>Iy l J k
  | none=>none
def norm (cut:Cut) (J:St) (k:St->Option R):Option R:=GW cut J fun sl os=>k (St.of sl os)
inductive vp where
 | normal | exit (id:Nat) | ret
abbrev A3:=(R:Type)->List (Nat×z7)->List Obj->(vp->St->Option R)->Option R
structure Ctx where
 fuel:Nat
 tt:Nat->Option Ty
 mt:Nat->Option (Ty×Ty)
 ntmps:Nat
 env:Nat->List Callee
 cut:Nat->Option Cut
 z18:Nat->Nat->Option Cut
 res:Cut
 own:Nat->Option Ty
 lp:Nat->Option A3
 eqs:Nat->Bool:=fun _=>false
 ct:Nat->Bool:=fun _=>false
 ms:Nat->String->Option (Nat×Option Nat):=fun _ _=>none
def Ae (c:Ctx) (d:Option Nat) (t:Nat):Option Ty:=
 match d.bind c.own with
 | some u=>match c.tt t with
  | some v=>match Ty.same u.ro v.ro with
   | some _=>some u
   | none=>none
  | none=>none
 | none=>c.tt t
def zm4 (c:Ctx) (d:Option Nat):Bool:=match d.bind c.own with
 | some (.sl false _)=>true
 | _=>false
def ev (J:St):Operand->Option z7
 | .tmp t=>J.zj t
 | .const (.int k n)=>cond (decide (k.min<=n) && decide (n<=k.max)) (some (.data (.int k) n)) none
 | .const (.bool b)=>some (.data .bool b)
 | .const (.string s)=>cond (Nat.ble s.size 100000) (some (.data .str s.data.toList)) none
 | .const (.slice none 0 0)=>some .qy
 | .func f=>some (.yG f .un)
 | .global g=>match tab g with
  | some e=>some (.data (.ptr (.arr e.n e.t)) e.l)
  | none=>none
 | _=>none
def RZ (J:St):List Operand->Option z7
 | []=>some .un
 | x :: l=>match ev J x,RZ J l with
  | some a,some c=>some (.pr a c)
  | _,_=>none
def K7:z7->z7->z7
 | .pr a b,c=>.pr a (K7 b c)
 | _,c=>c
def Tp:z7->Bool
 | .zu _ _ | .vW _ _ _ | .data (.ptr _) _=>true
 | _=>false
def holds (J:St):z7->Bool
 | .data (.ptr _) _=>true
 | .zu id _=>match J.z6 id with
  | some (.cell _)=>true
  | _=>false
 | .vW id _ ep=>match J.z6 id with
  | some (.row _ _ e)=>Nat.beq e ep
  | _=>false
 | .nv true id _ ep=>match J.z6 id with
  | some (.nest _ _ _ i none)=>Nat.beq i ep
  | _=>false
 | _=>false
def qh:z7->Bool
 | .un=>true
 | .pr (.zu _ _) c=>qh c
 | .pr (.data (.ptr _) _) c=>qh c
 | _=>false
def St.qe (J:St) (c:Ctx) (d:Option Nat) (v:z7) (k:St->Option R):Option R:=match d with
 | some i=>cond (Nat.blt i c.ntmps) (k (J.set i v)) none
 | none=>k J
def L7 (op:BinOp) (k:IntKind) (a b:Int) (f:z7->Option R):Option R:=
 match op with
 | .add=>f (.data (.int k) (k.wrap (a+b)))
 | .sub=>f (.data (.int k) (k.wrap (a-b)))
 | .mul=>f (.data (.int k) (k.wrap (a*b)))
 | .quo=>cond (b == 0) none (f (.data (.int k) (k.wrap (a.tdiv b))))
 | .rem=>cond (b == 0) none (f (.data (.int k) (a.tmod b)))
 | .and=>f (.data (.int k) (k.wrap (BitVec.ofInt k.bits a &&& BitVec.ofInt k.bits b).toNat))
 | .or=>f (.data (.int k) (k.wrap (BitVec.ofInt k.bits a ||| BitVec.ofInt k.bits b).toNat))
 | .xor=>f (.data (.int k) (k.wrap (BitVec.ofInt k.bits a ^^^ BitVec.ofInt k.bits b).toNat))
 | .andNot=>f (.data (.int k) (k.wrap (BitVec.ofInt k.bits a &&& ~~~BitVec.ofInt k.bits b).toNat))
 | .eql=>f (.data .bool (a == b))
 | .neq=>f (.data .bool (a != b))
 | .lss=>f (.data .bool (decide (a < b)))
 | .leq=>f (.data .bool (decide (a<=b)))
 | .gtr=>f (.data .bool (decide (a > b)))
 | .geq=>f (.data .bool (decide (a ≥ b)))
 | _=>none
def U9 (op:BinOp) (k:IntKind) (a b:Int) (f:z7->Option R):Option R:=
 match op with
 | .shl=>cond (decide (b < 0)) none (f (.data (.int k) (k.wrap (a*2 ^ (min b.toNat k.bits)))))
 | .shr=>cond (decide (b < 0)) none (f (.data (.int k) (a.fdiv (2 ^ (min b.toNat k.bits)))))
 | _=>none
def Pj:BinOp->Bool
 | .shl | .shr=>true
 | _=>false
def Nz (op:BinOp) (a b:Bool) (f:z7->Option R):Option R:=
 match op with
 | .eql=>f (.data .bool (a == b))
 | .neq=>f (.data .bool (!(a == b)))
 | _=>none
def j7:Ty->Bool
 | .int _ | .bool | .str=>true
 | _=>false
def yI:(t:Ty)->t.den->t.den->Bool
 | .int _,a,b=>decide (a=b)
 | .bool,a,b=>a == b
 | .str,a,b=>decide (a=b)
 | _,_,_=>false
def wA {I:Type} (f:I->I->Bool):List I->List I->Bool
 | [],[]=>true
 | x :: l,y :: m=>cond (f x y) (wA f l m) false
 | _,_=>false
def yJ:Ty->Bool
 | .unit=>true
 | .pair a b=>j7 a && yJ b
 | .arr _ a=>j7 a
 | _=>false
def PS:(t:Ty)->t.den->t.den->Bool
 | .unit,_,_=>true
 | .pair a b,(x,u),(y,v)=>yI a x y && PS b u v
 | .arr _ a,x,y=>wA (yI a) x y
 | _,_,_=>false
def kTy:Ty->Bool
 | .pair a b=>yJ (.pair a b)
 | t=>j7 t
def Wp (t:Ty):t.den->t.den->Bool:=cond (j7 t) (yI t) (PS t)
def z1a (op:BinOp) (b:Bool) (f:z7->Option R):Option R:=
 match op with
 | .eql=>f (.data .bool b)
 | .neq=>f (.data .bool (!b))
 | _=>none
def L6 (op:BinOp) (a b:List UInt8) (f:z7->Option R):Option R:=
 match op with
 | .add=>qR (decide (a.length+b.length<=room)) (f (.data .str (a++b)))
 | .eql=>f (.data .bool (decide (a=b)))
 | .neq=>f (.data .bool (!decide (a=b)))
 | _=>none
def zme (J:St) (q:Bool) (t:Option Ty) (op:BinOp) (x y:z7) (f:z7->Option R):Option R:=
 match x,y with
 | .data (.int k) a,.data (.int j) b=>cond (Pj op) (U9 op k a b f) (match decEq k j with
   | isTrue _=>L7 op k a b f
   | isFalse _=>none)
 | .data .bool a,.data .bool b=>match t with
  | some .bool=>Nz op a b f
  | _=>none
 | .data .str a,.data .str b=>L6 op a b f
 | x,y=>match t with
  | some u=>cond (q && yJ u && x.val && y.val) (asData J 20 x u fun d=>asData J 20 y u fun e=>z1a op (PS u d e) f) none
  | none=>none
def unK (op:UnOp) (x:z7) (f:z7->Option R):Option R:=
 match op,x with
 | .not,.data .bool a=>f (.data .bool (!a))
 | .neg,.data (.int k) a=>f (.data (.int k) (k.wrap (0-a)))
 | .xor,.data (.int k) a=>f (.data (.int k) (k.wrap (BitVec.ofInt k.bits (if k.signed then -1 else k.max) ^^^ BitVec.ofInt k.bits a).toNat))
 | _,_=>none
def zik (J:St) (x:z7) (f:Int->Option R):Option R:=
 match x with
 | .qy=>f 0
 | .data (.sl _ _) l=>f (l.length:Int)
 | .ref id p ep=>uN J id p ep fun _ l=>f (l.length:Int)
 | .view id p ep a b=>uN J id p ep fun _ _=>f (b-a)
 | .nv false id p ep=>UH J id p ep fun _ l=>f (l.length:Int)
 | _=>none
def jW {I Z:Type} (eq:I->I->Bool):List (I×Z)->I->Option Z
 | [],_=>none
 | (k,v) :: m,x=>cond (eq x k) (some v) (jW eq m x)
def js {I Z:Type} (eq:I->I->Bool):List (I×Z)->I->Z->List (I×Z)
 | [],x,y=>[(x,y)]
 | (k,v) :: m,x,y=>cond (eq x k) ((k,y) :: m) ((k,v) :: js eq m x y)
def kJ {I Z:Type} (eq:I->I->Bool):List (I×Z)->I->Nat
 | [],_=>0
 | (k,_) :: m,x=>cond (eq x k) 0 (kJ eq m x+1)
def UR {I Z:Type}:List (I×Z)->Nat->Z->List (I×Z)
 | [],_,_=>[]
 | (k,_) :: m,0,y=>(k,y) :: m
 | e :: m,n+1,y=>e :: UR m n y
def IG (J:St) (mt:Option (Ty×Ty)) (a:z7) (f:(id:Nat)->(kt vt:Ty)->List (kt.den×vt.den)->Option R):Option R:=
 match a,mt with
 | .qA id,some (Ur,Pe)=>match J.z6 id with
  | some (.map kt vt m)=>cond ((Ty.same kt Ur).isSome && (Ty.same vt Pe).isSome && kTy kt && vt.qn) (f id kt vt m) none
  | _=>none
 | _,_=>none
def RL:Ty->Ty
 | .tree k=>.pair (pn k) (pf k)
 | t=>t
def S3 (J:St) (u:Ty) (x:z7) (lo:Int) (hi:Option Int) (f:z7->Option R):Option R:=
 match x with
 | .qy=>qR (decide (lo=0) && decide (hi.getD 0=0)) (f .qy)
 | .data (.sl false t) l=>cond ((RL t).sk.same u.sk) (qR (decide (0<=lo) && decide (lo<=hi.getD (l.length:Int)) && decide (hi.getD (l.length:Int)<=(l.length:Int))) (f (.data (.sl false t) (sub l lo (hi.getD (l.length:Int)))))) none
 | .ref id [] ep=>uN J id [] ep fun t l=>cond (t.sk.same u.sk) (qR (decide (0<=lo) && decide (lo<=hi.getD (l.length:Int)) && decide (hi.getD (l.length:Int)<=(l.length:Int))) (f (.view id [] ep lo (hi.getD (l.length:Int))))) none
 | _=>none
def zr (g:Int->Int->Int) (k:IntKind) (x:Int):z7->(Int->Option R)->Option R
 | .un,f=>f x
 | .pr (.data (.int j) y) c,f=>match decEq k j with
  | isTrue _=>zr g k (g x y) c f
  | isFalse _=>none
 | _,_=>none
def xW (x y:Int):Int:=if y > x then y else x
def uy (x y:Int):Int:=if y < x then y else x
def Pv (J:St) (id:Nat):Nat:=match J.z6 id with
 | some (.nest _ _ _ i _)=>i
 | _=>0
def Mv (J:St) (id:Nat):Bool:=match J.z6 id with
 | some (.nest _ _ _ _ (some _))=>true
 | _=>false
def TL (J:St) (id:Nat) (ep:Nat) (u:Ty) (i:Int) (f:z7->Option R):Option R:=
 match J.z6 id with
 | some (.nest t l e n (some _))=>cond (Nat.beq e ep && t.sk.same u.sk) (qR (gU l i) (f (.nv true id [.idx i] n))) none
 | _=>none
def noP:Path->Bool
 | []=>true
 | _=>false
def z4y:(t:Ty)->t.den->z7
 | .tree k,x=>.data (.ptr (.pair (pn k) (pf k))) (vq k x)
 | t,d=>.data (.ptr t) d
def TQ (J:St) (u:Ty) (x:z7) (i:Int) (f:z7->Option R):Option R:=
 match x,u with
 | .data (.sl _ t) l,.sl _ u=>cond ((RL t).sk.same u.sk) ((idx l i).bind fun d=>f (z4y t d)) none
 | .data (.ptr (.arr n t)) l,.arr m u=>cond (Nat.beq n m && t.sk.same u.sk) ((z6k l i).bind fun d=>f (.data (.ptr t) d)) none
 | .ref id p ep,.sl _ u=>uN J id p ep fun t l=>cond (t.sk.same u.sk) (qR (gU l i) (f (.vW id (p++[.idx i]) ep))) none
 | .view id p ep a b,.sl _ u=>uN J id p ep fun t _=>cond (t.sk.same u.sk) (qR (decide (0<=i) && decide (i < b-a)) (f (.vW id (p++[.idx (a+i)]) ep))) none
 | .nv false id p ep,.sl _ u=>cond (noP p && Mv J id) (TL J id ep u i f) (UH J id p ep fun t l=>cond (t.sk.same u.sk) (qR (gU l i) (f (.nv true id (p++[.idx i]) (Pv J id)))) none)
 | .zu id p,.arr m u=>Jv J id p fun a=>match a with
  | .data (.arr n t) l=>cond (Nat.beq n m && t.sk.same u.sk) (qR (gU l i) (f (.zu id (p++[.idx i])))) none
  | _=>none
 | .vW id p ep,.arr m u=>match p with
  | []=>none
  | s :: q=>p6 J id (s :: q) ep fun a l=>match a,l with
   | .arr n t,l=>cond (Nat.beq n m && t.sk.same u.sk) (qR (gU l i) (f (.vW id (s :: q++[.idx i]) ep))) none
   | _,_=>none
 | _,_=>none
def BA (J:St) (x:z7) (f:z7->Option R):Option R:=
 match x with
 | .data (.ptr t) d=>f (.data t d)
 | .vW id p ep=>match p with
  | []=>none
  | s :: q=>p6 J id (s :: q) ep fun u d=>f (.data u d)
 | .zu id p=>Jv J id p f
 | .nv true id p ep=>Wq J true id p ep fun u d=>cond u.zV (f (.data u d)) (match u with
  | .sl true _=>f (.nv false id p ep)
  | _=>none)
 | _=>none
def Wk:Path->Option (Path×Int×Path)
 | []=>none
 | s :: p=>match Wk p with
  | some (q,j,r)=>some (s :: q,j,r)
  | none=>match s with
   | .idx j=>some ([],j,p)
   | _=>none
def xY:Path->Path->Bool
 | [],[]=>true
 | .fst :: p,.fst :: q=>xY p q
 | .snd :: p,.snd :: q=>xY p q
 | .idx i :: p,.idx j :: q=>decide (i=j) && xY p q
 | _,_=>false
def jk:Ty->Path->Option Ty
 | .sl true v,[]=>some v
 | .pair a _,.fst :: p=>jk a p
 | .pair _ b,.snd :: p=>jk b p
 | .arr _ t,.idx _ :: p=>jk t p
 | .sl true t,.idx _ :: p=>jk t p
 | _,_=>none
def Ew (t:Ty):Path->Option Ty
 | .idx _ :: p=>jk t p
 | _=>none
def uv (J:St) (a:z7) (v:Ty) (k:List v.den->St->Option R):Option R:=match a with
 | .qy=>k [] J
 | .ref id [] ep=>match J.z6 id with
  | some (.row t l e)=>cond (Nat.beq e ep) (pJ (.sl true t) (.sl true v) l fun l=>k l (J.kill id)) none
  | _=>none
 | _=>none
def XQ (J:St) (id:Nat) (t:Ty) (l:List t.den) (e i:Nat) (p:Path) (a:z7) (f:St->Option R):Option R:=
 match Ew t p with
 | some v=>cond v.zV (uv J a v fun d J=>jM (.sl true t) l p (.sl true v) d fun l=>f (J.setObj id (.nest t l e (i+1) none))) none
 | none=>none
def CL (J:St) (id:Nat) (p:Path) (ep:Nat) (a:z7) (f:St->Option R):Option R:=
 match J.z6 id with
 | some (.nest t l e i none)=>cond (Nat.beq i ep)
  (cond ((Ew t p).isSome) (XQ J id t l e i p a f)
   (match Wk p with
    | some (s :: p,j,q)=>za (.sl true t) l (s :: p) fun v l1=>match v,l1 with
     | .sl true v,l1=>cond v.zV (za (.sl true v) l1 (.idx j :: q) fun u _=>j6 20 a u J fun d J=>match J.z6 id with
      | some (.nest _ _ _ _ none)=>jM (.sl true v) l1 (.idx j :: q) u d fun l1=>jM (.sl true t) l (s :: p) (.sl true v) l1 fun l=>f (J.setObj id (.nest t l e i none))
      | _=>none) none
     | _,_=>none
    | _=>none)) none
 | some (.nest t l e i (some h))=>cond (Nat.beq i ep) (qR (xY p h) (XQ J id t l e i p a f)) none
 | _=>none
def Rr (J:St) (x a:z7) (f:St->Option R):Option R:=
 match x with
 | .vW id p ep=>match p with
  | []=>none
  | s :: q=>p6 J id (s :: q) ep fun u _=>j6 20 a u J fun d J=>
   match J.z6 id with
   | some (.row t l e)=>cond (Nat.beq e ep) (jM (.sl true t) l (s :: q) u d fun l=>f (J.setObj id (.row t l e))) none
   | _=>none
 | .zu id p=>match J.z6 id with
  | some (.cell whole)=>cond whole.wk none (uM whole p fun old=>cond (old.sk.same a.sk) (uU a whole p fun whole=>f (J.setObj id (.cell whole))) none)
  | _=>none
 | .nv true id p ep=>CL J id p ep a f
 | _=>none
def z7.IU:z7->Bool
 | .nv _ _ _ _=>true
 | _=>false
def GQ (J:St) (t:Ty) (x:z7) (f:List t.den->Option R):Option R:=cond (t.zV && x.val && !x.IU) (asData J 20 x (.sl false t) f) none
def zg2 (J:St):z7->Option Ty
 | .data (.sl _ t) _=>some t
 | .ref id p ep=>uN J id p ep fun t _=>some t
 | .view id p ep _ _=>uN J id p ep fun t _=>some t
 | .nv false id p ep=>UH J id p ep fun t _=>some t
 | _=>none
def Ty.wI:Ty->Bool
 | .sl true t=>t.wI
 | .pair a b=>a.wI && b.wI
 | .arr _ t=>t.wI
 | t=>t.qn
def z5y (J:St) (x:z7) (f:(t:Ty)->(id e i:Nat)->t.den->Option R):Option R:=match x with
 | .nv false id [] ep=>match J.z6 id with
  | some (.nest t [d] e i none)=>cond (Nat.beq e ep && t.wI) (f t id e i d) none
  | _=>none
 | _=>none
def K6 (J:St) (u:Ty) (s x:z7) (f:z7->St->Option R):Option R:=
 match s with
 | .qy=>z5y J x fun t id e i d=>cond (t.sk.same u.sk) (f (.nv false id [] (e+1)) (J.setObj id (.nest t [d] (e+1) (i+1) none))) none
 | .nv false id [] ep=>match J.z6 id with
  | some (.nest t l e i none)=>cond (Nat.beq e ep && t.sk.same u.sk) (z5y J x fun t' vu _ _ d=>cond (Nat.beq id vu) none (pJ t' t d fun d=>qR (decide (l.length+1<=room)) (f (.nv false id [] (e+1)) ((J.kill vu).setObj id (.nest t (l++[d]) (e+1) (i+1) none))))) none
  | _=>none
 | _=>none
def Nj (J:St) (n:Nat) (u:Ty) (s x:z7) (f:z7->St->Option R):Option R:=
 match s with
 | .qy=>cond x.IU (K6 J u .qy x f) <| match zg2 J x with
  | some t=>cond (t.sk.same u.sk) (GQ J t x fun m=>qR (decide (m.length<=room)) (f (.ref n [] 1) (J.setObj n (.row t m 1)))) none
  | none=>none
 | .ref id [] ep=>match J.z6 id with
  | some (.row t l e)=>cond (Nat.beq e ep && t.sk.same u.sk) (GQ J t x fun m=>qR (decide (l.length+m.length<=room)) (f (.ref id [] (e+1)) (J.setObj id (.row t (l++m) (e+1))))) none
  | _=>none
 | .view id [] ep a b=>match J.z6 id with
  | some (.row t l e)=>cond (Nat.beq e ep && t.sk.same u.sk) (GQ J t x fun m=>qR (decide ((sub l a b).length+m.length<=room)) (f (.ref id [] (e+2)) (J.setObj id (.row t (sub l a b++m) (e+2))))) none
  | _=>none
 | .nv false id [] ep=>K6 J u (.nv false id [] ep) x f
 | .nv false id (q :: p) ep=>match J.z6 id with
  | some (.nest t l e i none)=>cond (Nat.beq i ep) (za (.sl true t) l (q :: p) fun v l1=>match v,l1 with
   | .sl true v,l1=>cond (v.sk.same u.sk) (GQ J v x fun m=>qR (decide (l1.length+m.length<=room)) (f (.ref n [] 1) ((J.setObj id (.nest t l e i (some (q :: p)))).setObj n (.row v (l1++m) 1)))) none
   | _,_=>none) none
  | _=>none
 | _=>none
def parts (J:St) (t:Ty):List (Nat×Operand)->(List t.den->St->Option R)->Option R
 | [],k=>k [] J
 | (_,x) :: l,k=>match ev J x with
  | some a=>cond a.val (j6 20 a t J fun d J=>parts J t l fun ds J=>k (d :: ds) J) none
  | none=>none
def Kd:Ty->Bool
 | .pair t (.pair (.sl true v) .unit)=>t.zV && v.zV
 | _=>false
def Xg (J:St) (a:z7) (u:Ty) (k:u.den->St->Option R):Option R:=match a,u,k with
 | .agg (.pr x (.pr y .un)),.pair t (.pair (.sl true v) .unit),k=>cond (t.zV && v.zV && x.val) (j6 20 x t J fun d J=>uv J y v fun l J=>k (d,l,()) J) none
 | _,_,_=>none
def gE (J:St):Ty->Nat->List (Nat×Operand)->Option z7
 | .unit,_,[]=>some .un
 | .pair a b,i,[]=>match p8 a,gE J b (i+1) [] with
  | some z,some c=>some (.pr z c)
  | _,_=>none
 | .pair a b,i,(j,x) :: l=>cond (Nat.beq i j)
   (match ev J x,gE J b (i+1) l with
    | some v,some c=>cond v.val (some (.pr v c)) none
    | _,_=>none)
   (match p8 a,gE J b (i+1) ((j,x) :: l) with
    | some z,some c=>some (.pr z c)
    | _,_=>none)
 | _,_,_=>none
def jZ (t:Ty):z7->(List t.den->Option R)->Option R
 | .un,k=>k []
 | .pr (.data u d) c,k=>pJ u t d fun d=>jZ t c fun l=>k (d :: l)
 | _,_=>none
def pT (J:St) (u:Ty):Nat->Nat->List (Nat×Operand)->(List u.den->Option R)->Option R
 | 0,_,[],k=>k []
 | n+1,i,[],k=>match u.zero with
  | some z=>pT J u n (i+1) [] fun l=>k (z :: l)
  | none=>none
 | n+1,i,(j,x) :: ps,k=>cond (Nat.beq i j)
   (match ev J x with
    | some (.data t d)=>pJ t u d fun d=>pT J u n (i+1) ps fun l=>k (d :: l)
    | _=>none)
   (match u.zero with
    | some z=>pT J u n (i+1) ((j,x) :: ps) fun l=>k (z :: l)
    | none=>none)
 | 0,_,_ :: _,_=>none
def xy:Nat->List (Nat×Operand)->Bool
 | _,[]=>true
 | i,(j,_) :: l=>Nat.beq i j && xy (i+1) l
def qV:Nat->Path
 | 0=>[.fst]
 | n+1=>.snd :: qV n
def zae (J:St) (id:Nat) (p:Path) (ep:Nat) (u:Ty) (i:Nat) (f:z7->Option R):Option R:=match p,J.z6 id with
 | [.idx j],some (.nest t _ _ n (some _))=>cond (Nat.beq n ep && t.sk.same u.sk && (vz u (qV i)).isSome) (f (.nv true id ([.idx j]++qV i) ep)) none
 | _,_=>none
def z0d (J:St) (u:Ty) (x:z7) (i:Nat) (f:z7->Option R):Option R:=
 match x with
 | .data (.ptr t) d=>cond (t.sk.same u.sk) (za t d (qV i) fun u e=>f (.data (.ptr u) e)) none
 | .zu id p=>Jv J id p fun a=>cond (a.sk.same u.sk && (vz u (qV i)).isSome) (f (.zu id (p++qV i))) none
 | .vW id p ep=>match p with
  | []=>none
  | s :: q=>p6 J id (s :: q) ep fun t _=>cond (t.sk.same u.sk && (vz u (qV i)).isSome) (f (.vW id (s :: q++qV i) ep)) none
 | .nv true id p ep=>cond (Mv J id) (zae J id p ep u i f) (Wq J true id p ep fun t _=>cond (t.sk.same u.sk && (vz u (qV i)).isSome) (f (.nv true id (p++qV i) ep)) none)
 | _=>none
def Ty.flat:Ty->Bool
 | .sl true t=>t.qn
 | .pair a b=>a.flat && b.flat
 | t=>t.qn
def pR:List Ty->Bool
 | []=>true
 | t :: ts=>t.flat && pR ts
def wv:z7->Bool
 | .ref _ _ _ | .view _ _ _ _ _ | .zu _ _ | .vW _ _ _ | .qA _ | .nv _ _ _ _=>false
 | .yG _ c | .JJ _ c | .agg c | .jC c=>wv c
 | .pr a b=>wv a && wv b
 | _=>true
def jc:z7->Bool
 | .pr a c=>a.val && jc c
 | .un=>true
 | _=>false
def kq:kG->Bool
 | .pr (.val _) q=>kq q
 | .un=>true
 | _=>false
def gC:z7->Bool
 | .pr a c=>a.val && !a.sk.isAgg && gC c
 | .un=>true
 | _=>false
def K1 (g args:z7):Option (Nat×z7):=match g with
 | .yG fid cap=>cond (gC cap) (some (fid,K7 args cap)) none
 | .data (.fn fid t) d=>cond (gC (j5 t d) && (j5 t d).sk.same t.sk) (some (fid,K7 args (j5 t d))) none
 | _=>none
def K2 (J:St) (n:Nat) (all:z7) (p:kG) (res:List Ty) (F:p.den->Option (jv res)) (f:z7->St->Option R):Option R:=
 cond (kq p && jc all && (pR res || wv all)) (vF J p all [] fun d _=>(F d).bind fun r=>
   let x:=zx res r n
   cond (Nat.ble x.2.length 8) (f x.1 (J.gG n x.2)) none) none
def gW:(p:kG)->(all:z7)->St->(z7->St->Option R)->Option R
 | .pr (.val t) q,.pr a c,J,k=>cond (a.val && t.zV && a.sk.same t.sk) (j6 20 a t J fun d J=>gW q c J fun c J=>k (.pr (.data t d) c) J) none
 | .un,.un,J,k=>k .un J
 | _,_,_,_=>none
def Z8 (J:St) (n:Nat) (all:z7) (p:kG) (res:List Ty) (F:p.den->Option (jv res)) (f:z7->St->Option R):Option R:=
 cond (pR res || wv all) (K2 J n all p res F f) (gW p all J fun all J=>K2 J n all p res F f)
def j9:z7->Nat->Option z7
 | .pr a _,0=>some a
 | .pr _ b,n+1=>j9 b n
 | _,_=>none
def gr (Jr:St) (z6:Nat->Option Obj) (Y:Nat->Option Nat):(l:List (Nat×zG))->z7->(xD l->Option R)->Option R
 | [],.un,k=>k ()
 | (_,.val t) :: l,.pr a c,k=>asData Jr 20 a t fun d=>gr Jr z6 Y l c fun e=>k (d,e)
 | (_,p) :: l,.pr a c,k=>match a.vU z6 Y with
  | some a'=>p.take a' fun d=>gr Jr z6 Y l c fun e=>k (d,e)
  | none=>none
 | _,_,_=>none
def zG.isVal:zG->Bool
 | .val _=>true
 | _=>false
def p4:List (Nat×zG)->z7->List Nat
 | (_,p) :: l,.pr a c=>cond p.isVal (p4 l c) (a.ids++p4 l c)
 | _,_=>[]
def ZA:List (Nat×zG)->z7->Bool
 | (_,p) :: l,.pr a c=>(!p.isVal || wv a) && ZA l c
 | _,_=>true
def Xr (l:List (Nat×zG)):List Nat->Bool
 | []=>true
 | i :: a=>(match zF l i with
  | some (_,p)=>!p.isVal
  | none=>false) && Xr l a
def Us:List (Nat×zG)->Nat->Bool
 | [],_=>true
 | (i,_) :: l,n=>Nat.beq i n && Us l (n+1)
def zG.flat:zG->Bool
 | .val t=>t.qn
 | .yG _ c | .JJ _ c | .agg c=>c.flat
 | .pr a b=>a.flat && b.flat
 | _=>true
def yK.flat:yK->Bool
 | .row t=>t.qn
 | .cell p=>p.flat
 | .nest t=>t.wI
 | .map kt vt=>kt.qn && vt.qn
 | .iter _=>false
 | .Jq _=>false
def pC:List (Nat×zG)->Bool
 | []=>true
 | (_,p) :: l=>p.flat && pC l
def ZM:List yK->Bool
 | []=>true
 | o :: l=>o.flat && ZM l
def Q0 (z6:Nat->Option Obj) (a:z7) (p:zG) (b:Qq):Option Qq:=match a,p with
 | .ref id [] _,.ref j=>GM b j id some
 | .zu id [],.zu j []=>match z6 id with
  | some (.cell _)=>GM b j id some
  | _=>none
 | .qA id,.qA j=>match z6 id with
  | some (.map _ _ _)=>GM b j id some
  | _=>none
 | .nv false id [] _,.nv j=>GM b j id some
 | _,_=>none
def Zt (z6:Nat->Option Obj):z7->zG->Qq->Option Qq
 | .un,.un,b=>some b
 | .pr (.data t _) c,.pr (.val u) q,b=>cond (Ty.same t u).isSome (Zt z6 c q b) none
 | .pr a c,.pr p q,b=>match Q0 z6 a p b with
  | some b=>Zt z6 c q b
  | none=>none
 | _,_,_=>none
def z1z (z6:Nat->Option Obj) (a:z7) (p:zG) (b:Qq):Option Qq:=match a,p with
 | .JJ _ a,.JJ _ p=>Q0 z6 a p b
 | .yG f c,.yG g q=>cond (Nat.beq f g) (Zt z6 c q b) none
 | a,p=>Q0 z6 a p b
def Xs (z6:Nat->Option Obj) (all:z7):List Nat->List (Nat×zG)->Qq->Option Qq
 | [],_,b=>some b
 | i :: l,(_,p) :: out,b=>match j9 all i with
  | some a=>match z1z z6 a p b with
   | some b=>Xs z6 all l out b
   | none=>none
  | none=>none
 | _ :: _,[],_=>none
def xu (b:Qq) (n:Nat):Nat->Nat->List Nat
 | 0,_=>[]
 | m+1,j=>(match yT b j with
  | some id=>id
  | none=>n+j) :: xu b n m (j+1)
def K4 (J:St) (b:Qq) (j:Nat):Nat×Nat:=match yT b j with
 | some id=>match J.z6 id with
  | some (.row _ _ e)=>(e,0)
  | some (.nest _ _ e i _)=>(e,i+1)
  | _=>(0,0)
 | none=>(0,0)
def zG.inst (M:List Nat) (E:Nat->Nat×Nat):(p:zG)->p.den->Option z7
 | .val t,d=>some (.data t d)
 | .qy,_=>some .qy
 | .ref j,_=>(zF M j).map fun id=>.ref id [] (E j).1
 | .view j,d=>(zF M j).map fun id=>.view id [] (E j).1 d.1 d.2
 | .zu j p,_=>(zF M j).map fun id=>.zu id p
 | .qA j,_=>(zF M j).map fun id=>.qA id
 | .nv j,_=>(zF M j).map fun id=>.nv false id [] (E j).1
 | .nvi j,d=>(zF M j).map fun id=>.nv false id [.idx d] (E j).2
 | .yG f c,d=>(c.inst M E d).map fun a=>.yG f a
 | .JJ f c,d=>(c.inst M E d).map fun a=>.JJ f a
 | .agg c,d=>(c.inst M E d).map fun a=>.agg a
 | .pr a b,d=>match a.inst M E d.1,b.inst M E d.2 with
  | some x,some y=>some (.pr x y)
  | _,_=>none
 | .un,_=>some .un
def yK.inst (M:List Nat) (E:Nat->Nat×Nat) (j:Nat):(o:yK)->o.den->Option Obj
 | .row t,l=>some (.row t l (E j).1)
 | .cell p,d=>(p.inst M E d).map fun a=>.cell a
 | .map kt vt,m=>some (.map kt vt m)
 | .nest t,l=>some (.nest t l (E j).1 (E j).2 none)
 | .iter _,_=>none
 | .Jq p,d=>cond (z7.jC (p.mk d)).wg ((p.inst M E d).map fun a=>.cell (.jC a)) none
def KM (M:List Nat) (E:Nat->Nat×Nat):(l:List yK)->JN l->Nat->Option (List Obj)
 | [],_,_=>some []
 | o :: l,d,j=>match o.inst M E j d.1,KM M E l d.2 (j+1) with
  | some x,some y=>some (x :: y)
  | _,_=>none
def gu (M:List Nat) (E:Nat->Nat×Nat):(l:List (Nat×zG))->xD l->Option (List z7)
 | [],_=>some []
 | (_,p) :: l,d=>match p.inst M E d.1,gu M E l d.2 with
  | some x,some y=>some (x :: y)
  | _,_=>none
def sameKind:Option Obj->Obj->Bool
 | some (.row t _ _),.row u _ _=>(Ty.same t u).isSome
 | some (.cell a),.cell x=>x.sk.same a.sk
 | some (.map kt vt _),.map Ur Pe _=>(Ty.same kt Ur).isSome && (Ty.same vt Pe).isSome
 | some (.nest t _ _ _ none),.nest u _ _ _ none=>(Ty.same t u).isSome
 | _,_=>false
def UB (J:St) (ids:List Nat) (b:Qq):List Obj->Nat->Bool
 | [],_=>true
 | o :: l,j=>(match yT b j with
  | some id=>yD id ids && sameKind (J.z6 id) o
  | none=>true) && UB J ids b l (j+1)
def QM:List Nat->Bool
 | []=>true
 | x :: l=>!yD x l && QM l
def z1v (J:St) (ids M:List Nat) (os:List Obj):St:={ J with z6:=fun i=>match qZ i M 0 with
 | some j=>zF os j
 | none=>cond (yD i ids) none (J.z6 i) }
def jR:List z7->z7
 | []=>.un
 | a :: l=>.pr a (jR l)
def kF:List z7->z7
 | [a]=>a
 | l=>.jC (jR l)
def ke {I:Type}:Nat->List I->List I
 | 0,l=>l
 | _+1,[]=>[]
 | n+1,_ :: l=>ke n l
def IW (J:St) (n:Nat) (ids:List Nat) (b:Qq) (jI:List Nat) (zi:vO) (r:zi.den) (f:z7->St->Option R):Option R:=
 match KM (xu b n zi.z6.length 0) (K4 J b) zi.z6 r.2 0,gu (xu b n zi.z6.length 0) (K4 J b) zi.zj r.1 with
 | some os,some vs=>cond (QM (xu b n zi.z6.length 0) && UB J ids b os 0) (f (kF (ke jI.length vs)) (z1v J ids (xu b n zi.z6.length 0) os)) none
 | _,_=>none
def Ss (J:St) (all:z7) (fin:vO) (ids:List Nat) (k:fin.den->Option R):Option R:=
 match YK (fun i=>qZ i ids 0) J.z6 ids with
 | some os=>gr (J.only fun i=>!yD i ids) J.z6 (fun i=>qZ i ids 0) fin.zj all fun d=>V7 fin.z6 os fun e=>k (d,e)
 | none=>none
def AF:List yK->List Nat->St->(St->Option R)->Option R
 | .Jq _ :: os,i :: is,J,k=>match J.z6 i with
  | some (.cell a)=>cond (z7.jC a).wg (AF os is (J.setObj i (.cell (.jC a))) k) (AF os is J k)
  | _=>AF os is J k
 | _ :: os,_ :: is,J,k=>AF os is J k
 | _,_,J,k=>k J
def z1x (z6:Nat->Option Obj) (a:z7) (p:zG) (b:Qq):Option Qq:=match a,p with
 | .agg c,.agg q=>Zt z6 c q b
 | .qA i,.qA j=>Q0 z6 (.qA i) (.qA j) b
 | _,_=>none
def H8 (z6:Nat->Option Obj) (ids:List Nat) (fo:List yK):Qq->Qq->Option Qq
 | [],b=>some b
 | (j,_) :: l,b=>match yT b j with
  | some id=>match zF fo j,z6 id with
   | some (.Jq p),some (.cell (.jC a))=>cond (yD id ids && (z7.jC a).wg) (match z1x z6 a p b with
    | some b=>H8 z6 ids fo l b
    | none=>none) none
   | _,_=>H8 z6 ids fo l b
  | none=>H8 z6 ids fo l b
def zdi (J:St) (n:Nat) (all:z7) (fin:vO) (jI:List Nat) (zi:vO) (F:fin.den->Option zi.den) (f:z7->St->Option R):Option R:=
 AF fin.z6 (k8 J.z6 100 (p4 fin.zj all) []) J fun J=>
 cond (jc all && Us fin.zj 0 && Xr fin.zj jI && (ZA fin.zj all || (pC zi.zj && ZM zi.z6)) && Nat.ble zi.z6.length 8)
  (match (Xs J.z6 all jI zi.zj []).bind fun b=>H8 J.z6 (k8 J.z6 100 (p4 fin.zj all) []) zi.z6 b b with
   | some b=>Ss J all fin (k8 J.z6 100 (p4 fin.zj all) []) fun d=>(F d).bind fun r=>IW J n (k8 J.z6 100 (p4 fin.zj all) []) b jI zi r f
   | none=>none) none
def z1o (c:Ctx) (J:St) (n:Nat) (g:z7) (args:z7) (f:z7->St->Option R):Option R:=
 match K1 g args with
 | some (fid,all)=>match GV all (c.env fid) with
  | some (.pure p res F)=>Z8 J n all p res F f
  | _=>none
 | none=>none
def z1n (c:Ctx) (J:St) (n:Nat) (g:z7) (args:z7) (f:z7->St->Option R):Option R:=
 match K1 g args with
 | some (fid,all)=>match GV all (c.env fid) with
  | some (.pure p res F)=>Z8 J n all p res F f
  | some (.mut fin jI zi F)=>zdi J n all fin jI zi F f
  | none=>none
 | none=>none
def Bh {I:Type} (m:List I) (a b:Int):Int:=(Nat.min m.length (b-a).toNat:Nat)
def pY {I:Type} (l:List I) (a b:Int) (m:List I):List I:=l.take a.toNat++m.take (Nat.min m.length (b-a).toNat)++l.drop (a.toNat+Nat.min m.length (b-a).toNat)
def Da (J:St) (u:Ty) (id:Nat) (ep:Nat) (a b:Int) (y:z7) (f:Int->St->Option R):Option R:=match J.z6 id with
 | some (.row t l e)=>cond (Nat.beq e ep && (Ty.same t u).isSome) (GQ J t y fun m=>f (Bh m a b) (J.setObj id (.row t (pY l a b m) e))) none
 | _=>none
def zb0 (J:St) (u:Ty) (x y:z7) (f:Int->St->Option R):Option R:=match x with
 | .view id [] ep a b=>Da J u id ep a b y f
 | .ref id [] ep=>match J.z6 id with
  | some (.row _ l _)=>Da J u id ep 0 (l.length:Int) y f
  | _=>none
 | _=>none
open Classical in
def z27 {I:Type} (f:I->Option R):List I->Option R
 | []=>none
 | a :: l=>if ∀ b∈l,f b=f a then f a else none
def UL (left:List Int) (done:Option R) (f:Int->List Int->Option R):Option R:=match left with
 | []=>done
 | j :: l=>z27 (fun j'=>f j' ((j :: l).filter fun i=>!decide (i=j'))) (j :: l)
def upto:Nat->List Int
 | 0=>[]
 | n+1=>upto n++[(n:Int)]
def Iv (c:Ctx) (J:St) (n:Nat) (dst:Option Nat) (t:Nat) (x:z7) (k:St->Option R):Option R:=
 match x,c.mt t with
 | .qA id,some _=>match J.z6 id with
  | some (.map _ _ m)=>J.qe c dst (.zu n []) fun J=>k (J.setObj n (.cell (pF id (m.length:Int) (upto m.length) (-1))))
  | _=>none
 | _,_=>none
def Sn (c:Ctx) (J:St) (dst:Option Nat) (x:z7) (k:St->Option R):Option R:=match x with
 | .zu id []=>match J.z6 id with
  | some (.cell (.jC (.pr (.qA Kx) (.pr (.data (.int .i64) n) (.pr (.data (.sl false (.int .i64)) left) (.pr (.data (.int .i64) _) .un))))))=>match J.z6 Kx with
   | some (.map kt vt m)=>qR (decide (n=(m.length:Int))) (UL left (J.qe c dst (.jC (.pr (.data .bool false) .un)) k) fun j rest=>(idx m j).bind fun e=>
     (J.setObj id (.cell (pF Kx n rest j))).qe c dst (.jC (.pr (.data .bool true) (.pr (.data kt e.1) (.pr (.data vt e.2) .un)))) k)
   | _=>none
  | _=>none
 | _=>none
def Lo (c:Ctx) (J:St) (n:Nat) (dst:Option Nat) (u:Ty) (len:Nat) (ps:List (Nat×Operand)) (k:St->Option R):Option R:=match len,ps with
 | 0,[]=>(J.setObj n (.nest u [] 0 0 none)).qe c dst (.nv false n [] 0) k
 | 1,[(0,x)]=>match ev J x with
  | some a=>Xg J a u fun d J=>(J.setObj n (.nest u [d] 0 0 none)).qe c dst (.nv false n [] 0) k
  | none=>none
 | _,_=>none
def It (c:Ctx) (J:St) (dst:Option Nat) (x:z7) (k:St->Option R):Option R:=match x with
 | .zu id []=>match J.z6 id with
  | some (.cell (.jC (.pr (.qA Kx) (.pr (.data (.int .i64) n) (.pr (.data (.sl false (.int .i64)) left) (.pr (.data (.int .i64) cur) .un))))))=>match J.z6 Kx with
   | some (.map kt vt m)=>qR (decide (n=(m.length:Int))) ((idx m cur).bind fun e=>J.qe c dst (.jC (.pr (.data kt e.1) (.pr (.data vt e.2) .un))) k)
   | _=>none
  | _=>none
 | _=>none
def evI (J:St):Option Operand->Option (Option Int)
 | none=>some none
 | some x=>match ev J x with
  | some (.data (.int _) n)=>some (some n)
  | _=>none
def LN:Ty->Bool
 | .sl true v=>v.zV
 | _=>false
def LU (n:Nat):Ty->Option z7
 | .fn _ _ | .ptr _=>some (.qA n)
 | u=>p8 u
def y9 (c:Ctx) (J:St) (n:Nat) (o:Oper) (k:St->Option R):Option R:=
 match o.op with
 | .move x | .assign x=>match ev J x with
  | some a=>J.qe c o.dst a k
  | none=>none
 | .pick t x y=>match ev J t with
  | some (.data .bool b)=>cond b
    (match ev J x with
     | some a=>J.qe c o.dst a k
     | none=>none)
    (match ev J y with
     | some a=>J.qe c o.dst a k
     | none=>none)
  | _=>none
 | .binOp op t x y _=>match ev J x,ev J y with
  | some a,some b=>zme J (c.eqs t) (c.tt t) op a b fun v=>J.qe c o.dst v k
  | _,_=>none
 | .unOp op _ x=>match ev J x with
  | some a=>unK op a fun v=>J.qe c o.dst v k
  | none=>none
 | .convert t t' x=>match ev J x,c.tt t,c.tt t' with
  | some (.data (.int _) j),some (.int _),some (.int kd)=>J.qe c o.dst (.data (.int kd) (kd.wrap j)) k
  | _,_,_=>none
 | .indexAddr t x i=>match ev J x,ev J i,c.tt t with
  | some a,some (.data (.int _) j),some u=>TQ J u a j fun v=>J.qe c o.dst v k
  | _,_,_=>none
 | .fieldAddr t x i=>match ev J x,c.tt t with
  | some a,some u=>z0d J u a i fun v=>J.qe c o.dst v k
  | _,_=>none
 | .index t x i=>match ev J x,ev J i,c.tt t with
  | some (.data (.arr n t') l),some (.data (.int _) j),some (.arr m u)=>cond (Nat.beq n m && t'.sk.same u.sk) ((idx l j).bind fun d=>J.qe c o.dst (.data t' d) k) none
  | some (.data .str l),some (.data (.int _) j),some .str=>(idx l j).bind fun d=>J.qe c o.dst (.data (.int .u8) (d.toNat:Int)) k
  | _,_,_=>none
 | .nilCheck x=>match ev J x with
  | some a=>cond (holds J a) (J.qe c o.dst a k) none
  | none=>none
 | .load t x=>match ev J x,c.tt t with
  | some a,some u=>BA J a fun v=>cond (v.val && u.sk.same v.sk) (J.qe c o.dst v k) none
  | _,_=>none
 | .store t x y=>match ev J x,ev J y,c.tt t,o.dst with
  | some a,some b,some u,none=>cond (b.val && u.sk.same b.sk) (Rr J a b k) none
  | _,_,_,_=>none
 | .extract x i=>match ev J x with
  | some (.jC a)=>match j9 a i with
   | some v=>J.qe c o.dst v k
   | none=>none
  | _=>none
 | .alloc t=>match (c.tt t).bind (LU n) with
  | some z=>J.qe c o.dst (.zu n []) fun J=>k (J.setObj n (.cell z))
  | none=>none
 | .box _ x=>match ev J x with
  | some a=>cond a.val (J.qe c o.dst (.zu n []) fun J=>k (J.setObj n (.cell a))) none
  | none=>none
 | .makeFunc (.func f) first cap=>match first.toList with
  | []=>match RZ J cap.toList with
   | some a=>cond (qh a) (J.qe c o.dst (.yG f a) k) none
   | none=>none
  | _=>none
 | .makeSlice t len cap=>match Ae c o.dst t with
  | some (.sl _ u)=>match u.zero,ev J len,ev J cap with
   | some z,some (.data (.int _) l),some (.data (.int _) m)=>
    cond u.zV (qR (decide (0<=l) && decide (l<=m) && decide (m<=(room:Int))) (J.qe c o.dst (.ref n [] 0) fun J=>k (J.setObj n (.row u (List.replicate l.toNat z) 0))))
     (cond (LN u) (qR (decide (0<=l) && decide (l<=m) && decide (m<=(room:Int))) (J.qe c o.dst (.nv false n [] 0) fun J=>k (J.setObj n (.nest u (List.replicate l.toNat z) 0 0 none)))) none)
   | _,_,_=>none
  | _=>none
 | .build t ps=>match c.tt t with
  | some (.pair x y)=>match gE J (.pair x y) 0 ps.toList with
   | some a=>cond (a.sk.same (Ty.pair x y).sk) (J.qe c o.dst (.agg a) k) none
   | none=>none
  | some (.arr n u)=>match RZ J (ps.toList.map (·.2)) with
   | some a=>cond (xy 0 ps.toList && Nat.beq ps.toList.length n && j7 u) (jZ u a fun l=>J.qe c o.dst (.data (.arr n u) l) k) (cond (u.zV && !u.sk.isAgg) (pT J u n 0 ps.toList fun l=>J.qe c o.dst (.data (.arr n u) l) k) none)
   | none=>none
  | _=>none
 | .buildSlice t len ps=>match Ae c o.dst t with
  | some (.sl _ u)=>cond (u.zV && xy 0 ps.toList && Nat.beq ps.toList.length len && Nat.ble (len*u.size) 100000) (parts J u ps.toList fun ds J=>cond (zm4 c o.dst) (J.qe c o.dst (.data (.sl false u) ds) k) (J.qe c o.dst (.ref n [] 0) fun J=>k (J.setObj n (.row u ds 0))))
    (cond (Kd u && Nat.ble (len*u.size) 100000) (Lo c J n o.dst u len ps.toList k) none)
  | _=>none
 | .makeMap t none=>match c.mt t with
  | some (kt,vt)=>cond (kTy kt && vt.qn) (J.qe c o.dst (.qA n) fun J=>k (J.setObj n (.map kt vt []))) none
  | none=>none
 | .lookup t x i ok=>match ev J x,ev J i with
  | some a,some b=>IG J (c.mt t) a fun _ kt vt m=>cond b.val (asData J 20 b kt fun key=>match vt.zero with
   | some z=>cond ok (J.qe c o.dst (.jC (.pr (.data vt ((jW (Wp kt) m key).getD z)) (.pr (.data .bool (jW (Wp kt) m key).isSome) .un))) k)
    (J.qe c o.dst (.data vt ((jW (Wp kt) m key).getD z)) k)
   | none=>none) none
  | _,_=>none
 | .mapUpdate t x i y=>match ev J x,ev J i,ev J y,o.dst with
  | some a,some b,some v,none=>IG J (c.mt t) a fun id kt vt m=>cond (b.val && v.val) (asData J 20 b kt fun key=>asData J 20 v vt fun d=>k (J.setObj id (.map kt vt (js (Wp kt) m key d)))) none
  | _,_,_,_=>none
 | .mapEntry t x i=>match ev J x,ev J i with
  | some a,some b=>IG J (c.mt t) a fun id kt vt m=>cond b.val (asData J 20 b kt fun key=>match vt.zero with
   | some z=>qR (decide (m.length<=room)) ((J.setObj id (.map kt vt (js (Wp kt) m key ((jW (Wp kt) m key).getD z)))).qe c o.dst (.jC (.pr (.data vt ((jW (Wp kt) m key).getD z)) (.pr (.data (.int .i64) (kJ (Wp kt) m key:Int)) .un))) k)
   | none=>none) none
  | _,_=>none
 | .entryStore t x i y=>match ev J x,ev J i,ev J y,o.dst with
  | some a,some (.data (.int _) p),some v,none=>IG J (c.mt t) a fun id kt vt m=>cond v.val (asData J 20 v vt fun d=>qR (decide (0<=p) && decide (p < (m.length:Int))) (k (J.setObj id (.map kt vt (UR m p.toNat d))))) none
  | _,_,_,_=>none
 | .slice t x lo hi none=>match ev J x,c.tt t,evI J lo,evI J hi with
  | some a,some (.sl _ u),some lo,some hi=>S3 J u a (lo.getD 0) hi fun v=>J.qe c o.dst v k
  | some (.data .str l),some .str,some lo,some hi=>qR (decide (0<=lo.getD 0) && decide (lo.getD 0<=hi.getD (l.length:Int)) && decide (hi.getD (l.length:Int)<=(l.length:Int))) (J.qe c o.dst (.data .str (sub l (lo.getD 0) (hi.getD (l.length:Int)))) k)
  | _,_,_,_=>none
 | .slice t x none (some hi) (some mx)=>match ev J x,ev J hi,ev J mx,c.tt t with
  | some (.ref id [] ep),some (.data (.int _) h),some (.data (.int _) m),some (.sl _ u)=>match J.z6 id with
   | some (.row t' l e)=>cond (Nat.beq e ep && t'.sk.same u.sk) (qR (decide (0<=h) && decide (h<=m) && decide (m<=(l.length:Int))) ((J.setObj id (.row t' (sub l 0 h) (e+1))).qe c o.dst (.ref id [] (e+1)) k)) none
   | _=>none
  | _,_,_,_=>none
 | .call { callee:=.builtin .len,args:=args,argTypes:=ts }=>match args.toList,ts.toList with
  | [x],[t]=>match ev J x,c.tt t with
   | some a,some (.sl _ _)=>zik J a fun v=>J.qe c o.dst (.data (.int .i64) v) k
   | some (.data .str l),some .str=>J.qe c o.dst (.data (.int .i64) (l.length:Int)) k
   | some a,_=>IG J (c.mt t) a fun _ _ _ m=>qR (decide (m.length<=room)) (J.qe c o.dst (.data (.int .i64) (m.length:Int)) k)
   | _,_=>none
  | _,_=>none
 | .call { callee:=.builtin .max,args:=args,.. }=>match RZ J args.toList with
  | some (.pr (.data (.int i) x) r)=>zr xW i x r fun v=>J.qe c o.dst (.data (.int i) v) k
  | _=>none
 | .call { callee:=.builtin .min,args:=args,.. }=>match RZ J args.toList with
  | some (.pr (.data (.int i) x) r)=>zr uy i x r fun v=>J.qe c o.dst (.data (.int i) v) k
  | _=>none
 | .call { callee:=.builtin .append,args:=args,argTypes:=ts }=>match args.toList,ts.toList with
  | [x,y],[t,t']=>match ev J x,ev J y,c.tt t with
   | some a,some b,some (.sl _ u)=>cond (Nat.beq t t') (Nj J n u a b fun v J=>J.qe c o.dst v k) none
   | _,_,_=>none
  | _,_=>none
 | .call { callee:=.builtin .copy,args:=args,argTypes:=ts }=>match args.toList,ts.toList with
  | [x,y],[t,_]=>match ev J x,ev J y,c.tt t with
   | some a,some b,some (.sl _ u)=>zb0 J u a b fun n J=>J.qe c o.dst (.data (.int .i64) n) k
   | _,_,_=>none
  | _,_=>none
 | .call { callee:=.value g,args:=args,.. }=>match ev J g,RZ J args.toList with
  | some g,some a=>z1o c J n g a fun v J=>J.qe c o.dst v k
  | _,_=>none
 | _=>none
def M9 (o:Oper):Bool:=match o.op with
 | .store _ _ _=>true
 | .mapUpdate _ _ _ _ | .mapEntry _ _ _ | .entryStore _ _ _ _=>true
 | .call cl=>match cl.callee with
  | .builtin .append | .builtin .clear | .builtin .copy=>true
  | _=>false
 | _=>false
def Ca (o:Oper):Bool:=match o.op with
 | .call cl=>match cl.callee with
  | .value _ | .invoke _ _=>true
  | _=>false
 | .range _ _ | .next _ _ | .entry _=>true
 | _=>false
def Q5 (q:Bool) (o:Oper):Bool:=cond q (M9 o || Ca o) (M9 o)
def X3 (o:Oper):Bool:=match o.op with
 | .assign (.const .nilFunc) | .assign (.const .nilIface) | .assign (.const (.pointer none))=>true
 | _=>false
def Rz (c:Ctx) (J:St) (n:Nat) (o:Oper) (k:St->Option R):Option R:=cond (X3 o) (k (J.wh o.dst)) (y9 c J n o k)
open Classical in
def qu:List (Option R)->Option R
 | []=>none
 | x :: l=>if ∀ y∈l,y=x then x else none
def views (J:St) (id e:Nat) (n:Int):St:={ J with zj:=fun i=>match J.zj i with
 | some (.ref j p e')=>match p with
  | []=>cond (Nat.beq j id && Nat.beq e' e) (some (.view id [] (e+1) 0 n)) (some (.ref j [] e'))
  | p=>some (.ref j p e')
 | x=>x }
def Di (J:St) (n:Nat) (u:Ty) (s x:z7) (f:z7->St->Option R):Option R:=match s with
 | .ref id [] ep=>match J.z6 id with
  | some (.row t l e)=>cond (Nat.beq e ep && t.sk.same u.sk) (GQ J t x fun m=>qR (decide (l.length+m.length<=room))
    (qu [f (.ref id [] (e+1)) ((views J id e (l.length:Int)).setObj id (.row t (l++m) (e+1))),f (.ref n [] 1) (J.setObj n (.row t (l++m) 1))])) none
  | _=>none
 | _=>none
def zaw (c:Ctx) (d:Option Nat):Bool:=match d.bind c.own with
 | some .unit=>true
 | _=>false
def Ox (q:Bool) (c:Ctx) (J:St) (n:Nat) (o:Oper) (k:St->Option R):Option R:=match o.op with
 | .call { callee:=.value g,args:=args,.. }=>cond q (match ev J g,RZ J args.toList with
   | some g,some a=>z1n c J n g a fun v J=>J.qe c o.dst v k
   | _,_=>none) (Rz c J n o k)
 | .range t x=>cond q (match ev J x with
   | some a=>Iv c J n o.dst t a k
   | none=>none) (Rz c J n o k)
 | .next x false=>cond q (match ev J x with
   | some a=>Sn c J o.dst a k
   | none=>none) (Rz c J n o k)
 | .entry x=>cond q (match ev J x with
   | some a=>It c J o.dst a k
   | none=>none) (Rz c J n o k)
 | .call { callee:=.builtin .append,args:=args,argTypes:=ts,.. }=>cond (q && zaw c o.dst) (match args.toList,ts.toList with
   | [x,y],[t,t']=>match ev J x,ev J y,c.tt t with
    | some a,some b,some (.sl _ u)=>cond (Nat.beq t t') (Di J n u a b fun v J=>J.qe c o.dst v k) none
    | _,_,_=>none
   | _,_=>none) (Rz c J n o k)
 | _=>Rz c J n o k
def Ks (o:Oper):Bool:=match o.op with
 | .move _ | .assign _ | .pick _ _ _ | .binOp _ _ _ _ _ | .unOp _ _ _ | .convert _ _ _ | .indexAddr _ _ _ | .fieldAddr _ _ _ | .nilCheck _ | .load _ _ | .extract _ _ | .makeFunc _ _ _ | .lookup _ _ _ _ | .slice _ _ _ _ none | .build _ _ | .index _ _ _ | .field _ _ _ | .makeInterface _ _ | .typeAssert _ _ _ _=>true
 | .call cl=>match cl.callee with
  | .builtin .len | .builtin .max | .builtin .min=>true
  | _=>false
 | _=>false
def IP (o:Oper):Bool:=!X3 o && Ks o
def isP (o:Oper):Bool:=match o.op with
 | .load _ _ | .lookup _ _ _ _=>false
 | .call cl=>match cl.callee with
  | .builtin .max | .builtin .min=>true
  | _=>false
 | _=>true
def noM:List (Nat×Oper)->Bool
 | []=>true
 | (_,o) :: l=>!M9 o && noM l
def Tu (t:Nat) (o:Oper):Bool:=match o.op with
 | .pick (.tmp u) _ _=>Nat.beq t u
 | _=>false
def splitAt (p:Oper->Bool):List (Nat×Oper)->List (Nat×Oper)->Option (List (Nat×Oper)×Option Nat×List (Nat×Oper))
 | [],_=>none
 | (i,o) :: l,acc=>cond (p o) (some (acc++[(i,o)],o.dst,l)) (splitAt p l (acc++[(i,o)]))
def Xi (J:St) (d:Nat):Option Bool:=match J.zj d with
 | some (.data .bool b)=>some b
 | _=>none
def vo:List (Nat×Oper)->St->St
 | [],J=>J
 | (_,o) :: l,J=>vo l (J.wh o.dst)
def rmN (d:Nat):List Nat->List Nat
 | []=>[]
 | x :: l=>cond (Nat.beq x d) (rmN d l) (x :: rmN d l)
def Zr:Option Nat->List Nat->List Nat
 | none,u=>u
 | some d,u=>rmN d u
def Dm:Option Nat->List Nat->List Nat
 | none,u=>u
 | some d,u=>d :: u
def XO:List (Nat×Oper)->List Nat->List Nat
 | [],u=>u
 | (_,o) :: l,u=>XO l (Zr o.dst u)
def z9u:List Callee->Bool
 | []=>true
 | .pure _ _ _ :: l=>z9u l
 | _=>false
def z1m (J:St) (x:Operand):Option Nat:=match ev J x with
 | some (.yG f _)=>some f
 | some (.data (.fn f _) _)=>some f
 | _=>none
def CN:List (Nat×Oper)->Operand->Operand
 | (_,o) :: l,.tmp s=>match o.dst,o.op with
  | some t,.move y=>cond (Nat.beq t s) y (CN l (.tmp s))
  | _,_=>CN l (.tmp s)
 | _,x=>x
def MZ (c:Ctx) (J:St) (all:List (Nat×Oper)):List (Nat×Oper)->Bool
 | []=>false
 | (_,o) :: l=>(match o.op with
  | .call cl=>match cl.callee with
   | .value g=>match z1m J (CN all g) with
    | some f=>!z9u (c.env f)
    | none=>true
   | _=>false
  | _=>false) || MZ c J all l
def D3 (c:Ctx) (J:St) (l:List (Nat×Oper)):Bool:=MZ c J l l
def xO (c:Ctx) (base:Nat) (dst:Nat->Option Nat):(q:Bool)->(fuel:Nat)->(R:Type)->(opened gF:List Nat)->List (Nat×Oper)->St->(St->Option R)->Option R
 | _,0,_,_,_,_,_,_=>none
 | _,_+1,_,_,_,[],J,k=>k J
 | q,n+1,R,opened,gF,(i,o) :: l,J,k=>
  match o.guard with
  | none=>Ox q c J (base+8*i) o fun J=>xO c base dst q n R opened (Zr o.dst gF) l J k
  | some (j,want)=>
   match dst j with
   | none=>none
   | some t=>
    match J.zj t with
    | some (.data .bool b)=>
     cond (yD j opened)
      (cond (b == want) (Ox q c J (base+8*i) o fun J=>xO c base dst q n R opened (Zr o.dst gF) l J k) (xO c base dst q n R opened (Dm o.dst gF) l (J.wh o.dst) k))
      (match splitAt (Tu t) ((i,o) :: l) [] with
       | some (GB,some d,rest)=>cond (q && D3 c J GB)
        (cond b (xO c base dst q n R (j :: opened) gF ((i,o) :: l) (J.set t (.data .bool true)) k)
            (xO c base dst q n R (j :: opened) gF ((i,o) :: l) (J.set t (.data .bool false)) k)) <| cond (noM GB) (
        (cond b (xO c base dst false n Bool (j :: opened) gF GB (J.set t (.data .bool true)) fun J=>Xi J d)
            (xO c base dst false n Bool (j :: opened) gF GB (J.set t (.data .bool false)) fun J=>Xi J d)).bind fun v=>
        cond (Nat.blt d c.ntmps) (xO c base dst q n R opened (XO GB gF) rest ((vo GB J).set d (.data .bool v)) k) none) none
       | _=>none)
    | none=>cond (yD t gF) (xO c base dst q n R opened (Dm o.dst gF) l (J.wh o.dst) k) none
    | _=>none
def zT {I:Type}:Nat->List I->List (Nat×I)
 | _,[]=>[]
 | i,x :: l=>(i,x) :: zT (i+1) l
def pQ (ops:List Oper) (j:Nat):Option Nat:=(zF ops j).bind (·.dst)
def ve:List Edge->List Nat
 | []=>[]
 | e :: l=>cond (Region.binds .any e) (e.on :: ve l) (ve l)
def HZ:List Nat->List Nat->Bool
 | [],_=>true
 | x :: l,d=>yD x d && HZ l d
def Xl:List Nat->List Nat->Bool
 | [],_=>false
 | x :: l,d=>yD x d || Xl l d
def QB (done:List Nat) (o:Oper):Bool:=HZ (ve o.after.toList) done
def Ai:List Operand->List Nat
 | []=>[]
 | .tmp t :: l=>t :: Ai l
 | _ :: l=>Ai l
def z08 (dst:Nat->Option Nat) (o:Oper):List Nat:=match o.guard with
 | some (j,_)=>match dst j with
  | some t=>[t]
  | none=>[]
 | none=>[]
def Uh (dst:Nat->Option Nat) (o:Oper) (t:Nat):Bool:=yD t (Ai o.op.operands.toList) || yD t (z08 dst o)
def Dl (dst:Nat->Option Nat) (x y:Oper):Bool:=
 (match x.dst with
  | some d=>!Uh dst y d && (match y.dst with
   | some e=>!Nat.beq d e
   | none=>true)
  | none=>true) &&
 (match y.dst with
  | some d=>!Uh dst x d
  | none=>true)
def gZ (i:Nat):List (Nat×Oper)->List Nat->List Nat
 | [],acc=>acc
 | (j,o) :: l,acc=>gZ i l (cond (yD i (ve o.after.toList) || Xl (ve o.after.toList) acc) (j :: acc) acc)
def MK (q:Bool) (dst:Nat->Option Nat) (done later:List Nat) (i:Nat) (o:Oper):List (Nat×Oper)->Bool
 | []=>true
 | (j,oj) :: l=>(Nat.beq j i || yD j done || ((yD i (ve oj.after.toList) || Dl dst o oj) && (isP o || !Q5 q oj || yD j later))) && MK q dst done later i o l
def Xt (done:List Nat) (i:Nat):List (Nat×Oper)->Bool
 | []=>true
 | (j,oj) :: l=>(Nat.beq j i || yD j done || !QB done oj) && Xt done i l
def UI:List Nat->List Nat->Bool
 | [],_=>true
 | x :: l,d=>!yD x d && UI l d
def Es (q:Bool) (dst:Nat->Option Nat) (all:List (Nat×Oper)) (done:List Nat) (i:Nat) (o:Oper):Bool:=
 QB done o && ((IP o && MK q dst done (gZ i all []) i o all && UI (gZ i all []) done) || Xt done i all)
def ZP (q:Bool) (dst:Nat->Option Nat) (all:List (Nat×Oper)):List (Nat×Oper)->List Nat->Bool
 | [],done=>Xt done all.length all
 | (i,o) :: l,done=>!yD i done && Es q dst all done i o && ZP q dst all l (i :: done)
def KL:List (Nat×Oper)->Bool
 | []=>true
 | (_,o) :: l=>(match o.op with
  | .select _ _=>false
  | _=>true) && KL l
def Wy (q:Bool) (dst:Nat->Option Nat) (all:List (Nat×Oper)) (done:List Nat):List (Nat×Oper)->Option (Nat×Oper)
 | []=>none
 | (i,o) :: l=>cond (!yD i done && Es q dst all done i o) (some (i,o)) (Wy q dst all done l)
def QD (q:Bool) (dst:Nat->Option Nat) (all:List (Nat×Oper)):Nat->List Nat->List (Nat×Oper)
 | 0,_=>[]
 | n+1,done=>match Wy q dst all done all with
  | some (i,o)=>(i,o) :: QD q dst all n (i :: done)
  | none=>[]
def M5 (q:Bool) (c:Ctx) (ops:List Oper) (l:List (Nat×Oper)) (J:St) (k:St->Option R):Option R:=
 xO c J.next (pQ ops) q (ops.length+ops.length+2) R [] [] l J fun J'=>k { J' with next:=J.next+8*ops.length }
def Be (q:Bool) (ops:List Oper):List (Nat×Oper):=QD q (pQ ops) (zT 0 ops) ops.length []
def Gv (q:Bool) (ops:List Oper):Bool:=KL (zT 0 ops) && ZP q (pQ ops) (zT 0 ops) (Be q ops) []
def gx (done:List Nat):List (Nat×Oper)->List (Nat×Oper)
 | []=>[]
 | (i,o) :: l=>cond (!yD i done && QB done o) ((i,o) :: gx done l) (gx done l)
def ED (c:Ctx) (dst:Nat->Option Nat) (b0:Nat) (o:Oper) (opened gF:List Nat) (J:St) (kk:List Nat->List Nat->St->Option R):Option R:=
 match o.guard with
 | none=>Ox true c J b0 o fun J=>kk opened (Zr o.dst gF) J
 | some (j,want)=>match dst j with
  | none=>none
  | some t=>match J.zj t with
   | some (.data .bool b)=>
    cond (yD j opened)
     (cond (b == want) (Ox true c J b0 o fun J=>kk opened (Zr o.dst gF) J) (kk opened (Dm o.dst gF) (J.wh o.dst)))
     (cond b
      (cond want (Ox true c (J.set t (.data .bool true)) b0 o fun J=>kk (j :: opened) (Zr o.dst gF) J) (kk (j :: opened) (Dm o.dst gF) ((J.set t (.data .bool true)).wh o.dst)))
      (cond want (kk (j :: opened) (Dm o.dst gF) ((J.set t (.data .bool false)).wh o.dst)) (Ox true c (J.set t (.data .bool false)) b0 o fun J=>kk (j :: opened) (Zr o.dst gF) J)))
   | none=>cond (yD t gF) (kk opened (Dm o.dst gF) (J.wh o.dst)) none
   | _=>none
def Lw (c:Ctx) (base:Nat) (dst:Nat->Option Nat) (all:List (Nat×Oper)):Nat->List Nat->(opened gF:List Nat)->St->(St->Option R)->Option R
 | 0,_,_,_,_,_=>none
 | n+1,done,opened,gF,J,k=>match Wy true dst all done all with
  | some (i,o)=>ED c dst (base+8*i) o opened gF J fun opened gF J=>Lw c base dst all n (i :: done) opened gF J k
  | none=>match gx done all with
   | []=>k J
   | x :: l=>qu ((x :: l).map fun x=>ED c dst (base+8*x.1) x.2 opened gF J fun opened gF J=>Lw c base dst all n (x.1 :: done) opened gF J k)
def CU (c:Ctx) (ops:Array Oper) (draw:Bool) (J:St) (k:St->Option R):Option R:=
 cond draw (cond (Gv true ops.toList) (M5 true c ops.toList (Be true ops.toList) J k)
   (cond (Gv false ops.toList && !D3 c J (zT 0 ops.toList)) (M5 false c ops.toList (Be false ops.toList) J k)
   (cond (KL (zT 0 ops.toList)) (Lw c J.next (pQ ops.toList) (zT 0 ops.toList) (ops.toList.length+1) [] [] [] J fun J'=>k { J' with next:=J.next+8*ops.toList.length }) none)))
  (M5 true c ops.toList (zT 0 ops.toList) J k)
def yL:Code->Option Nat
 | .region id _ _=>some id
 | .seq a b=>(yL a).orElse fun _=>yL b
 | .block _ b=>yL b
 | .loop b=>yL b
 | .cond _ a b=>(yL a).orElse fun _=>yL b
 | _=>none
def QO (step:St->(vp->St->Option R)->Option R) (lv:Cut):Nat->List (Nat×z7)->List Obj->(vp->St->Option R)->Option R
 | 0,_,_,_=>none
 | n+1,sl,os,k=>step (St.of sl os) fun e J=>match e with
  | .normal=>GW lv J fun sl os=>QO step lv n sl os k
  | e=>k e J
def Qb (c:Ctx) (r:Nat) (k:vp->St->Option R):vp->St->Option R
 | .exit id,J=>match c.z18 r id with
  | some lv=>norm lv J (k (.exit id))
  | none=>none
 | .ret,J=>norm c.res J (k .ret)
 | .normal,_=>none
def z6h (next:St->(vp->St->Option R)->Option R) (k:vp->St->Option R):vp->St->Option R
 | .normal,J=>next J k
 | e,J=>k e J
def Tg (id:Nat) (k:vp->St->Option R):vp->St->Option R
 | .exit j,J=>cond (Nat.beq j id) (k .normal J) (k (.exit j) J)
 | e,J=>k e J
def z6j (cut:Option Cut) (next:St->(vp->St->Option R)->Option R) (J:St) (k:vp->St->Option R):Option R:=
 match cut with
 | some lv=>norm lv J fun J=>next J k
 | none=>next J k
def cutAt (c:Ctx) (b:Code):Option Cut:=match b with
 | .loop _=>none
 | b=>(yL b).bind c.cut
def jh (c:Ctx):Code->St->(vp->St->Option R)->Option R
 | .skip,J,k=>k .normal J
 | .region _ ops draw,J,k=>CU c ops draw J (k .normal)
 | .seq a b,J,k=>jh c a J (z6h (z6j (cutAt c b) (jh c b)) k)
 | .cond x a b,J,k=>match ev J x with
  | some (.data .bool t)=>cond t (jh c a J k) (jh c b J k)
  | _=>none
 | .block id b,J,k=>jh c b J (Tg id k)
 | .loop b,J,k=>match yL b with
  | some r=>match c.cut r with
   | some lv=>match c.lp r with
    | some L=>GW lv J fun sl os=>L R sl os k
    | none=>none
   | none=>none
  | none=>none
 | .exit id,J,k=>k (.exit id) J
 | .ret,J,k=>k .ret J
 | _,_,_=>none
def yU:Code->List Code
 | .seq a b=>yU a++yU b
 | .cond _ a b=>yU a++yU b
 | .block _ b=>yU b
 | .loop b=>b :: yU b
 | _=>[]
def Zf (c:Ctx) (b:Code):Prop:=∀ r lv L,yL b=some r->c.cut r=some lv->c.lp r=some L->
 ∀ (R:Type) (sl:List (Nat×z7)) (os:List Obj) (k:vp->St->Option R) (x:R),L R sl os k=some x->QO (jh c b) lv c.fuel sl os (Qb c r k)=some x
def uE (r:Nat):List Code->Code
 | []=>.skip
 | b :: l=>match yL b with
  | some r'=>cond (Nat.beq r r') b (uE r l)
  | none=>uE r l
def rvK (tt:Nat->Option Ty) (J:St):ResultVar->(z7->Option R)->Option R
 | .tmp s,k=>match J.zj s with
  | some a=>k a
  | none=>none
 | .cell s T,k=>match J.zj s,tt T with
  | some x,some u=>BA J x fun a=>cond (u.sk.same a.sk) (k a) none
  | _,_=>none
def Vo (tt:Nat->Option Ty) (J:St):(ts:List Ty)->List ResultVar->(jv ts->St->Option R)->Option R
 | [],[],k=>k () J
 | [t],[s],k=>rvK tt J s fun a=>cond (a.val && a.sk.same t.sk) (j6 20 a t J k) none
 | t :: u :: ts,s :: l,k=>rvK tt J s fun a=>cond (a.val && a.sk.same t.sk) (j6 20 a t J fun d J=>Vo tt J (u :: ts) l fun ds J=>k (d,ds) J) none
 | _,_,_=>none
def j4:(p:kG)->p.den->Nat->Nat->Option z7
 | .pr (.val t) q,(x,y),i=>KK (j4 q y (i+1)) i (some (.data t x))
 | _,_,_=>fun _=>none
def entry (p:kG) (d:p.den):St:=⟨j4 p d 0,fun _=>none,0⟩
def z1q (c:Ctx) (ts:List Ty) (rs:List ResultVar) (body:Code) (J:St):Option (jv ts):=
 jh c body J fun e J=>match e with
  | .exit _=>none
  | _=>norm c.res J fun J=>Vo c.tt J ts rs fun r _=>some r
def z1p (c:Ctx) (zi:vO) (body:Code) (J:St):Option zi.den:=
 jh c body J fun e J=>match e with
  | .exit _=>none
  | _=>GW c.res J fun sl os=>zi.take sl os some
end
end Go.Kz
namespace Go.Kz
inductive Tag where
 | zn | ro | row (id:Nat) (p:Path) | box (id:Nat)
structure z8 where
 tag:Nat->Tag
 sv:Nat->Path->Value
 zt:Nat->Nat
abbrev AR:=Option (Nat×Path)
def stp (o:AR) (s:Step):AR:=o.map fun x=>(x.1,x.2++[s])
def qB (l:List Value) (off n:Nat):List Value:=(l.drop off).take n
def JX (F:(k:Nat)->Rec k->List Value->Prop) (w:World) (g:z8):(t:Ty)->t.den->List Value->Prop
 | .int k,n,cs=>cs=[.int k n]/\k.min<=n/\n<=k.max
 | .bool,b,cs=>cs=[.bool b]
 | .str,l,cs=>∃ s:ByteArray,cs=[.string s]/\s.data.toList=l/\s.size<=maxLen
 | .unit,_,cs=>cs=[]
 | .pair a b,(x,y),cs=>∃ c1 c2,cs=c1++c2/\JX F w g a x c1/\JX F w g b y c2
 | .arr n t,l,cs=>List.length l=n/\cs.length=n*t.size/\
   ∀ (i:Nat) (h:i < List.length l),JX F w g t (List.get l ⟨i,h⟩) (qB cs (i*t.size) t.size)
 | .sl false t,l,cs=>∃ a cap,cs=[.slice a (List.length l) cap]/\List.length l<=cap/\cap<=maxLen/\
   (l≠[]->∃ b off c e fz,a=some ⟨b,off,none⟩/\g.tag b = .ro/\w.heap[b]? = some (.cells c e fz)/\off+List.length l*t.size<=c.size/\
    ∀ (i:Nat) (h:i < List.length l),JX F w g t (List.get l ⟨i,h⟩) (qB c.toList (off+i*t.size) t.size))
 | .tree k,x,cs=>F k x cs
 | _,_,_=>False
def kn (w:World) (g:z8):Nat->(k:Nat)->Rec k->List Value->Prop
 | 0=>fun _ _ _=>False
 | n+1=>fun k x cs=>JX (kn w g n) w g (.pair (pn k) (pf k)) (vq k x) cs
def zC (w:World) (g:z8):AR->(t:Ty)->t.den->List Value->Prop
 | _,.int k,n,cs=>cs=[.int k n]/\k.min<=n/\n<=k.max
 | _,.bool,b,cs=>cs=[.bool b]
 | _,.str,l,cs=>∃ s:ByteArray,cs=[.string s]/\s.data.toList=l/\s.size<=maxLen
 | _,.unit,_,cs=>cs=[]
 | o,.pair a b,(x,y),cs=>∃ c1 c2,cs=c1++c2/\zC w g (stp o .fst) a x c1/\zC w g (stp o .snd) b y c2
 | o,.arr n t,l,cs=>List.length l=n/\cs.length=n*t.size/\
   ∀ (i:Nat) (h:i < List.length l),zC w g (stp o (.idx i)) t (List.get l ⟨i,h⟩) (qB cs (i*t.size) t.size)
 | _,.sl false t,l,cs=>∃ a cap,cs=[.slice a (List.length l) cap]/\List.length l<=cap/\cap<=maxLen/\
   (l≠[]->∃ b off c e fz,a=some ⟨b,off,none⟩/\g.tag b = .ro/\w.heap[b]? = some (.cells c e fz)/\off+List.length l*t.size<=c.size/\
    ∀ (i:Nat) (h:i < List.length l),zC w g none t (List.get l ⟨i,h⟩) (qB c.toList (off+i*t.size) t.size))
 | some (id,p),.sl true t,l,cs=>∃ a cap,cs=[.slice a (List.length l) cap]/\g.sv id p = .slice a (List.length l) cap/\List.length l<=cap/\cap<=maxLen/\
   ((a=none/\l=[]/\cap=0)\/∃ b off c e,a=some ⟨b,off,none⟩/\g.tag b = .row id p/\w.heap[b]? = some (.cells c e (0,0))/\off+cap*t.size<=c.size/\
    ∀ (i:Nat) (h:i < List.length l),zC w g (some (id,p++[.idx i])) t (List.get l ⟨i,h⟩) (qB c.toList (off+i*t.size) t.size))
 | none,.sl true _,_,_=>False
 | _,.ptr t,d,cs=>∃ b off c e fz,cs=[.pointer (some ⟨b,off,none⟩)]/\g.tag b = .ro/\w.heap[b]? = some (.cells c e fz)/\off+t.size<=c.size/\
   zC w g none t d (qB c.toList off t.size)
 | _,.fn f t,d,cs=>∃ vs,cs=[.func (.func f) #[] vs.toArray]/\zC w g none t d vs
 | _,.tree k,x,cs=>∃ n,kn w g n k x cs
theorem yV {l:List Value} {off n:Nat} (h:off+n<=l.length):(qB l off n).length=n:=by
 simp only [qB,P0,Lx];omega
theorem JX.len {F:(k:Nat)->Rec k->List Value->Prop} {w:World} {g:z8} (hF:∀ k x cs,F k x cs->cs.length=B9 k):{t:Ty}->{d:t.den}->{cs:List Value}->JX F w g t d cs->cs.length=t.size
 | .int _,_,_,h=>by obtain ⟨rfl,_⟩:=h;rfl
 | .bool,_,_,h=>by cases h;rfl
 | .str,_,_,h=>by obtain ⟨s,rfl,_⟩:=h;rfl
 | .unit,_,_,h=>by cases h;rfl
 | .pair a b,(x,y),_,h=>by
  obtain ⟨c1,c2,rfl,h1,h2⟩:=h
  simp only [Kj,Ty.size,JX.len hF h1,JX.len hF h2]
 | .arr n t,_,_,h=>h.2.1
 | .sl false t,_,_,h=>by obtain ⟨a,cap,rfl,_⟩:=h;rfl
 | .tree k,_,_,h=>hF _ _ _ h
theorem kn.len {w:World} {g:z8}:{n k:Nat}->{x:Rec k}->{cs:List Value}->kn w g n k x cs->cs.length=B9 k
 | n+1,k,_,_,h=>(JX.len (fun _ _ _ h=>kn.len h) h).trans (Uu k).symm
theorem zC.len {w:World} {g:z8}:{o:AR}->{t:Ty}->{d:t.den}->{cs:List Value}->zC w g o t d cs->cs.length=t.size
 | _,.int _,_,_,h=>by obtain ⟨rfl,_⟩:=h;rfl
 | _,.bool,_,_,h=>by cases h;rfl
 | _,.str,_,_,h=>by obtain ⟨s,rfl,_⟩:=h;rfl
 | _,.unit,_,_,h=>by cases h;rfl
 | _,.pair a b,(x,y),_,h=>by
  obtain ⟨c1,c2,rfl,h1,h2⟩:=h
  simp only [Kj,Ty.size,zC.len h1,zC.len h2]
 | _,.arr n t,_,_,h=>h.2.1
 | _,.sl false t,_,_,h=>by obtain ⟨a,cap,rfl,_⟩:=h;rfl
 | some (_,_),.sl true t,_,_,h=>by obtain ⟨a,cap,rfl,_⟩:=h;rfl
 | none,.sl true t,_,_,h=>h.elim
 | _,.ptr t,_,_,h=>by obtain ⟨b,off,c,e,fz,rfl,_⟩:=h;rfl
 | _,.fn f t,_,_,h=>by obtain ⟨vs,rfl,_⟩:=h;rfl
 | _,.tree k,_,_,h=>by obtain ⟨n,h⟩:=h;exact h.len
structure zO (w:World) (g:z8) (w':World) (g':z8):Prop where
 zt:∀ b,g.tag b = .ro->g'.tag b = .ro/\w'.heap[b]? = w.heap[b]?
structure xZ (w:World) (g:z8) (w':World) (g':z8) (id:Nat) (p:Path) (vu:Nat) (p':Path):Prop where
 sv:∀ q,g'.sv vu (p'++q)=g.sv id (p++q)
 zt:∀ q b,g.tag b = .row id (p++q)->g'.tag b = .row vu (p'++q)/\w'.heap[b]? = w.heap[b]?
def Gp (w:World) (g:z8) (w':World) (g':z8):AR->AR->Prop
 | some (id,p),some (vu,p')=>xZ w g w' g' id p vu p'
 | none,none=>True
 | _,_=>False
theorem xZ.step {w w':World} {g g':z8} {id vu:Nat} {p p':Path} (h:xZ w g w' g' id p vu p') (s:Step) :
  xZ w g w' g' id (p++[s]) vu (p'++[s]):=by
 refine ⟨fun q=>?_,fun q b hb=>?_⟩
 ·have:=h.sv ([s]++q);simpa using this
 ·have:=h.zt ([s]++q) b (by simpa using hb);simpa using this
theorem Gp.step {w w':World} {g g':z8}:{o o':AR}->(h:Gp w g w' g' o o')->(s:Step)->Gp w g w' g' (stp o s) (stp o' s)
 | some _,some _,h,s=>xZ.step h s
 | none,none,_,_=>trivial
 | some _,none,h,_=>h.elim
 | none,some _,h,_=>h.elim
theorem JX.move {F F':(k:Nat)->Rec k->List Value->Prop} {w w':World} {g g':z8} (hr:zO w g w' g') (hF:∀ k x cs,F k x cs->F' k x cs):{t:Ty}->{d:t.den}->{cs:List Value}->JX F w g t d cs->JX F' w' g' t d cs
 | .int _,_,_,h=>h
 | .bool,_,_,h=>h
 | .str,_,_,h=>h
 | .unit,_,_,h=>h
 | .pair a b,(x,y),_,h=>by
  obtain ⟨c1,c2,rfl,h1,h2⟩:=h
  exact ⟨c1,c2,rfl,JX.move hr hF h1,JX.move hr hF h2⟩
 | .arr n t,_,_,h=>⟨h.1,h.2.1,fun i hi=>JX.move hr hF (h.2.2 i hi)⟩
 | .sl false t,l,_,h=>by
  obtain ⟨a,cap,rfl,h1,h2,h3⟩:=h;refine ⟨a,cap,rfl,h1,h2,fun hn=>?_⟩;obtain ⟨b,off,c,e,fz,ha,ht,hb,hs,he⟩:=h3 hn;have hk:=hr.zt b ht
  exact ⟨b,off,c,e,fz,ha,hk.1,hk.2.trans hb,hs,fun i hi=>JX.move hr hF (he i hi)⟩
 | .tree k,_,_,h=>hF _ _ _ h
theorem kn.move {w w':World} {g g':z8} (hr:zO w g w' g'):{n k:Nat}->{x:Rec k}->{cs:List Value}->kn w g n k x cs->kn w' g' n k x cs
 | n+1,_,_,_,h=>JX.move hr (fun _ _ _ h=>kn.move hr h) h
theorem zO.rfl {w:World} {g:z8}:zO w g w g:=⟨fun _ h=>⟨h,_root_.rfl⟩⟩
theorem kn.mono {w:World} {g:z8}:{n m k:Nat}->{x:Rec k}->{cs:List Value}->n<=m->kn w g n k x cs->kn w g m k x cs
 | n+1,m+1,_,_,_,Zw,h=>JX.move .rfl (fun _ _ _ h=>kn.mono (by omega) h) h
theorem zC.move {w w':World} {g g':z8} (hr:zO w g w' g'):{o o':AR}->{t:Ty}->{d:t.den}->{cs:List Value}->
  (hm:Gp w g w' g' o o')->zC w g o t d cs->zC w' g' o' t d cs
 | _,_,.int _,_,_,_,h=>h
 | _,_,.bool,_,_,_,h=>h
 | _,_,.str,_,_,_,h=>h
 | _,_,.unit,_,_,_,h=>h
 | _,_,.pair a b,(x,y),_,hm,h=>by
  obtain ⟨c1,c2,rfl,h1,h2⟩:=h
  exact ⟨c1,c2,rfl,zC.move hr (hm.step _) h1,zC.move hr (hm.step _) h2⟩
 | _,_,.arr n t,_,_,hm,h=>⟨h.1,h.2.1,fun i hi=>zC.move hr (hm.step _) (h.2.2 i hi)⟩
 | _,_,.sl false t,l,_,_,h=>by
  obtain ⟨a,cap,rfl,h1,h2,h3⟩:=h;refine ⟨a,cap,rfl,h1,h2,fun hn=>?_⟩;obtain ⟨b,off,c,e,fz,ha,ht,hb,hs,he⟩:=h3 hn;have hk:=hr.zt b ht
  exact ⟨b,off,c,e,fz,ha,hk.1,hk.2.trans hb,hs,fun i hi=>zC.move hr (o:=none) (o':=none) trivial (he i hi)⟩
 | some (id,p),some (vu,p'),.sl true t,l,_,hm,h=>by
  obtain ⟨a,cap,rfl,h0,h1,h2,h3⟩:=h;have Xy:xZ w g w' g' id p vu p':=hm;refine ⟨a,cap,rfl,?_,h1,h2,?_⟩
  ·have:=Xy.sv [];simp only [AL] at this;rw [this];exact h0
  ·rcases h3 with h3 | ⟨b,off,c,e,ha,ht,hb,hs,he⟩
   ·exact .inl h3
   ·have hk:=Xy.zt [] b (by simpa using ht);simp only [AL] at hk
    exact .inr ⟨b,off,c,e,ha,hk.1,hk.2.trans hb,hs,fun i hi=>zC.move hr (o:=some (id,p++[Step.idx (i:Int)])) (o':=some (vu,p'++[Step.idx (i:Int)])) (Xy.step _) (he i hi)⟩
 | some _,none,.sl true _,_,_,hm,_=>hm.elim
 | none,_,.sl true _,_,_,_,h=>h.elim
 | _,_,.ptr t,_,_,_,h=>by
  obtain ⟨b,off,c,e,fz,rfl,ht,hb,hs,he⟩:=h;have hk:=hr.zt b ht
  exact ⟨b,off,c,e,fz,rfl,hk.1,hk.2.trans hb,hs,zC.move hr (o:=none) (o':=none) trivial he⟩
 | _,_,.fn f t,_,_,_,h=>by
  obtain ⟨vs,rfl,he⟩:=h
  exact ⟨vs,rfl,zC.move hr (o:=none) (o':=none) trivial he⟩
 | _,_,.tree k,_,_,_,h=>by obtain ⟨n,h⟩:=h;exact ⟨n,h.move hr⟩
theorem zC.kept {w w':World} {g g':z8} (hr:zO w g w' g') {t:Ty} {d:t.den} {cs:List Value} (h:zC w g none t d cs):zC w' g' none t d cs:=
 zC.move hr (o:=none) (o':=none) trivial h
structure Zh (w:World) (g:z8) (w':World) (g':z8) (id:Nat) (p:Path):Prop where
 zt:∀ q b,g.tag b = .row id (p++q)->g'.tag b = .ro/\w'.heap[b]? = w.heap[b]?
def PT (w:World) (g:z8) (w':World) (g':z8):AR->Prop
 | some (id,p)=>Zh w g w' g' id p
 | none=>True
theorem Zh.step {w w':World} {g g':z8} {id:Nat} {p:Path} (h:Zh w g w' g' id p) (s:Step):Zh w g w' g' id (p++[s]):=
 ⟨fun q b hb=>h.zt ([s]++q) b (by simpa using hb)⟩
theorem PT.step {w w':World} {g g':z8}:{o:AR}->(h:PT w g w' g' o)->(s:Step)->PT w g w' g' (stp o s)
 | some _,h,s=>Zh.step h s
 | none,_,_=>trivial
theorem Ty.qH:(t:Ty)->t.ro.size=t.size
 | .int _=>rfl
 | .bool=>rfl
 | .str=>rfl
 | .unit=>rfl
 | .pair a b=>by simp only [Ty.ro,Ty.size,Ty.qH a,Ty.qH b]
 | .arr n t=>by simp only [Ty.ro,Ty.size,Ty.qH t]
 | .sl _ t=>rfl
 | .ptr _=>rfl
 | .fn _ _=>rfl
 | .tree _=>rfl
theorem No (a b:Ty) (x:a.den) (y:b.den):Ty.kZ (.pair a b) (x,y)=(Ty.kZ a x,Ty.kZ b y):=by
 have ha:=Ty.gb a;have hb:=Ty.gb b;unfold Ty.kZ;have key:∀ (A A' B B':Type) (h1:A'=A) (h2:B'=B) (h3:(A'×B')=(A×B)) (x:A) (y:B),cast h3.symm (x,y)=(cast h1.symm x,cast h2.symm y):=by
  intro A A' B B' h1 h2 h3 x y;subst h1;subst h2;rfl
 exact key _ _ _ _ ha hb (Ty.gb (.pair a b)) x y
theorem Af (t:Ty) (l:List t.den) (h:List t.ro.den=List t.den):cast h.symm l=l.map (Ty.kZ t):=by
 unfold Ty.kZ;have key:∀ (A A':Type) (h1:A'=A) (h3:List A'=List A) (l:List A),cast h3.symm l=l.map (cast h1.symm):=by
  intro A A' h1 h3 l;subst h1;exact (List.map_id l).symm
 exact key _ _ (Ty.gb t) h l
theorem Ve (o:Bool) (t:Ty) (l:List t.den):Ty.kZ (.sl o t) l=(l.map (Ty.kZ t):List t.ro.den):=Af t l (Ty.gb (.sl o t))
theorem Rf (n:Nat) (t:Ty) (l:List t.den):Ty.kZ (.arr n t) l=(l.map (Ty.kZ t):List t.ro.den):=Af t l (Ty.gb (.arr n t))
theorem Re (t:Ty) (d:t.den):Ty.kZ (.ptr t) d=Ty.kZ t d:=rfl
theorem z5a (f:Nat) (t:Ty) (d:t.den):Ty.kZ (.fn f t) d=Ty.kZ t d:=rfl
theorem zC.freeze {w w':World} {g g':z8} (hr:zO w g w' g'):{o:AR}->{t:Ty}->{d:t.den}->{cs:List Value}->
  (hm:PT w g w' g' o)->zC w g o t d cs->zC w' g' none t.ro (Ty.kZ t d) cs
 | _,.int _,_,_,_,h=>h
 | _,.bool,_,_,_,h=>h
 | _,.str,_,_,_,h=>h
 | _,.unit,_,_,_,h=>h
 | _,.pair a b,(x,y),_,hm,h=>by
  obtain ⟨c1,c2,rfl,h1,h2⟩:=h;rw [No]
  exact ⟨c1,c2,rfl,zC.freeze hr (hm.step _) h1,zC.freeze hr (hm.step _) h2⟩
 | _,.arr n t,l,_,hm,h=>by
  rw [Rf];refine ⟨by simpa using h.1,by rw [Ty.qH];exact h.2.1,fun i hi=>?_⟩;have vf:i < List.length l:=by simpa using hi
  have:=zC.freeze hr (hm.step _) (h.2.2 i vf);simp only [HV,Np,Ty.qH] at this ⊢
  exact this
 | _,.sl false t,l,_,_,h=>by
  obtain ⟨a,cap,rfl,h1,h2,h3⟩:=h;rw [Ve];refine ⟨a,cap,by simp,by simpa using h1,h2,fun hn=>?_⟩;obtain ⟨b,off,c,e,fz,ha,ht,hb,hs,he⟩:=h3 (by intro h;exact hn (by rw [h];rfl));have hk:=hr.zt b ht;refine ⟨b,off,c,e,fz,ha,hk.1,hk.2.trans hb,by simpa [Ty.qH] using hs,fun i hi=>?_⟩;have vf:i < List.length l:=by simpa using hi
  have:=zC.freeze hr (o:=none) trivial (he i vf);simp only [HV,Np,Ty.qH] at this ⊢
  exact this
 | some (id,p),.sl true t,l,_,hm,h=>by
  obtain ⟨a,cap,rfl,h0,h1,h2,h3⟩:=h;have Xy:Zh w g w' g' id p:=hm;rw [Ve];refine ⟨a,cap,by simp,by simpa using h1,h2,fun hn=>?_⟩;have IH:l≠[]:=by intro h;exact hn (by rw [h];rfl)
  rcases h3 with h3 | ⟨b,off,c,e,ha,ht,hb,hs,he⟩
  ·exact absurd h3.2.1 IH
  ·have hk:=Xy.zt [] b (by simpa using ht);refine ⟨b,off,c,e,(0,0),ha,hk.1,hk.2.trans hb,?_,fun i hi=>?_⟩
   ·have:List.length l*t.size<=cap*t.size:=kj _ h1;simp only [Jk,Ty.qH];omega
   ·have vf:i < List.length l:=by simpa using hi
    have:=zC.freeze hr (o:=some (id,p++[Step.idx (i:Int)])) (Xy.step _) (he i vf);simp only [HV,Np,Ty.qH] at this ⊢
    exact this
 | none,.sl true _,_,_,_,h=>h.elim
 | _,.ptr t,_,_,_,h=>by
  obtain ⟨b,off,c,e,fz,rfl,ht,hb,hs,he⟩:=h;have hk:=hr.zt b ht;rw [Re];refine ⟨b,off,c,e,fz,rfl,hk.1,hk.2.trans hb,by rw [Ty.qH];exact hs,?_⟩;rw [Ty.qH]
  exact zC.freeze hr (o:=none) trivial he
 | _,.fn f t,_,_,_,h=>by
  obtain ⟨vs,rfl,he⟩:=h;rw [z5a]
  exact ⟨vs,rfl,zC.freeze hr (o:=none) trivial he⟩
 | _,.tree k,x,_,_,h=>by obtain ⟨n,h⟩:=h;exact ⟨n,h.move hr⟩
def Ty.plain:Ty->Bool
 | .int _ | .bool | .str | .unit=>true
 | .pair a b=>a.plain && b.plain
 | .arr _ t=>t.plain
 | .sl false t=>t.plain
 | .tree _=>true
 | _=>false
theorem Ty.xN:{t:Ty}->t.plain=true->t.zV=true
 | .int _,_=>rfl
 | .bool,_=>rfl
 | .str,_=>rfl
 | .unit,_=>rfl
 | .pair a b,h=>by simp only [Ty.plain,zA] at h;simp [Ty.zV,Ty.xN h.1,Ty.xN h.2]
 | .arr _ t,h=>by simp only [Ty.plain] at h;simp only [Ty.zV];exact Ty.xN h
 | .sl false t,h=>by simp only [Ty.plain] at h;simp only [Ty.zV];simpa using Ty.xN h
 | .sl true _,h=>by simp [Ty.plain] at h
 | .ptr _,h=>by simp [Ty.plain] at h
 | .fn _ _,h=>by simp [Ty.plain] at h
 | .tree _,_=>rfl
theorem B8:(k:Nat)->(Ty.pair (pn k) (pf k)).plain=true
 | 0=>rfl
 | 1=>rfl
 | _+2=>rfl
theorem zC.Et {w:World} {g:z8} {n:Nat}:{t:Ty}->{d:t.den}->{cs:List Value}->JX (kn w g n) w g t d cs->zC w g none t d cs
 | .int _,_,_,h=>h
 | .bool,_,_,h=>h
 | .str,_,_,h=>h
 | .unit,_,_,h=>h
 | .pair a b,(x,y),_,h=>by
  obtain ⟨c1,c2,rfl,h1,h2⟩:=h
  exact ⟨c1,c2,rfl,zC.Et h1,zC.Et h2⟩
 | .arr n t,_,_,h=>⟨h.1,h.2.1,fun i hi=>zC.Et (h.2.2 i hi)⟩
 | .sl false t,l,_,h=>by
  obtain ⟨a,cap,rfl,h1,h2,h3⟩:=h;refine ⟨a,cap,rfl,h1,h2,fun hn=>?_⟩;obtain ⟨b,off,c,e,fz,ha,ht,hb,hs,he⟩:=h3 hn
  exact ⟨b,off,c,e,fz,ha,ht,hb,hs,fun i hi=>zC.Et (he i hi)⟩
 | .tree k,_,_,h=>⟨n,h⟩
theorem Gw {p:Nat->Nat->Prop} (hp:∀ n m i,n<=m->p n i->p m i):(l:Nat)->(∀ i,i < l->∃ n,p n i)->∃ n,∀ i,i < l->p n i
 | 0,_=>⟨0,fun i hi=>by omega⟩
 | l+1,h=>by
  obtain ⟨n,hn⟩:=Gw hp l fun i hi=>h i (by omega)
  obtain ⟨m,hm⟩:=h l (by omega);refine ⟨max n m,fun i hi=>?_⟩;by_cases he:i=l
  ·subst he;exact hp _ _ _ (by omega) hm
  ·exact hp _ _ _ (by omega) (hn i (by omega))
theorem zC.EX {w:World} {g:z8}:{t:Ty}->{d:t.den}->{cs:List Value}->t.plain=true->zC w g none t d cs->∃ n,JX (kn w g n) w g t d cs
 | .int _,_,_,_,h=>⟨0,h⟩
 | .bool,_,_,_,h=>⟨0,h⟩
 | .str,_,_,_,h=>⟨0,h⟩
 | .unit,_,_,_,h=>⟨0,h⟩
 | .pair a b,(x,y),_,hp,h=>by
  simp only [Ty.plain,zA] at hp;obtain ⟨c1,c2,rfl,h1,h2⟩:=h;obtain ⟨n,h1⟩:=zC.EX hp.1 h1;obtain ⟨m,h2⟩:=zC.EX hp.2 h2
  exact ⟨max n m,c1,c2,rfl,JX.move .rfl (fun _ _ _ h=>h.mono (by omega)) h1,JX.move .rfl (fun _ _ _ h=>h.mono (by omega)) h2⟩
 | .arr k t,l,cs,hp,h=>by
  obtain ⟨n,hn⟩:=Gw (p:=fun n i=>∀ hi:i < List.length l,JX (kn w g n) w g t (List.get l ⟨i,hi⟩) (qB cs (i*t.size) t.size))
   (fun n m i Zw h hi=>JX.move .rfl (fun _ _ _ h=>h.mono Zw) (h hi)) (List.length l) fun i hi=>by
    obtain ⟨n,hn⟩:=zC.EX (by simpa [Ty.plain] using hp) (h.2.2 i hi);exact ⟨n,fun _=>hn⟩
  exact ⟨n,h.1,h.2.1,fun i hi=>hn i hi hi⟩
 | .sl false t,l,cs,hp,h=>by
  obtain ⟨a,cap,rfl,h1,h2,h3⟩:=h;by_cases hl:l=[]
  ·exact ⟨0,a,cap,rfl,h1,h2,fun hn=>absurd hl hn⟩
  obtain ⟨b,off,c,e,fz,ha,ht,hb,hs,he⟩:=h3 hl;obtain ⟨n,hn⟩:=Gw (p:=fun n i=>∀ hi:i < List.length l,JX (kn w g n) w g t (List.get l ⟨i,hi⟩) (qB c.toList (off+i*t.size) t.size))
   (fun n m i Zw h hi=>JX.move .rfl (fun _ _ _ h=>h.mono Zw) (h hi)) (List.length l) fun i hi=>by
    obtain ⟨n,hn⟩:=zC.EX (by simpa [Ty.plain] using hp) (he i hi);exact ⟨n,fun _=>hn⟩
  exact ⟨n,a,cap,rfl,h1,h2,fun _=>⟨b,off,c,e,fz,ha,ht,hb,hs,fun i hi=>hn i hi hi⟩⟩
 | .tree k,_,_,_,h=>h
 | .sl true _,_,_,hp,_=>by simp [Ty.plain] at hp
 | .ptr _,_,_,hp,_=>by simp [Ty.plain] at hp
 | .fn _ _,_,_,hp,_=>by simp [Ty.plain] at hp
theorem zC.Vd {w:World} {g:z8} {o:AR} {k:Nat} {x:Rec k} {cs:List Value}:zC w g o (.tree k) x cs↔zC w g none (.pair (pn k) (pf k)) (vq k x) cs:=by
 refine ⟨fun h=>?_,fun h=>?_⟩
 ·obtain ⟨n,h⟩:=h
  cases n with
  | zero=>exact h.elim
  | succ n=>exact zC.Et h
 ·obtain ⟨n,h⟩:=zC.EX (B8 k) h;exact ⟨n+1,h⟩
end Go.Kz
namespace Go.Kz
def zU (l:List Value) (off:Nat) (x:List Value):List Value:=l.take off++x++l.drop (off+x.length)
theorem gh (l:List Value) (a n b m:Nat) (h:b+m<=n):qB (qB l a n) b m=qB l (a+b) m:=by
 simp only [qB,Z49,Ng,Z33];congr 1;omega
theorem kU (l:List Value):qB l 0 l.length=l:=by simp [qB]
theorem qd (a b:List Value) (off n:Nat) (h:off+n<=a.length):qB (a++b) off n=qB a off n:=by
 simp only [qB];rw [Z34 (by omega),Z3n (by simp;omega)]
theorem KP (a b:List Value) (off n:Nat):qB (a++b) (a.length+off) n=qB b off n:=by
 simp only [qB,Z3o,Dt (show a.length<=a.length+off by omega),Zu];congr 2;omega
theorem y8 (a b:List Value) (k off n:Nat) (h:k=a.length):qB (a++b) (k+off) n=qB b off n:=by
 subst h;exact KP a b off n
theorem yM (l:List Value) (off:Nat) (x:List Value) (h:off+x.length<=l.length):(zU l off x).length=l.length:=by
 simp only [zU,Kj,P0,Lx];omega
theorem vc (a b:List Value) (off:Nat) (x:List Value) (h:off+x.length<=a.length):zU (a++b) off x=zU a off x++b:=by
 simp only [zU,Z3n (show off<=a.length by omega),Z34 h,VO]
theorem vG (a b:List Value) (k off:Nat) (x:List Value) (h:k=a.length):zU (a++b) (k+off) x=a++zU b off x:=by
 subst h;simp only [zU,List.take_append,Z2d (show a.length<=a.length+off by omega),VO];congr 1;congr 1
 ·congr 1;omega
 ·congr 1;rw [Z3o,Dt (by omega),Zu];congr 1;omega
theorem pK (l:List Value) (off:Nat) (x:List Value) (h:off+x.length<=l.length):qB (zU l off x) off x.length=x:=by
 simp only [qB,zU,VO];rw [Z34 (by simp;omega),Dt (by simp;omega),Zu,List.take_left'];rfl
theorem jj (l:List Value) (off:Nat) (x:List Value) (a n:Nat) (h:a+n<=off) (hl:off<=l.length):qB (zU l off x) a n=qB l a n:=by
 simp only [zU,VO];rw [qd _ _ _ _ (by simp;omega)];simp only [qB,Z49,Z33];congr 1;omega
theorem vD (l:List Value) (off:Nat) (x:List Value) (a n:Nat) (h:off+x.length<=a) (hl:off+x.length<=l.length):qB (zU l off x) a n=qB l a n:=by
 obtain ⟨k,rfl⟩:∃ k,a=off+x.length+k:=⟨a-(off+x.length),by omega⟩;simp only [zU];rw [y8 _ _ _ _ _ (by simp;omega)];simp only [qB,Ng]
theorem gI (l:List Value) (a n off:Nat) (x:List Value) (h:off+x.length<=n) (hl:a+n<=l.length) :
  qB (zU l (a+off) x) a n=zU (qB l a n) off x:=by
 have e:l=l.take a++(qB l a n++l.drop (a+n)):=by
  simp only [qB];rw [<-Ng,RU,RU]
 have hs:(qB l a n).length=n:=yV hl;have ha:(l.take a).length=a:=by simp;omega
 have e2:zU l (a+off) x=l.take a++(zU (qB l a n) off x++l.drop (a+n)):=by
  conv=>lhs;rw [e]
  rw [vG _ _ _ _ _ ha.symm,vc _ _ _ _ (by omega)]
 rw [e2];have hsp:(zU (qB l a n) off x).length=n:=by rw [yM _ _ _ (by omega),hs]
 have:=y8 (l.take a) (zU (qB l a n) off x++l.drop (a+n)) a 0 n ha.symm;simp only [RG] at this;rw [this,qd _ _ _ _ (by omega)];have h2:=kU (zU (qB l a n) off x);rw [hsp] at h2;exact h2
def Sk.off:Sk->Path->Option (Nat×Sk)
 | s,[]=>some (0,s)
 | .pair a _,.fst :: p=>a.off p
 | .pair a b,.snd :: p=>(b.off p).map fun x=>(a.size+x.1,x.2)
 | .arr n t,.idx i :: p=>if 0<=i/\i < n then (t.off p).map fun x=>(i.toNat*t.size+x.1,x.2) else none
 | _,_=>none
theorem Ty.zZ:(t:Ty)->t.sk.size=t.size
 | .int _=>rfl
 | .bool=>rfl
 | .str=>rfl
 | .unit=>rfl
 | .pair a b=>by simp only [Ty.sk,Sk.size,Ty.size,Ty.zZ a,Ty.zZ b]
 | .arr n t=>by simp only [Ty.sk,Sk.size,Ty.size,Ty.zZ t]
 | .sl _ t=>rfl
 | .ptr _=>rfl
 | .fn _ _=>rfl
 | .tree _=>rfl
theorem Sk.qw:{a b:Sk}->a.same b=true->a=b
 | .leaf,.leaf,_=>rfl
 | .unit,.unit,_=>rfl
 | .pair a b,.pair c d,h=>by
  simp only [Sk.same,zA] at h
  rw [Sk.qw h.1,Sk.qw h.2]
 | .arr n t,.arr m u,h=>by
  simp only [Sk.same,zA] at h
  rw [zE h.1,Sk.qw h.2]
 | .leaf,.unit,h | .leaf,.pair _ _,h | .leaf,.arr _ _,h | .unit,.leaf,h | .unit,.pair _ _,h | .unit,.arr _ _,h
 | .pair _ _,.leaf,h | .pair _ _,.unit,h | .pair _ _,.arr _ _,h | .arr _ _,.leaf,h | .arr _ _,.unit,h | .arr _ _,.pair _ _,h=>by simp [Sk.same] at h
 | .tree _,.tree _,h=>by simp only [Sk.same] at h;rw [zE h]
 | .leaf,.tree _,h | .unit,.tree _,h | .pair _ _,.tree _,h | .arr _ _,.tree _,h | .tree _,.leaf,h | .tree _,.unit,h | .tree _,.pair _ _,h | .tree _,.arr _ _,h=>by simp [Sk.same] at h
theorem Sk.wU:{s:Sk}->{p:Path}->{o:Nat}->{s':Sk}->s.off p=some (o,s')->o+s'.size<=s.size
 | s,[],o,s',h=>by simp only [Sk.off,zI,gB] at h;obtain ⟨rfl,rfl⟩:=h;omega
 | .pair a b,.fst :: p,o,s',h=>by
  simp only [Sk.off] at h
  have:=Sk.wU h;simp only [Sk.size];omega
 | .pair a b,.snd :: p,o,s',h=>by
  simp only [Sk.off,wq,gB] at h;obtain ⟨x,hx,rfl,rfl⟩:=h
  have:=Sk.wU (s:=b) (p:=p) (o:=x.1) (s':=x.2) hx;simp only [Sk.size];omega
 | .arr n t,.idx i :: p,o,s',h=>by
  simp only [Sk.off] at h;split at h
  ·rename_i hi;simp only [wq,gB] at h;obtain ⟨x,hx,rfl,rfl⟩:=h;have:=Sk.wU (s:=t) (p:=p) (o:=x.1) (s':=x.2) hx;have h2:(i.toNat+1)*t.size<=n*t.size:=kj _ (by omega);simp only [Sk.size];rw [wz] at h2;omega
  ·simp at h
 | .leaf,_ :: _,_,_,h | .unit,_ :: _,_,_,h | .tree _,_ :: _,_,_,h | .pair _ _,.idx _ :: _,_,_,h | .arr _ _,.fst :: _,_,_,h | .arr _ _,.snd :: _,_,_,h=>by simp [Sk.off] at h
theorem Sk.uA:{s:Sk}->{p:Path}->{o:Nat}->{s':Sk}->(q:Path)->s.off p=some (o,s')->s.off (p++q)=(s'.off q).map fun x=>(o+x.1,x.2)
 | s,[],o,s',q,h=>by simp only [Sk.off,zI,gB] at h;obtain ⟨rfl,rfl⟩:=h;simp
 | .pair a b,.fst :: p,o,s',q,h=>by
  simp only [Sk.off,ue] at h ⊢
  exact Sk.uA q h
 | .pair a b,.snd :: p,o,s',q,h=>by
  simp only [Sk.off,wq,gB,ue] at h ⊢;obtain ⟨x,hx,rfl,rfl⟩:=h;rw [Sk.uA (s:=b) (p:=p) (o:=x.1) (s':=x.2) q hx,Option.map_map]
  congr 1;funext y;simp [R4]
 | .arr n t,.idx i :: p,o,s',q,h=>by
  simp only [Sk.off,ue] at h ⊢;split at h
  ·simp only [wq,gB] at h;obtain ⟨x,hx,rfl,rfl⟩:=h;rw [Sk.uA (s:=t) (p:=p) (o:=x.1) (s':=x.2) q hx,Option.map_map];rename_i hi;rw [yW hi];congr 1;funext y;simp [R4]
  ·simp at h
 | .leaf,_ :: _,_,_,_,h | .unit,_ :: _,_,_,_,h | .pair _ _,.idx _ :: _,_,_,_,h | .arr _ _,.fst :: _,_,_,_,h | .arr _ _,.snd :: _,_,_,_,h=>by simp [Sk.off] at h
theorem jf {I:Type} {l:List I} {i:Int} {x:I} (h:idx l i=some x):0<=i/\∃ hi:i.toNat < l.length,l.get ⟨i.toNat,hi⟩=x/\i < l.length:=by
 cases i with
 | ofNat n=>
  simp only [idx] at h;obtain ⟨hn,hx⟩:=Z3p.1 h
  exact ⟨Z4x n,by simpa using hn,by simpa using hx,by show ((n:Nat):Int) < _;omega⟩
 | negSucc n=>simp [idx] at h
variable {R:Type}
theorem Z0 {w:World} {g:z8}:{t:Ty}->{d:t.den}->{p:Path}->{k:(u:Ty)->u.den->Option R}->{r:R}->{cs:List Value}->
  t.zV=true->zC w g none t d cs->za t d p k=some r->
  ∃ u e off,k u e=some r/\u.zV=true/\t.sk.off p=some (off,u.sk)/\zC w g none u e (qB cs off u.size)
 | t,d,[],k,r,cs,ht,zX,h=>by
  have hk:k t d=some r:=by cases t <;> simpa [za] using h
  refine ⟨t,d,0,hk,ht,?_,?_⟩
  ·simp [Sk.off]
  ·rw [<-zX.len,kU];exact zX
 | .pair a b,(x,y),.fst :: p,k,r,cs,ht,zX,h=>by
  simp only [za] at h;obtain ⟨c1,c2,rfl,h1,h2⟩:=zX;simp only [Ty.zV,zA] at ht;obtain ⟨u,e,off,hk,hu,ho,hr⟩:=Z0 ht.1 h1 h;refine ⟨u,e,off,hk,hu,by simpa [Ty.sk,Sk.off] using ho,?_⟩;have:=Sk.wU ho;rw [Ty.zZ,Ty.zZ] at this
  rw [qd _ _ _ _ (by rw [h1.len];exact this)];exact hr
 | .pair a b,(x,y),.snd :: p,k,r,cs,ht,zX,h=>by
  simp only [za] at h;obtain ⟨c1,c2,rfl,h1,h2⟩:=zX;simp only [Ty.zV,zA] at ht;obtain ⟨u,e,off,hk,hu,ho,hr⟩:=Z0 ht.2 h2 h;refine ⟨u,e,a.sk.size+off,hk,hu,by simp [Ty.sk,Sk.off,ho],?_⟩
  rw [y8 _ _ _ _ _ (by rw [h1.len,Ty.zZ])];exact hr
 | .arr n t,l,.idx i :: p,k,r,cs,ht,zX,h=>by
  simp only [za,VN] at h;obtain ⟨x,hx,h⟩:=h;obtain ⟨h0,hi,rfl,qJ⟩:=jf hx;have ht':t.zV=true:=by simpa [Ty.zV] using ht
  have hl:=zX.1;have hn:i.toNat < n:=by rw [<-hl];exact hi
  obtain ⟨u,e,off,hk,hu,ho,hr⟩:=Z0 ht' (zX.2.2 _ hi) h;refine ⟨u,e,i.toNat*t.sk.size+off,hk,hu,?_,?_⟩
  ·simp only [Ty.sk,Sk.off];rw [yW ⟨h0,by omega⟩,ho];rfl
  ·have:=Sk.wU ho;rw [Ty.zZ,Ty.zZ] at this;rw [gh _ _ _ _ _ this] at hr
   rw [Ty.zZ];exact hr
 | .sl true t,l,.idx i :: p,k,r,cs,ht,zX,h=>by simp [Ty.zV] at ht
 | .sl false t,l,s :: p,k,r,cs,ht,zX,h=>by cases s <;> simp [za] at h
 | .sl true t,l,.fst :: p,k,r,cs,ht,zX,h=>by simp [za] at h
 | .sl true t,l,.snd :: p,k,r,cs,ht,zX,h=>by simp [za] at h
 | .int _,_,s :: _,_,_,_,_,_,h=>by cases s <;> simp [za] at h
 | .bool,_,s :: _,_,_,_,_,_,h=>by cases s <;> simp [za] at h
 | .str,_,s :: _,_,_,_,_,_,h=>by cases s <;> simp [za] at h
 | .unit,_,s :: _,_,_,_,_,_,h=>by cases s <;> simp [za] at h
 | .ptr _,_,s :: _,_,_,_,_,_,h=>by cases s <;> simp [za] at h
 | .fn _ _,_,s :: _,_,_,_,_,_,h=>by cases s <;> simp [za] at h
 | .tree _,_,s :: _,_,_,_,_,_,h=>by cases s <;> simp [za] at h
 | .pair _ _,_,.idx _ :: _,_,_,_,_,_,h=>by simp [za] at h
 | .arr _ _,_,.fst :: _,_,_,_,_,_,h=>by simp [za] at h
 | .arr _ _,_,.snd :: _,_,_,_,_,_,h=>by simp [za] at h
end Go.Kz
namespace Go.Kz
variable {R:Type}
theorem zC.qt {w:World} {g:z8}:{o o':AR}->{t:Ty}->{d:t.den}->{cs:List Value}->t.zV=true->zC w g o t d cs->zC w g o' t d cs
 | _,_,.int _,_,_,_,h=>h
 | _,_,.bool,_,_,_,h=>h
 | _,_,.str,_,_,_,h=>h
 | _,_,.unit,_,_,_,h=>h
 | _,_,.pair a b,(x,y),_,ht,h=>by
  simp only [Ty.zV,zA] at ht;obtain ⟨c1,c2,rfl,h1,h2⟩:=h
  exact ⟨c1,c2,rfl,zC.qt ht.1 h1,zC.qt ht.2 h2⟩
 | _,_,.arr n t,_,_,ht,h=>⟨h.1,h.2.1,fun i hi=>zC.qt (by simpa [Ty.zV] using ht) (h.2.2 i hi)⟩
 | _,_,.sl false t,_,_,_,h=>h
 | _,_,.sl true t,_,_,ht,_=>by simp [Ty.zV] at ht
 | _,_,.ptr t,_,_,_,h=>h
 | _,_,.fn f t,_,_,_,h=>h
 | _,_,.tree _,_,_,_,h=>h
theorem qS {a b:Ty} {d:a.den} {k:b.den->Option R} {r:R} (h:pJ a b d k=some r):∃ e:a=b,k (cast (C6 Ty.den e) d)=some r:=by
 unfold pJ at h;split at h
 ·rename_i x hx;exact ⟨x.down,h⟩
 ·simp at h
theorem qF {I:Type} (l:List I) (i:Int) (x:I):(wx l i x).length=l.length:=by simp [wx]
theorem QJ {I:Type} (l:List I) (i:Int) (x:I) (j:Nat) (hj:j < (wx l i x).length) :
  (wx l i x).get ⟨j,hj⟩=if i.toNat=j then x else l.get ⟨j,by simpa [wx] using hj⟩:=by
 simp [wx,Z4a]
theorem xE {w:World} {g:z8}:{t:Ty}->{d:t.den}->{p:Path}->{u:Ty}->{e:u.den}->{k:t.den->Option R}->{r:R}->{cs AE:List Value}->
  t.zV=true->zC w g none t d cs->zC w g none u e AE->jM t d p u e k=some r->
  ∃ d' off,k d'=some r/\t.sk.off p=some (off,u.sk)/\zC w g none t d' (zU cs off AE)
 | t,d,[],u,e,k,r,cs,AE,ht,zX,Q6,h=>by
  have hk:pJ u t e k=some r:=by cases t <;> simpa [jM] using h
  obtain ⟨rfl,hk⟩:=qS hk;refine ⟨e,0,hk,by simp [Sk.off],?_⟩;have:zU cs 0 AE=AE:=by
   simp only [zU,Z20,Zu,Zp];rw [Q6.len,<-zX.len];simp
  rw [this];exact Q6
 | .pair a b,(x,y),.fst :: p,u,e,k,r,cs,AE,ht,zX,Q6,h=>by
  simp only [jM] at h;obtain ⟨c1,c2,rfl,h1,h2⟩:=zX;simp only [Ty.zV,zA] at ht;obtain ⟨d',off,hk,ho,hr⟩:=xE ht.1 h1 Q6 h;refine ⟨_,off,hk,by simpa [Ty.sk,Sk.off] using ho,?_⟩;have:=Sk.wU ho;rw [Ty.zZ,Ty.zZ] at this;rw [vc _ _ _ _ (by rw [h1.len,Q6.len];exact this)]
  exact ⟨_,_,rfl,hr,h2⟩
 | .pair a b,(x,y),.snd :: p,u,e,k,r,cs,AE,ht,zX,Q6,h=>by
  simp only [jM] at h;obtain ⟨c1,c2,rfl,h1,h2⟩:=zX;simp only [Ty.zV,zA] at ht;obtain ⟨d',off,hk,ho,hr⟩:=xE ht.2 h2 Q6 h;refine ⟨_,a.sk.size+off,hk,by simp [Ty.sk,Sk.off,ho],?_⟩;rw [vG _ _ _ _ _ (by rw [h1.len,Ty.zZ])]
  exact ⟨_,_,rfl,h1,hr⟩
 | .arr n t,l,.idx i :: p,u,e,k,r,cs,AE,ht,zX,Q6,h=>by
  simp only [jM,VN] at h;obtain ⟨x,hx,h⟩:=h;obtain ⟨h0,hi,rfl,qJ⟩:=jf hx;have ht':t.zV=true:=by simpa [Ty.zV] using ht
  have hl:=zX.1;have pO:=zX.2.1;have hn:i.toNat < n:=by rw [<-hl];exact hi
  obtain ⟨d',off,hk,ho,hr⟩:=xE ht' (zX.2.2 _ hi) Q6 h;have hle:=Sk.wU ho;rw [Ty.zZ,Ty.zZ] at hle;have Qv:(i.toNat+1)*t.size<=n*t.size:=kj _ hn;rw [wz] at Qv;refine ⟨_,i.toNat*t.sk.size+off,hk,?_,?_⟩
  ·simp only [Ty.sk,Sk.off];rw [yW ⟨h0,by omega⟩,ho];rfl
  ·rw [Ty.zZ];refine ⟨by rw [qF];exact hl,?_,fun j hj=>?_⟩
   ·rw [yM _ _ _ (by rw [Q6.len];omega)];exact pO
   ·rw [QJ];split
    ·rename_i ZI;subst ZI;rw [gI _ _ _ _ _ (by rw [Q6.len];exact hle) (by omega)];exact hr
    ·rename_i ZI;have v7:j < List.length l:=by simpa [wx] using hj
     have Jc:j < n:=by rw [<-hl];exact v7
     rcases Z3q ZI with VQ | hgt
     ·have h3:(i.toNat+1)*t.size<=j*t.size:=kj _ VQ;rw [wz] at h3;rw [vD _ _ _ _ _ (by rw [Q6.len];omega) (by rw [Q6.len];omega)];exact zX.2.2 j v7
     ·have h3:(j+1)*t.size<=i.toNat*t.size:=kj _ hgt;rw [wz] at h3;rw [jj _ _ _ _ _ (by omega) (by omega)]
      exact zX.2.2 j v7
 | .sl true t,l,.idx i :: p,_,_,k,r,cs,_,ht,zX,_,h=>by simp [Ty.zV] at ht
 | .sl false t,l,s :: p,_,_,k,r,cs,_,ht,zX,_,h=>by cases s <;> simp [jM] at h
 | .sl true t,l,.fst :: p,_,_,k,r,cs,_,ht,zX,_,h=>by simp [jM] at h
 | .sl true t,l,.snd :: p,_,_,k,r,cs,_,ht,zX,_,h=>by simp [jM] at h
 | .int _,_,s :: _,_,_,_,_,_,_,_,_,_,h=>by cases s <;> simp [jM] at h
 | .bool,_,s :: _,_,_,_,_,_,_,_,_,_,h=>by cases s <;> simp [jM] at h
 | .str,_,s :: _,_,_,_,_,_,_,_,_,_,h=>by cases s <;> simp [jM] at h
 | .unit,_,s :: _,_,_,_,_,_,_,_,_,_,h=>by cases s <;> simp [jM] at h
 | .ptr _,_,s :: _,_,_,_,_,_,_,_,_,_,h=>by cases s <;> simp [jM] at h
 | .fn _ _,_,s :: _,_,_,_,_,_,_,_,_,_,h=>by cases s <;> simp [jM] at h
 | .tree _,_,s :: _,_,_,_,_,_,_,_,_,_,h=>by cases s <;> simp [jM] at h
 | .pair _ _,_,.idx _ :: _,_,_,_,_,_,_,_,_,_,h=>by simp [jM] at h
 | .arr _ _,_,.fst :: _,_,_,_,_,_,_,_,_,_,h=>by simp [jM] at h
 | .arr _ _,_,.snd :: _,_,_,_,_,_,_,_,_,_,h=>by simp [jM] at h
abbrev qk:=Nat->Option Obj
def place (g:z8) (id:Nat):(t:Ty)->(pre:Path)->(b off:Nat)->Path->Option (Nat×Nat)
 | _,_,b,off,[]=>some (b,off)
 | .pair a _,pre,b,off,.fst :: p=>place g id a (pre++[.fst]) b off p
 | .pair a c,pre,b,off,.snd :: p=>place g id c (pre++[.snd]) b (off+a.size) p
 | .arr _ t,pre,b,off,.idx i :: p=>place g id t (pre++[.idx i]) b (off+i.toNat*t.size) p
 | .sl true t,pre,_,_,.idx i :: p=>match g.sv id pre with
  | .slice (some a) _ _=>place g id t (pre++[.idx i]) a.block (a.off+i.toNat*t.size) p
  | _=>none
 | _,_,_,_,_=>none
def jz (v:Value) (size:Nat) (a b:Int):Value:=match v with
 | .slice x _ cap=>.slice (if cap-a.toNat=0 then x else x.map (·.add (a.toNat*size))) (b-a).toNat (cap-a.toNat)
 | v=>v
def z7.isAgg:z7->Bool
 | .data t _=>t.sk.isAgg
 | .agg _=>true
 | _=>false
def jA (agg:Bool) (cs:List Value):Value:=if agg then .agg cs.toArray else cs.headD undef
def jV (w:World) (g:z8) (z6:qk):z7->List Value->Prop
 | .data t d,cs=>t.zV=true/\zC w g none t d cs
 | .qy,cs=>cs=[.slice none 0 0]
 | .ref id p ep,cs=>∃ v,cs=[v]/\v.oneCell'=true/\∀ t l e,z6 id=some (.row t l e)->ep<=e/\(e=ep->v=g.sv id p)
 | .view id p ep a b,cs=>∃ v,cs=[v]/\v.oneCell'=true/\∀ t l e,z6 id=some (.row t l e)->ep<=e/\
   (e=ep->p=[]/\0<=a/\a<=b/\b<=(l.length:Int)/\v=jz (g.sv id p) t.size a b)
 | .zu id p,cs=>∃ v,cs=[v]/\v.oneCell'=true/\∀ a,z6 id=some (.cell a)->∃ off s,a.sk.off p=some (off,s)/\v = .pointer (some ⟨g.zt id,off,none⟩)
 | .vW id p ep,cs=>∃ v,cs=[v]/\v.oneCell'=true/\∀ t l e,z6 id=some (.row t l e)->ep<=e/\
   (e=ep->p≠[]/\∃ b off,place g id (.sl true t) [] 0 0 p=some (b,off)/\v = .pointer (some ⟨b,off,none⟩))
 | .qA id,cs=>∃ v,cs=[v]/\v.oneCell'=true/\∀ kt vt m,z6 id=some (.map kt vt m)->v = .map (some (g.zt id))
 | .nv pt id p ep,cs=>∃ v,cs=[v]/\v.oneCell'=true/\∀ t l e i h,z6 id=some (.nest t l e i h)->ep<=F8 pt p e i/\
   (F8 pt p e i=ep->(pt=false->v=g.sv id p)/\(pt=true->p≠[]/\∃ b off,place g id (.sl true t) [] 0 0 p=some (b,off)/\v = .pointer (some ⟨b,off,none⟩)))
 | .yG f c,cs=>∃ vs,cs=[.func (.func f) #[] vs.toArray]/\jV w g z6 c vs
 | .JJ t c,cs=>∃ x Bf,cs=[.iface t x]/\jV w g z6 c Bf/\x=jA c.isAgg Bf
 | .agg c,cs=>jV w g z6 c cs
 | .jC _,_=>False
 | .pr a b,cs=>∃ c1 c2,cs=c1++c2/\jV w g z6 a c1/\jV w g z6 b c2
 | .un,cs=>cs=[]
theorem jV.len {w:World} {g:z8} {z6:qk}:{a:z7}->{cs:List Value}->jV w g z6 a cs->cs.length=a.sk.size
 | .data t d,_,h=>by rw [h.2.len];simp [z7.sk,Ty.zZ]
 | .qy,_,h=>by cases h;rfl
 | .ref _ _ _,_,h=>by obtain ⟨v,rfl,_⟩:=h;rfl
 | .view _ _ _ _ _,_,h=>by obtain ⟨v,rfl,_⟩:=h;rfl
 | .zu _ _,_,h=>by obtain ⟨v,rfl,_⟩:=h;rfl
 | .vW _ _ _,_,h=>by obtain ⟨v,rfl,_⟩:=h;rfl
 | .qA _,_,h=>by obtain ⟨v,rfl,_⟩:=h;rfl
 | .nv _ _ _ _,_,h=>by obtain ⟨v,rfl,_⟩:=h;rfl
 | .yG _ _,_,h=>by obtain ⟨v,rfl,_⟩:=h;rfl
 | .JJ _ _,_,h=>by obtain ⟨x,cs,rfl,_⟩:=h;rfl
 | .agg c,_,h=>jV.len (a:=c) h
 | .jC _,_,h=>h.elim
 | .pr a b,_,h=>by
  obtain ⟨c1,c2,rfl,h1,h2⟩:=h
  simp only [Kj,z7.sk,Sk.size,h1.len,h2.len]
 | .un,_,h=>by cases h;rfl
mutual
def zl (w:World) (g:z8) (z6:qk):z7->Value->Prop
 | .jC c,v=>∃ vs,v = .tuple vs.toArray/\qj w g z6 c vs
 | .pr _ _,_=>False
 | .un,_=>False
 | a,v=>∃ cs,jV w g z6 a cs/\v=jA a.isAgg cs
def qj (w:World) (g:z8) (z6:qk):z7->List Value->Prop
 | .pr a b,vs=>∃ v r,vs=v :: r/\zl w g z6 a v/\qj w g z6 b r
 | .un,vs=>vs=[]
 | _,_=>False
end
end Go.Kz
