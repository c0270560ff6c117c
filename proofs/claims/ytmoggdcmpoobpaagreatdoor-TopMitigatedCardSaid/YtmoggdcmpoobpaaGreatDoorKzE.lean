/-
  Type codes, and layouts.
-/
import Derived.WalkKit
import Derived.ProofKit
set_option linter.unusedVariables false
set_option linter.unusedSimpArgs false
set_option linter.defProp false
namespace Go.Kz
def zK:=@Option.bind_some
def zP:=@cond_false
def zB:=@cond_true
def qW:=@if_neg
def ql:=@decide_eq_false
def yH:=@Nat.le_refl
def yX:=@if_pos
def ju:=@decide_eq_true
def jF:=@Nat.zero_le
def ve:=@decide_eq_true_eq
def vl:=@Array.length_toList
def wO:=@Option.map_eq_some_iff
def kq:=@Nat.add_mul
def Jn:=@congrArg
def kn:=@Nat.mul_le_mul_right
def gU:=@List.getElem_mem
def pv:=@Prod.mk.injEq
def pF:=@List.mem_cons
def uX:=@List.getElem?_eq_getElem
def QK:=@Nat.zero_add
def QI:=@List.cons_append
def Ql:=@List.nil_append
def Qi:=@decide_eq_false_iff_not
def WQ:=@List.length_append
def VG:=@Bool.or_eq_false_iff
def WZ:=@Option.bind_eq_some_iff
def Gz:=@List.mem_iff_getElem
def G9:=@List.take_length
def GZ:=@List.length_map
def PF:=@List.append_assoc
def PE:=@List.map_cons
def Gx:=@List.mem_append
def Gu:=@Bool.not_true
def Us:=@List.length_take
def U0:=@Bool.not_eq_true'
def Ur:=@true_and
def BF:=@List.length_cons
def BV:=@Nat.lt_succ_self
def Uo:=@decide_true
def DA:=@of_decide_eq_true
def C5:=@Array.toList_inj
def C4:=@Int.mul_nonneg
def DX:=@List.append_nil
def FA:=@List.getD_eq_getElem?_getD
def Fy:=@and_true
def FX:=@Bool.or_eq_true
def IL:=@List.get_eq_getElem
def II:=@List.mem_singleton
def Lp:=@List.length_drop
def Lg:=@List.drop_eq_nil_of_le
def N0:=@List.cons.injEq
def Mt:=@Nat.beq_refl
def Ms:=@if_true
def Z1h:=@Nat.le_succ
def Mr:=@Int.eq_ofNat_of_zero_le
def Mo:=@Bool.not_eq_false'
def Rq:=@List.getElem_map
def TF:=@List.drop_drop
def T4:=@List.take_append_drop
def Z1n:=@Nat.le_trans
def T3:=@List.eq_nil_of_length_eq_zero
def TE:=@Nat.add_zero
def TD:=@Nat.add_assoc
def TC:=@if_false
def TB:=@Nat.mul_one
def TA:=@List.length_nil
def TX:=@List.mem_cons_of_mem
def TU:=@List.map_append
def TG:=@of_decide_eq_false
def TK:=@Bool.and_eq_false_iff
def Z1y:=@List.take_of_length_le
def Z1z:=@List.take_zero
def Z20:=@Int.toNat_of_nonneg
def Z21:=@Nat.mul_comm
def Z22:=@List.mem_map
def Z23:=@Int.le_refl
def Z24:=@List.size_toArray
def Z25:=@Array.getElem?_toList
def Z26:=@Array.getElem?_eq_some_iff
def Z27:=@List.get_mem
def Z28:=@List.length_eq_one_iff
def Z29:=@Nat.eq_zero_or_pos
def Z2a:=@Bool.false_eq_true
def Z2b:=@Nat.zero_mul
def Z2c:=@List.foldl_cons
def Z2d:=@List.getElem?_map
def Z2e:=@List.nodup_cons
def Z2f:=@Int.mul_le_mul
def Z2g:=@Array.getD_eq_getD_getElem?
def Z2h:=@Option.map_some
def Z2i:=@Nat.le_of_eq
def Z2j:=@List.getElem?_drop
def Z2k:=@List.take_succ_cons
def Z2l:=@List.headD_cons
def Z2m:=@List.all_eq_true
def Z2n:=@List.range_succ
def Z2o:=@List.ext_getElem?
def Z2p:=@List.drop_append_of_le_length
def Z2q:=@List.take_append_of_le_length
def Z2r:=@Nat.lt_of_lt_of_le
def Z2s:=@Array.toList_map
def Z2t:=@Nat.mod_lt
def Z2u:=@List.flatten_cons
def Z2v:=@List.mem_cons_self
def Z2w:=@Bool.true_and
def Z2x:=@List.foldl_nil
def Z2y:=@List.length_replicate
def Z2z:=@List.set_set
def Z30:=@Nat.add_sub_cancel
def Z31:=@List.take_take
def Z32:=@List.getElem?_eq_some_iff
def Z33:=@Nat.lt_or_gt_of_ne
def Z34:=@eq_of_heq
def Z35:=@List.getElem_take
def Z36:=@List.getElem_drop
def Z37:=@Option.isSome_iff_exists
def Z38:=@List.drop_eq_getElem_cons
def Z39:=@List.getElem?_take
def Z3a:=@Int.mul_le_mul_of_nonneg_right
def Z3b:=@List.drop_zero
def Z3c:=@List.map_nil
def Z3d:=@Array.getElem?_eq_getElem
def Z3e:=@Nat.mul_le_mul
def Z3f:=@Int.toNat_natCast
def Z3g:=@List.mem_of_mem_take
def Z3h:=@Array.getElem?_eq_none
def Z3i:=@List.getElem?_eq_none
def Z3j:=@List.pairwise_cons
def Z3k:=@getElem!_pos
def Z3l:=@Nat.blt_eq
def Z3m:=@Option.getD_some
def Z3n:=@List.mem_of_mem_drop
def Z3o:=@List.foldl_append
def Z3p:=@List.getElem?_set_self
def Z3q:=@List.drop_append
def Z3r:=@List.append_inj
def Z3s:=@List.length_pos_iff
def Z3t:=@Nat.div_lt_of_lt_mul
def Z3u:=@Nat.div_add_mod
def Z3v:=@Nat.sub_self
def Z3w:=@List.length_singleton
def Z3x:=@Option.map_none
def Z3y:=@Array.toList_modify
def Z3z:=@List.getElem?_range
def Z40:=@Bool.not_false
def Z41:=@Nat.lt_or_ge
def Z42:=@Bool.and_true
def Z43:=@Array.getElem?_append_left
def Z44:=@Int.add_mul
def Z45:=@List.drop_take
def Z46:=@Int.ediv_nonneg
def Z47:=@Int.ediv_le_self
def Z48:=@List.prefix_append_right_inj
def Z49:=@Nat.add_comm
def Z4a:=@Nat.min_eq_left
def Z4b:=@Sigma.mk.injEq
def Z4c:=@List.getElem_append_left
def Z4d:=@Bool.eq_iff_iff
def Z4e:=@Nat.min_le_left
def Z4f:=@List.getElem?_append_left
def Z4g:=@List.nodup_append
def Z4h:=@Nat.sub_zero
def Z4i:=@List.mem_filterMap
def Z4j:=@Nat.le_add_right
def Z4k:=@List.getElem_cons_succ
def Z4l:=@Int.natCast_add
def Z4m:=@List.getElem_cons_drop
def Z4n:=@List.set_getElem_self
def Z4o:=@List.getElem?_set
def Z4p:=@Nat.le_of_lt
def Z4q:=@List.length_set
def Z4r:=@Int.ofNat_le
def Z4s:=@Int.tmod_nonneg
def Z4t:=@Array.eq_empty_of_size_eq_zero
def Z4u:=@List.prefix_append
def Z4v:=@List.append_cancel_left
def Z4w:=@List.map_toArray
def Z4x:=@List.replicate_succ
def Z4y:=@List.take_succ_eq_append_getElem
def Z4z:=@Array.getElem_toList
def Z50:=@Array.size_append
def Z51:=@Array.toList_append
def Z52:=@Nat.add_sub_cancel_left
def Z53:=@List.modify_zero_cons
def Z54:=@List.modify_succ_cons
def Z55:=@List.length_modify
def Z56:=@List.getElem?_modify
def Z57:=@List.getElem?_cons_zero
def Z58:=@List.mem_filter
def Z59:=@List.eq_nil_iff_forall_not_mem
def Z5a:=@List.mem_of_getElem?
def Z5b:=@List.pairwise_iff_getElem
def Z5c:=@List.flatMap_cons
def Z5d:=@List.flatMap_append
def Z5e:=@Int.mul_le_mul_of_nonneg_left
def Z5f:=@List.length_filter_le
def Z5g:=@List.isEmpty_nil
def Z5h:=@Int.emod_nonneg
def Z5i:=@Int.emod_lt_of_pos
def Z5j:=@List.pairwise_append
def Z5k:=@Array.getElem?_setIfInBounds
def Z5l:=@Array.getElem?_setIfInBounds_ne
def Z5m:=@List.getElem?_append_right
def Z5n:=@Go.WideShapes.okWide_struct
def Z5o:=@List.dropLast_concat_getLast
def Z5p:=@Int.tdiv_eq_ediv_of_nonneg
def Z5q:=@Int.tmod_eq_emod_of_nonneg
theorem zI.{u}{I:Type u}(a b:I):(some a=some b)=(a=b):=Option.some.injEq a b
theorem zA(a b:Bool):((a&&b)=true)=(a=true/\b=true):=Bool.and_eq_true a b
theorem zE{n m:Nat}(h:Nat.beq n m=true):n=m:=Nat.eq_of_beq_eq_true h
theorem zL{n m:Nat}(h:Nat.ble n m=true):n<=m:=Nat.le_of_ble_eq_true h
inductive Ty where
 |int (k:IntKind)|bool|str|unit
 |pair (a b:Ty)|arr (n:Nat) (t:Ty)|sl (own:Bool) (t:Ty)|ptr (t:Ty)|fn (f:Nat) (c:Ty)
 |tree (k:Nat)
 |mp (own:Bool)
inductive Sk where
 |leaf|unit|pair (a b:Sk)|arr (n:Nat) (t:Sk)|tree (k:Nat)
def Sk.same:Sk->Sk->Bool
 |.leaf,.leaf=>true
 |.unit,.unit=>true
 |.pair a b,.pair c d=>a.same c&&b.same d
 |.arr n t,.arr m u=>Nat.beq n m&&t.same u
 |.tree k,.tree j=>Nat.beq k j
 |_,_=>false
def Sk.isAgg:Sk->Bool
 |.leaf=>false
 |_=>true
end Go.Kz
namespace Go.Kz
structure Tm where
 op:Int
 n:Int
 kids:List Tm
structure Sp where
 act:Int
 cost:Int
 var:Int
 n:Int
 term:Tm
 yW:List Sp
 ke:List Sp
 bounds:List Int
@[reducible] def Rec:Nat->Type
 |0=>Tm
 |1=>Sp
 |_=>Unit
def uE:Nat->Ty
 |0|1=>.int .i64
 |_=>.unit
def uD:Nat->Ty
 |0=>.pair (.int .i64) (.pair (.sl false (.tree 0)) .unit)
 |1=>.pair (.int .i64) (.pair (.int .i64) (.pair (.int .i64) (.pair (.pair (.int .i64) (.pair (.int .i64) (.pair (.sl false (.tree 0)) .unit))) (.pair (.sl false (.tree 1)) (.pair (.sl false (.tree 1)) (.pair (.sl false (.int .i64)) .unit))))))
 |_=>.unit
def CE:Nat->Nat
 |0=>3
 |1=>10
 |_=>0
def zn3:Nat->List Value
 |0=>[.int .i64 0,.int .i64 0,.slice none 0 0]
 |1=>[.int .i64 0,.int .i64 0,.int .i64 0,.int .i64 0,.int .i64 0,.int .i64 0,.slice none 0 0,.slice none 0 0,.slice none 0 0,.slice none 0 0]
 |_=>[]
def recOn:Nat->Bool
 |0|1=>true
 |_=>false
def za6:Nat->Nat
 |0=>109
 |1=>111
 |_=>0
@[reducible] def Ty.den:Ty->Type
 |.int _=>Int
 |.bool=>Bool
 |.str=>List UInt8
 |.unit=>Unit
 |.pair a b=>a.den×b.den
 |.arr _ t=>List t.den
 |.sl _ t=>List t.den
 |.ptr t=>t.den
 |.fn _ c=>c.den
 |.tree k=>Rec k
 |.mp _=>Option (List (List UInt8×Bool))
def vz:(k:Nat)->Rec k->(uE k).den×(uD k).den
 |0,x=>(x.op,x.n,x.kids,())
 |1,x=>(x.act,x.cost,x.var,x.n,(x.term.op,x.term.n,x.term.kids,()),x.yW,x.ke,x.bounds,())
 |_+2,_=>((),())
def kp:(k:Nat)->(uE k).den×(uD k).den->Rec k
 |0,y=>⟨y.1,y.2.1,y.2.2.1⟩
 |1,y=>⟨y.1,y.2.1,y.2.2.1,y.2.2.2.1,⟨y.2.2.2.2.1.1,y.2.2.2.2.1.2.1,y.2.2.2.2.1.2.2.1⟩,y.2.2.2.2.2.1,y.2.2.2.2.2.2.1,y.2.2.2.2.2.2.2.1⟩
 |_+2,_=>()
theorem CF:(k:Nat)->(y:(uE k).den×(uD k).den)->vz k (kp k y)=y
 |0,_=>rfl
 |1,_=>rfl
 |_+2,_=>rfl
end Go.Kz
namespace Go.Kz
def Ty.same:(a b:Ty)->Option (PLift (a=b))
 |.int k,.int j=>if h:k=j then some ⟨by rw[h]⟩ else none
 |.bool,.bool=>some ⟨rfl⟩
 |.str,.str=>some ⟨rfl⟩
 |.unit,.unit=>some ⟨rfl⟩
 |.pair a b,.pair c d=>
  match Ty.same a c with
  |some h=>match Ty.same b d with
   |some h'=>some ⟨by rw[h.down,h'.down]⟩
   |none=>none
  |none=>none
 |.arr n t,.arr m u=>if h:n=m then match Ty.same t u with
   |some h'=>some ⟨by rw[h,h'.down]⟩
   |none=>none
  else none
 |.sl o t,.sl p u=>if h:o=p then match Ty.same t u with
   |some h'=>some ⟨by rw[h,h'.down]⟩
   |none=>none
  else none
 |.ptr t,.ptr u=>match Ty.same t u with
   |some h'=>some ⟨by rw[h'.down]⟩
   |none=>none
 |.fn f c,.fn g d=>if h:f=g then match Ty.same c d with
   |some h'=>some ⟨by rw[h,h'.down]⟩
   |none=>none
  else none
 |.tree k,.tree j=>if h:k=j then some ⟨by rw[h]⟩ else none
 |.mp o,.mp p=>if h:o=p then some ⟨by rw[h]⟩ else none
 |_,_=>none
def Ty.size:Ty->Nat
 |.unit=>0
 |.pair a b=>a.size+b.size
 |.arr n t=>n*t.size
 |.tree k=>CE k
 |_=>1
def Ty.ro:Ty->Ty
 |.sl _ t=>.sl false t.ro
 |.pair a b=>.pair a.ro b.ro
 |.arr n t=>.arr n t.ro
 |.ptr t=>.ptr t.ro
 |.fn f c=>.fn f c.ro
 |.mp _=>.mp false
 |t=>t
theorem Ty.pG:(t:Ty)->t.ro.den=t.den
 |.int _=>rfl
 |.bool=>rfl
 |.str=>rfl
 |.unit=>rfl
 |.pair a b=>by simp only[Ty.ro,Ty.den,Ty.pG a,Ty.pG b]
 |.arr _ t=>by simp only[Ty.ro,Ty.den,Ty.pG t]
 |.sl _ t=>by simp only[Ty.ro,Ty.den,Ty.pG t]
 |.ptr t=>by simp only[Ty.ro,Ty.den,Ty.pG t]
 |.fn _ c=>by simp only[Ty.ro,Ty.den,Ty.pG c]
 |.tree _=>rfl
 |.mp _=>rfl
def Ty.gz(t:Ty)(d:t.den):t.ro.den:=cast (Ty.pG t).symm d
def Ty.zG:Ty->Bool
 |.sl o t=>!o&&t.zG
 |.pair a b=>a.zG&&b.zG
 |.arr _ t=>t.zG
 |.ptr t=>t.zG
 |.fn _ c=>c.zG
 |.mp o=>!o
 |_=>true
def Ty.zero:(t:Ty)->Option t.den
 |.int _=>some (0:Int)
 |.bool=>some false
 |.str=>some ([]:List UInt8)
 |.unit=>some ()
 |.pair a b=>match a.zero,b.zero with
  |some x,some y=>some (x,y)
  |_,_=>none
 |.arr n t=>match t.zero with
  |some x=>some (List.replicate n x)
  |none=>none
 |.sl _ t=>some ([]:List t.den)
 |_=>none
def Sk.size:Sk->Nat
 |.leaf=>1
 |.unit=>0
 |.pair a b=>a.size+b.size
 |.arr n t=>n*t.size
 |.tree k=>CE k
def Ty.sk:Ty->Sk
 |.unit=>.unit
 |.pair a b=>.pair a.sk b.sk
 |.arr n t=>.arr n t.sk
 |.tree k=>.tree k
 |_=>.leaf
theorem XE:(k:Nat)->CE k=(Ty.pair (uE k) (uD k)).size
 |0=>rfl
 |1=>rfl
 |_+2=>rfl
theorem z19:(k:Nat)->(Ty.pair (uE k) (uD k)).zG=true
 |0=>rfl
 |1=>rfl
 |_+2=>rfl
def Ty.qs:Ty->Bool
 |.sl _ _=>false
 |.pair a b=>a.qs&&b.qs
 |.arr _ t=>t.qs
 |.ptr _ |.fn _ _ |.tree _ |.mp _=>false
 |_=>true
inductive Step where
 |fst|snd|idx (i:Int)
abbrev Path:=List Step
def idx{I:Type}(l:List I):Int->Option I
 |.ofNat n=>l[n]?
 |.negSucc _=>none
def qN{I:Type}(l:List I)(i:Int)(x:I):List I:=l.set i.toNat x
def jY{I:Type}(l:List I)(i:Int):Bool:=decide (0<=i)&&decide (i<(l.length:Int))
def zo{R:Type}(b:Bool)(x:Option R):Option R:=cond b x none
def room:Nat:=4294967296
def sub{I:Type}(l:List I)(a b:Int):List I:=(l.drop a.toNat).take (b.toNat-a.toNat)
variable {R:Type}
def u4(a b:Ty)(d:a.den)(k:b.den->Option R):Option R:=
 match Ty.same a b with
 |some h=>k (cast (Jn Ty.den h.down) d)
 |none=>none
def zb:(t:Ty)->t.den->Path->((u:Ty)->u.den->Option R)->Option R
 |.pair a _,(x,_),.fst::p,k=>zb a x p k
 |.pair _ b,(_,y),.snd::p,k=>zb b y p k
 |.arr _ t,l,.idx i::p,k=>(idx l i).bind λx=>zb t x p k
 |.sl true t,l,.idx i::p,k=>(idx l i).bind λx=>zb t x p k
 |t,d,[],k=>k t d
 |_,_,_::_,_=>none
def jn:(t:Ty)->t.den->Path->(u:Ty)->u.den->(t.den->Option R)->Option R
 |.pair a _,(x,y),.fst::p,u,e,k=>jn a x p u e λx'=>k (x',y)
 |.pair _ b,(x,y),.snd::p,u,e,k=>jn b y p u e λy'=>k (x,y')
 |.arr _ t,l,.idx i::p,u,e,k=>(idx l i).bind λx=>jn t x p u e λx'=>k (qN l i x')
 |.sl true t,l,.idx i::p,u,e,k=>(idx l i).bind λx=>jn t x p u e λx'=>k (qN l i x')
 |t,_,[],u,e,k=>u4 u t e k
 |_,_,_::_,_,_,_=>none
inductive z7 where
 |data (t:Ty) (d:t.den)
 |zi
 |ref (id:Nat) (p:Path) (ep:Nat)
 |view (id:Nat) (p:Path) (ep:Nat) (a b:Int)
 |zq (id:Nat) (p:Path)
 |va (id:Nat) (p:Path) (ep:Nat)
 |qV (id:Nat)
 |nv (pt:Bool) (id:Nat) (p:Path) (ep:Nat)
 |qP (f:Nat) (c:z7)
 |V6 (t:Nat) (c:z7)
 |agg (c:z7)
 |jS (c:z7)
 |pr (a b:z7)
 |un
def z7.sk:z7->Sk
 |.data t _=>t.sk
 |.agg c=>c.sk
 |.jS c=>c.sk
 |.pr a b=>.pair a.sk b.sk
 |.un=>.unit
 |_=>.leaf
inductive Obj where
 |row (t:Ty) (l:List t.den) (ep:Nat)
 |cell (a:z7)
 |map (kt vt:Ty) (m:List (kt.den×vt.den))
 |nest (t:Ty) (l:List t.den) (e i:Nat) (hole:Option Path)
structure St where
 zk:Nat->Option z7
 z6:Nat->Option Obj
 next:Nat
def GJ{I:Type}(f:Nat->Option I)(i:Nat)(v:Option I):Nat->Option I:=λj=>cond (Nat.beq j i) v (f j)
def St.set(J:St)(i:Nat)(v:z7):St:={ J with zk:=GJ J.zk i (some v) }
def St.kD(J:St):Option Nat->St
 |some i=>{ J with zk:=GJ J.zk i none }
 |none=>J
def St.setObj(J:St)(i:Nat)(o:Obj):St:={ J with z6:=GJ J.z6 i (some o) }
def St.kill(J:St)(i:Nat):St:={ J with z6:=GJ J.z6 i none }
def jj:(t:Ty)->t.den->z7
 |.pair a b,(x,y)=>.pr (.data a x) (jj b y)
 |_,_=>.un
def xQ:z7->Path->(z7->Option R)->Option R
 |a,[],k=>k a
 |.agg c,s::p,k=>xQ c (s::p) k
 |.pr a _,.fst::p,k=>xQ a p k
 |.pr _ b,.snd::p,k=>xQ b p k
 |.data t d,s::p,k=>zb t d (s::p) λu e=>k (.data u e)
 |_,_,_=>none
def vA:Ty->Path->Option Ty
 |t,[]=>some t
 |.pair a _,.fst::p=>vA a p
 |.pair _ b,.snd::p=>vA b p
 |.arr _ t,.idx _::p=>vA t p
 |_,_=>none
def MW(t:Ty)(p:Path):z7->Bool
 |.data u _=>match vA t p with
  |some v=>(Ty.same v u).isSome
  |none=>false
 |_=>false
def jV(new:z7):(t:Ty)->t.den->Path->(z7->Option R)->Option R
 |.pair a b,(x,y),[.fst],k=>k (.pr new (jj b y))
 |.pair a b,(x,y),.fst::s::p,k=>jV new a x (s::p) λu=>k (.pr (.agg u) (jj b y))
 |.pair a b,(x,y),.snd::p,k=>jV new b y p λu=>k (.pr (.data a x) u)
 |_,_,_,_=>none
def LA(new:z7)(t:Ty)(d:t.den)(p:Path)(k:z7->Option R):Option R:=match new with
 |.data u e=>jn t d p u e λd=>k (.data t d)
 |_=>none
def xq(new:z7):z7->Path->(z7->Option R)->Option R
 |_,[],k=>k new
 |.agg c,s::p,k=>xq new c (s::p) λc=>k (.agg c)
 |.pr a b,.fst::p,k=>xq new a p λa=>k (.pr a b)
 |.pr a b,.snd::p,k=>xq new b p λb=>k (.pr a b)
 |.data t d,s::p,k=>cond (MW t (s::p) new) (LA new t d (s::p) k)
   (jV new t d (s::p) λu=>cond (u.sk.same t.sk) (k (.agg u)) none)
 |_,_,_=>none
def z13(t:Ty)(l:List t.den)(p:Path)(k:(u:Ty)->u.den->Option R):Option R:=zb (.sl true t) l p k
def xY(J:St)(id:Nat)(p:Path)(ep:Nat)(k:(u:Ty)->List u.den->Option R):Option R:=
 match J.z6 id with
 |some (.row t l e)=>cond (Nat.beq e ep) (z13 t l p λu d=>match u,d with
  |.sl true v,l=>k v l
  |_,_=>none) none
 |_=>none
def pE(J:St)(id:Nat)(p:Path)(ep:Nat)(k:(u:Ty)->u.den->Option R):Option R:=
 match J.z6 id with
 |some (.row t l e)=>cond (Nat.beq e ep) (z13 t l p k) none
 |_=>none
def z7.we:z7->Bool
 |.jS _=>true
 |_=>false
def z7.wh:z7->Bool
 |.jS (.agg _)=>true
 |.jS (.qV _)=>true
 |_=>false
def z7.cont:z7->Option z7
 |.jS (.agg c)=>some (.agg c)
 |.jS (.qV i)=>some (.qV i)
 |.jS _=>none
 |a=>some a
def Jl(J:St)(id:Nat)(p:Path)(k:z7->Option R):Option R:=
 match J.z6 id with
 |some (.cell a)=>match a.cont with
  |some x=>xQ x p k
  |none=>none
 |_=>none
def JV(J:St)(id:Nat)(p:Path)(k:z7->Option R):Option R:=
 match J.z6 id with
 |some (.cell a)=>cond a.we none (xQ a p k)
 |_=>none
def HG:Bool->Path->Nat->Nat->Nat
 |false,[],e,_=>e
 |_,_,_,i=>i
def xT(J:St)(pt:Bool)(id:Nat)(p:Path)(ep:Nat)(k:(u:Ty)->u.den->Option R):Option R:=
 match J.z6 id with
 |some (.nest t l e i none)=>cond (Nat.beq (HG pt p e i) ep) (z13 t l p k) none
 |_=>none
def Xl(J:St)(id:Nat)(p:Path)(ep:Nat)(k:(v:Ty)->List v.den->Option R):Option R:=
 xT J false id p ep λu d=>match u,d with
  |.sl true v,l=>k v l
  |_,_=>none
def ZM(a b:Ty)(d:a.den)(k:b.den->Option R):Option R:=
 match a,b,d,k with
 |.sl false (.tree j),.sl false (.pair x y),l,k=>u4 (.sl false (.pair (uE j) (uD j))) (.sl false (.pair x y)) (List.map (vz j) l) k
 |.sl false (.pair x y),.sl false (.tree j),l,k=>u4 (.sl false (.pair x y)) (.sl false (.pair (uE j) (uD j))) l λl=>k (List.map (kp j) l)
 |a,b,d,k=>u4 a b d k
def z1v:(t:Ty)->(t.den->Option R)->Option R
 |.sl _ _,k=>k []
 |_,_=>none
def asData(J:St):Nat->(a:z7)->(t:Ty)->(t.den->Option R)->Option R
 |0,_,_,_=>none
 |_+1,.data t' d,t,k=>ZM t' t d k
 |_+1,.zi,t,k=>cond t.zG (z1v t k) none
 |_+1,.ref id p ep,t,k=>xY J id p ep λv l=>ZM (Ty.ro (.sl false v)) t (Ty.gz (.sl false v) l) k
 |_+1,.view id p ep a b,t,k=>xY J id p ep λv l=>ZM (Ty.ro (.sl false v)) t (Ty.gz (.sl false v) (sub l a b)) k
 |_+1,.nv false id p ep,t,k=>Xl J id p ep λv l=>ZM (Ty.ro (.sl false v)) t (Ty.gz (.sl false v) l) k
 |n+1,.zq id p,.ptr t,k=>Jl J id p λa=>asData J n a t k
 |_+1,.va id p ep,.ptr t,k=>pE J id p ep λu d=>u4 u.ro t (Ty.gz u d) k
 |n+1,.qP f c,.fn g t,k=>cond (Nat.beq f g) (asData J n c t k) none
 |n+1,.agg c,t,k=>asData J n c t k
 |n+1,.pr a b,.pair t u,k=>asData J n a t λx=>asData J n b u λy=>k (x,y)
 |_+1,.un,.unit,k=>k ()
 |_+1,_,_,_=>none
def jG:Nat->(a:z7)->(u:Ty)->St->(u.den->St->Option R)->Option R
 |0,_,_,_,_=>none
 |_+1,.data t d,u,J,k=>ZM t u d λd=>k d J
 |_+1,.zi,u,J,k=>z1v u λd=>k d J
 |_+1,.ref id [] ep,u,J,k=>
  match J.z6 id with
  |some (.row t l e)=>cond (Nat.beq e ep)
   (match u,k with
    |.sl true v,k=>u4 (.sl true t) (.sl true v) l λd=>k d (J.kill id)
    |.sl false v,k=>ZM (Ty.ro (.sl false t)) (.sl false v) (Ty.gz (.sl false t) l) λd=>k d (J.kill id)
    |_,_=>none) none
  |_=>none
 |_+1,.nv false id [] ep,u,J,k=>
  match J.z6 id with
  |some (.nest t l e _ none)=>cond (Nat.beq e ep)
   (match u,k with
    |.sl false v,k=>ZM (Ty.ro (.sl false t)) (.sl false v) (Ty.gz (.sl false t) l) λd=>k d (J.kill id)
    |_,_=>none) none
  |_=>none
 |n+1,.zq id [],.ptr u,J,k=>
  match J.z6 id with
  |some (.cell a)=>cond a.we none (jG n a u (J.kill id) k)
  |_=>none
 |n+1,.qP f c,.fn g t,J,k=>cond (Nat.beq f g) (jG n c t J k) none
 |n+1,.agg c,u,J,k=>jG n c u J k
 |n+1,.pr a b,.pair t u,J,k=>jG n a t J λx J=>jG n b u J λy J=>k (x,y) J
 |_+1,.un,.unit,J,k=>k () J
 |_+1,_,_,_,_=>none
def v7:Ty->Option z7×Option z7
 |.sl _ _=>(some .zi,none)
 |.unit=>(match (Ty.unit).zero,(Ty.unit).qs with
  |some z,true=>some (.data .unit z)
  |_,_=>none,some .un)
 |.pair a b=>
  let c:=match (v7 a).1,(v7 b).2 with
   |some x,some y=>some (.pr x y)
   |_,_=>none
  (match Ty.zero (.pair a b),(Ty.pair a b).qs with
  |some z,true=>some (.data (.pair a b) z)
  |_,_=>c.map .agg,c)
 |.arr n t=>(match (Ty.arr n t).zero,(Ty.arr n t).zG with
  |some z,true=>some (.data (.arr n t) z)
  |_,_=>none,none)
 |t=>(match t.zero,t.qs with
  |some z,true=>some (.data t z)
  |_,_=>none,none)
def pz(t:Ty):Option z7:=(v7 t).1
def xD(t:Ty):Option z7:=(v7 t).2
def zw:(t:Ty)->t.den->Nat->z7×List Obj
 |.sl true t,l,n=>(.ref n [] 0,[.row t l 0])
 |.pair a b,(x,y),n=>
  cond (Ty.zG (.pair a b)) (.data (.pair a b) (x,y),[])
   (let u:=zw a x n
    let v:=zh b y (n+u.2.length)
    (.agg (.pr u.1 v.1),u.2++v.2))
 |t,d,_=>(.data t d,[])
where zh:(t:Ty)->t.den->Nat->z7×List Obj
 |.pair a b,(x,y),n=>
   (let u:=zw a x n
    let v:=zh b y (n+u.2.length)
    (.pr u.1 v.1,u.2++v.2))
 |_,_,_=>(.un,[])
end Go.Kz
namespace Go.Kz
structure q3f where
 n:Nat
 t:Ty
 l:List t.den
def tab0:List Int:=[0,1,56,2,57,49,28,3,61,58,42,50,38,29,17,4,62,47,59,36,45,43,51,22,53,39,33,30,24,18,12,5,63,55,48,27,60,41,37,16,46,35,44,21,52,32,23,11,54,26,40,15,34,20,31,10,25,14,19,9,13,8,7,6]
def tab1:List Int:=[1,10,100,1000,10000,100000,1000000,10000000,100000000,1000000000,10000000000,100000000000,1000000000000,10000000000000,100000000000000,1000000000000000,10000000000000000,100000000000000000,1000000000000000000,10000000000000000000]
def tab:Nat->Option q3f
 |0=>some ⟨64,.int .u8,tab0⟩
 |1=>some ⟨20,.int .u64,tab1⟩
 |_=>none
theorem NT{I:Type}:∃f:List I->Int->Option I,f=idx:=⟨_,rfl⟩
noncomputable def zia{I:Type}:List I->Int->Option I:=Classical.choose NT
theorem zb9{I:Type}(l:List I)(i:Int):zia l i=idx l i:=by
 have:(zia:List I->Int->Option I)=idx:=Classical.choose_spec NT;rw[this]
end Go.Kz
namespace Go.Kz
noncomputable section
variable {R:Type}
inductive gg where
 |val (t:Ty)|ref (i:Nat)|zq (i:Nat)|qP (f:Nat) (c:gg)|agg (c:gg)|pr (a b:gg)|un
@[reducible] def gg.den:gg->Type
 |.val t=>t.den
 |.ref _=>Unit
 |.zq _=>Unit
 |.qP _ c=>c.den
 |.agg c=>c.den
 |.pr a b=>a.den×b.den
 |.un=>Unit
@[reducible] def jD:List Ty->Type
 |[]=>Unit
 |[t]=>t.den
 |t::u::ts=>t.den×jD (u::ts)
inductive zH where
 |val (t:Ty)|zi|ref (id:Nat)|view (id:Nat)|zq (id:Nat) (p:Path)|qV (id:Nat)|nv (id:Nat)|nvi (id:Nat)|qP (f:Nat) (c:zH)|V6 (t:Nat) (c:zH)|agg (c:zH)|pr (a b:zH)|un
@[reducible] def zH.den:zH->Type
 |.val t=>t.den
 |.view _=>Int×Int
 |.nvi _=>Int
 |.qP _ c=>c.den
 | .V6 _ c=>c.den
 |.agg c=>c.den
 |.pr a b=>a.den×b.den
 |_=>Unit
def zH.mk:(p:zH)->p.den->z7
 |.val t,d=>.data t d
 |.zi,_=>.zi
 |.ref id,_=>.ref id [] 0
 |.view id,d=>.view id [] 0 d.1 d.2
 |.zq id p,_=>.zq id p
 |.qV id,_=>.qV id
 |.nv id,_=>.nv false id [] 0
 |.nvi id,d=>.nv false id [.idx d] 0
 |.qP f c,d=>.qP f (c.mk d)
 | .V6 t c,d=>.V6 t (c.mk d)
 |.agg c,d=>.agg (c.mk d)
 |.pr a b,d=>.pr (a.mk d.1) (b.mk d.2)
 |.un,_=>.un
def z0l:Step->Step->Bool
 |.fst,.fst=>true
 |.snd,.snd=>true
 |_,_=>false
def CL:Path->Path->Bool
 |[],[]=>true
 |a::p,b::q=>z0l a b&&CL p q
 |_,_=>false
def zH.take:(p:zH)->z7->(p.den->Option R)->Option R
 |.val t,.data u d,k=>u4 u t d k
 |.zi,.zi,k=>k ()
 |.ref id,.ref vF [] ep,k=>cond (Nat.beq id vF&&Nat.beq ep 0) (k ()) none
 |.view id,.view vF [] ep a b,k=>cond (Nat.beq id vF&&Nat.beq ep 0) (k (a,b)) none
 |.zq id p,.zq vF p',k=>cond (Nat.beq id vF&&CL p p') (k ()) none
 |.qV id,.qV vF,k=>cond (Nat.beq id vF) (k ()) none
 |.nv id,.nv false vF [] ep,k=>cond (Nat.beq id vF&&Nat.beq ep 0) (k ()) none
 |.nvi id,.nv false vF [.idx i] ep,k=>cond (Nat.beq id vF&&Nat.beq ep 0) (k i) none
 |.qP f c,.qP g d,k=>cond (Nat.beq f g) (c.take d k) none
 | .V6 f c,.V6 g d,k=>cond (Nat.beq f g) (c.take d k) none
 |.agg c,.agg d,k=>c.take d k
 |.pr a b,.pr x y,k=>a.take x λd=>b.take y λe=>k (d,e)
 |.un,.un,k=>k ()
 |_,_,_=>none
inductive j3 where
 |row (t:Ty)|cell (p:zH)|map (kt vt:Ty)|nest (t:Ty)|iter (id:Nat)|Zj (p:zH)
@[reducible] def j3.den:j3->Type
 |.row t=>List t.den
 |.cell p=>p.den
 |.map kt vt=>List (kt.den×vt.den)
 |.nest t=>List t.den
 |.iter _=>Int×List Int×Int
 | .Zj p=>p.den
def uJ(id:Nat)(n:Int)(left:List Int)(cur:Int):z7:=.jS (.pr (.qV id) (.pr (.data (.int .i64) n) (.pr (.data (.sl false (.int .i64)) left) (.pr (.data (.int .i64) cur) .un))))
def j3.mk:(o:j3)->o.den->Obj
 |.row t,l=>.row t l 0
 |.cell p,d=>.cell (p.mk d)
 |.map kt vt,m=>.map kt vt m
 |.nest t,l=>.nest t l 0 0 none
 |.iter id,d=>.cell (uJ id d.1 d.2.1 d.2.2)
 | .Zj p,d=>.cell (.jS (p.mk d))
def zfw(kt vt Ay X6:Ty)(m:List (kt.den×vt.den))(k:List (Ay.den×X6.den)->Option R):Option R:=
 match Ty.same kt Ay,Ty.same vt X6 with
 |some h,some h'=>k (cast (by rw[h.down,h'.down]) m)
 |_,_=>none
def j3.take:(o:j3)->Obj->(o.den->Option R)->Option R
 |.row t,.row u l ep,k=>cond (Nat.beq ep 0) (u4 (.sl true u) (.sl true t) l k) none
 |.cell p,.cell a,k=>p.take a k
 |.map kt vt,.map Ay X6 m,k=>zfw Ay X6 kt vt m k
 |.nest t,.nest u l e i none,k=>cond (Nat.beq e 0&&Nat.beq i 0) (u4 (.sl true u) (.sl true t) l k) none
 |.iter id,.cell (.jS (.pr (.qV vF) (.pr (.data (.int .i64) n) (.pr (.data (.sl false (.int .i64)) left) (.pr (.data (.int .i64) cur) .un))))),k=>cond (Nat.beq id vF) (k (n,left,cur)) none
 | .Zj p,.cell (.jS a),k=>p.take a k
 |_,_,_=>none
structure wg where
 zk:List (Nat×zH)
 z6:List j3
@[reducible] def Zp:List (Nat×zH)->Type
 |[]=>Unit
 |(_,p)::l=>p.den×Zp l
@[reducible] def Vk:List j3->Type
 |[]=>Unit
 |o::l=>o.den×Vk l
@[reducible] def wg.den (f:wg):Type:=Zp f.zk×Vk f.z6
def vR:(l:List (Nat×zH))->Zp l->List (Nat×z7)
 |[],_=>[]
 |(i,p)::l,d=>(i,p.mk d.1)::vR l d.2
def wC:(l:List j3)->Vk l->List Obj
 |[],_=>[]
 |o::l,d=>o.mk d.1::wC l d.2
def GG:(l:List (Nat×zH))->List (Nat×z7)->(Zp l->Option R)->Option R
 |[],[],k=>k ()
 |(i,p)::l,(j,a)::m,k=>cond (Nat.beq i j) (p.take a λd=>GG l m λe=>k (d,e)) none
 |_,_,_=>none
def VD:(l:List j3)->List Obj->(Vk l->Option R)->Option R
 |[],[],k=>k ()
 |o::l,x::m,k=>o.take x λd=>VD l m λe=>k (d,e)
 |_,_,_=>none
def wg.take(f:wg)(sl:List (Nat×z7))(os:List Obj)(k:f.den->Option R):Option R:=
 GG f.zk sl λd=>VD f.z6 os λe=>k (d,e)
inductive Callee where
 |pure (args:gg) (res:List Ty) (F:args.den->Option (jD res))
 |mut (fin:wg) (js:List Nat) (zr:wg) (F:fin.den->Option zr.den)
def fits:gg->z7->Bool
 |.val (.fn f _),.qP g _=>Nat.beq f g
 |.val (.fn f _),.data (.fn g _) _=>Nat.beq f g
 |.val t,.data u _=>(Ty.same t u).isSome
 |.qP f c,.qP g d=>Nat.beq f g&&fits c d
 |.agg c,.agg d=>fits c d
 |.pr p q,.pr x y=>fits p x&&fits q y
 |_,_=>true
def SO:zH->z7->Bool
 |.val (.fn f _),.qP g _=>Nat.beq f g
 |.val (.fn f _),.data (.fn g _) _=>Nat.beq f g
 |.val t,.data u _=>(Ty.same t u).isSome
 |.val _,.qP _ _=>false
 |.val _,_=>true
 |.zi,.zi=>true
 |.ref _,.ref _ _ _=>true
 |.view _,.view _ _ _ _ _=>true
 |.zq _ _,.zq _ _=>true
 |.qV _,.qV _=>true
 |.nv _,.nv false _ [] _=>true
 |.nvi _,.nv false _ (_::_) _=>true
 |.qP f c,.qP g d=>Nat.beq f g&&SO c d
 | .V6 f c,.V6 g d=>Nat.beq f g&&SO c d
 |.agg c,.agg d=>SO c d
 |.pr p q,.pr x y=>SO p x&&SO q y
 |.un,.un=>true
 |_,_=>false
def zr8:List (Nat×zH)->z7->Bool
 |[],.un=>true
 |(_,p)::l,.pr a c=>SO p a&&zr8 l c
 |_,_=>false
def Callee.fits:Callee->z7->Bool
 |.pure p _ _,a=>Go.Kz.fits p a
 |.mut fin _ _ _,a=>zr8 fin.zk a
def Pp(a:z7):List Callee->Option Callee
 |[]=>none
 |c::l=>cond (c.fits a) (some c) (Pp a l)
abbrev Qm:=List (Nat×Nat)
def yO{I:Type}:List (Nat×I)->Nat->Option I
 |[],_=>none
 |(i,v)::l,j=>cond (Nat.beq i j) (some v) (yO l j)
def zR{I:Type}:List I->Nat->Option I
 |[],_=>none
 |x::_,0=>some x
 |_::l,n+1=>zR l n
def MQ:Qm->Nat->Bool
 |[],_=>false
 |(_,v)::l,x=>cond (Nat.beq v x) true (MQ l x)
def PC(b:Qm)(i id:Nat)(k:Qm->Option R):Option R:=
 match yO b i with
 |some j=>cond (Nat.beq j id) (k b) none
 |none=>cond (MQ b id) none (k ((i,id)::b))
def w9(J:St):(p:gg)->(a:z7)->Qm->(p.den->Qm->Option R)->Option R
 |.val t,a,b,k=>asData J 20 a t λd=>k d b
 |.ref i,.ref id [] ep,b,k=>
  match J.z6 id with
  |some (.row _ _ e)=>cond (Nat.beq e ep) (PC b i id λb=>k () b) none
  |_=>none
 |.zq i,.zq id [],b,k=>PC b i id λb=>k () b
 |.qP f c,.qP g d,b,k=>cond (Nat.beq f g) (w9 J c d b k) none
 |.agg c,.agg d,b,k=>w9 J c d b k
 |.pr p q,.pr x y,b,k=>w9 J p x b λdx b=>w9 J q y b λdy b=>k (dx,dy) b
 |.un,.un,b,k=>k () b
 |_,_,_,_=>none
def St.only(J:St)(p:Nat->Bool):St:={ J with z6:=λi=>cond (p i) (J.z6 i) none }
def St.p5(J:St)(n:Nat):List Obj->St
 |[]=>J
 |o::os=>(J.setObj n o).p5 (n+1) os
def zQ:(ts:List Ty)->jD ts->Nat->z7×List Obj
 |[],_,_=>(.jS .un,[])
 |[t],d,n=>zw t d n
 |t::u::ts,(d,ds),n=>
  let x:=zw t d n;let y:=chain (u::ts) ds (n+x.2.length)
  (.jS (.pr x.1 y.1),x.2++y.2)
where chain:(ts:List Ty)->jD ts->Nat->z7×List Obj
 |[],_,_=>(.un,[])
 |[t],d,n=>let x:=zw t d n;(.pr x.1 .un,x.2)
 |t::u::ts,(d,ds),n=>
  let x:=zw t d n;let y:=chain (u::ts) ds (n+x.2.length)
  (.pr x.1 y.1,x.2++y.2)
inductive Conv where
 |row (t:Ty)|dat (t:Ty)|Zj
structure Cut where
 live:List Nat
 conv:List (Nat×Option Path×Conv)
def z7.ids:z7->List Nat
 |.ref i _ _ |.view i _ _ _ _ |.zq i _ |.va i _ _ |.qV i |.nv _ i _ _=>[i]
 |.qP _ c | .V6 _ c |.agg c |.jS c=>c.ids
 |.pr a b=>a.ids++b.ids
 |_=>[]
def z7.w3(z6:Nat->Option Obj)(Y:Nat->Option Nat):z7->Option z7
 |.ref i p ep=>match p,z6 i with
  |[],some (.row _ _ e)=>cond (Nat.beq e ep) ((Y i).map λj=>.ref j [] 0) none
  |_,_=>none
 |.view i p ep a b=>match p,z6 i with
  |[],some (.row _ _ e)=>cond (Nat.beq e ep) ((Y i).map λj=>.view j [] 0 a b) none
  |_,_=>none
 |.zq i p=>(Y i).map λj=>.zq j p
 |.qV i=>(Y i).map λj=>.qV j
 |.nv pt i p ep=>match pt,z6 i with
  |false,some (.nest _ _ e i' none)=>cond (Nat.beq (HG false p e i') ep) ((Y i).map λj=>.nv false j p 0) none
  |_,_=>none
 |.qP f c=>(c.w3 z6 Y).map λc=>.qP f c
 | .V6 f c=>(c.w3 z6 Y).map λc=>.V6 f c
 |.agg c=>(c.w3 z6 Y).map λc=>.agg c
 |.pr a b=>match a.w3 z6 Y,b.w3 z6 Y with
  |some a,some b=>some (.pr a b)
  |_,_=>none
 |.un=>some .un
 |.zi=>some .zi
 |.data t d=>some (.data t d)
 |_=>none
def xm(z6:Nat->Option Obj)(Y:Nat->Option Nat):z7->Option z7
 |.jS c=>(c.w3 z6 Y).map .jS
 |a=>a.w3 z6 Y
def Obj.w3(z6:Nat->Option Obj)(Y:Nat->Option Nat):Obj->Option Obj
 |.row t l _=>some (.row t l 0)
 |.cell a=>(xm z6 Y a).map .cell
 |.map k v m=>some (.map k v m)
 |.nest t l _ _ none=>some (.nest t l 0 0 none)
 |.nest _ _ _ _ (some _)=>none
def j8(x:Nat):List Nat->Bool
 |[]=>false
 |y::l=>cond (Nat.beq y x) true (j8 x l)
def qC(x:Nat):List Nat->Nat->Option Nat
 |[],_=>none
 |y::l,i=>cond (Nat.beq y x) (some i) (qC x l (i+1))
def kO(z6:Nat->Option Obj):Nat->List Nat->List Nat->List Nat
 |0,_,seen=>seen
 |_+1,[],seen=>seen
 |n+1,x::todo,seen=>
  cond (j8 x seen) (kO z6 n todo seen)
   (match z6 x with
    |some (.cell a)=>kO z6 n (a.ids++todo) (seen++[x])
    |_=>kO z6 n todo (seen++[x]))
def St.of(sl:List (Nat×z7))(os:List Obj):St:=⟨yO sl,zR os,os.length⟩
def YJ(z6:Nat->Option Obj)(Y:Nat->Option Nat):List (Nat×z7)->Option (List (Nat×z7))
 |[]=>some []
 |(i,a)::l=>match a.w3 z6 Y,YJ z6 Y l with
  |some a,some l=>some ((i,a)::l)
  |_,_=>none
def JU(Y:Nat->Option Nat)(z6:Nat->Option Obj):List Nat->Option (List Obj)
 |[]=>some []
 |i::l=>match (z6 i).bind (·.w3 z6 Y),JU Y z6 l with
  |some o,some l=>some (o::l)
  |_,_=>none
def ZA(J:St):List Nat->Option (List (Nat×z7))
 |[]=>some []
 |i::l=>match J.zk i,ZA J l with
  |some a,some l=>some ((i,a)::l)
  |_,_=>none
def z7.val:z7->Bool
 |.agg (.pr _ _) |.agg .un=>true
 |.agg _ |.pr _ _ |.un |.jS _=>false
 |_=>true
def ML(J:St)(x:z7)(k:z7->St->Option R):Option R:=match x with
 |.view id [] ep a b=>match J.z6 id with
  |some (.row t l e)=>cond (Nat.beq e ep) (k (.ref id [] (e+1)) (J.setObj id (.row t (sub l a b) (e+1)))) none
  |_=>none
 |x=>k x J
def Bz(J:St)(a:z7):Conv->(z7->St->Option R)->Option R
 |.row t,k=>match a with
  |.zi=>cond t.zG (k (.ref J.next [] 0) { J.setObj J.next (.row t [] 0) with next:=J.next+1 }) none
  |a=>ML J a k
 |.dat t,k=>cond (t.zG&&a.val&&a.sk.same t.sk) (jG 20 a t J λd J=>k (.data t d) J) none
 | .Zj,_=>none
def zfv(J:St)(i:Nat)(k:St->Option R):Option R:=match J.zk i with
 |some (.zq id _)=>match J.z6 id with
  |some (.cell (.jS _))=>k J
  |some (.cell a)=>cond (z7.jS a).wh (k (J.setObj id (.cell (.jS a)))) none
  |_=>none
 |_=>none
def VW:List (Nat×Option Path×Conv)->St->(St->Option R)->Option R
 |[],J,k=>k J
 |(i,none,c)::l,J,k=>
  match J.zk i with
  |some a=>cond a.val (Bz J a c λa J=>VW l (J.set i a) k) none
  |none=>none
 |(i,some p,c)::l,J,k=>match c with
  | .Zj=>zfv J i λJ=>VW l J k
  |c=>match J.zk i with
   |some (.zq id _)=>JV J id p λa=>cond a.val (Bz J a c λa J=>JV J id [] λwhole=>xq a whole p λwhole=>VW l (J.setObj id (.cell whole)) k) none
   |_=>none
def LM(l:List (Nat×z7))(J:St)(k:List (Nat×z7)->List Obj->Option R):Option R:=
 let ids:=kO J.z6 100 (l.flatMap λx=>x.2.ids) [];let Y:=λi=>qC i ids 0
 match YJ J.z6 Y l,JU Y J.z6 ids with
 |some l',some os=>k l' os
 |_,_=>none
def Pu(cut:Cut)(J:St)(k:List (Nat×z7)->List Obj->Option R):Option R:=
 VW cut.conv J λJ=>match ZA J cut.live with
  |some l=>LM l J k
  |none=>none
def norm(cut:Cut)(J:St)(k:St->Option R):Option R:=Pu cut J λsl os=>k (St.of sl os)
inductive vN where
 |normal|exit (id:Nat)|ret
abbrev BU:=(R:Type)->List (Nat×z7)->List Obj->(vN->St->Option R)->Option R
structure Ctx where
 fuel:Nat
 tt:Nat->Option Ty
 mt:Nat->Option (Ty×Ty)
 ntmps:Nat
 env:Nat->List Callee
 cut:Nat->Option Cut
 Dj:Nat->Nat->Option Cut
 res:Cut
 own:Nat->Option Ty
 lp:Nat->Option BU
 eqs:Nat->Bool:=λ_=>false
 ct:Nat->Bool:=λ_=>false
 ms:Nat->String->Option (Nat×Option Nat):=λ_ _=>none
def Cp(c:Ctx)(d:Option Nat)(t:Nat):Option Ty:=
 match d.bind c.own with
 |some u=>match c.tt t with
  |some v=>match Ty.same u.ro v.ro with
   |some _=>some u
   |none=>none
  |none=>none
 |none=>c.tt t
def zr6(c:Ctx)(d:Option Nat):Bool:=match d.bind c.own with
 |some (.sl false _)=>true
 |_=>false
def ev(J:St):Operand->Option z7
 |.tmp t=>J.zk t
 |.const (.int k n)=>cond (decide (k.min<=n)&&decide (n<=k.max)) (some (.data (.int k) n)) none
 |.const (.bool b)=>some (.data .bool b)
 |.const (.string s)=>cond (Nat.ble s.size 100000) (some (.data .str s.data.toList)) none
 |.const (.slice none 0 0)=>some .zi
 |.const (.map none)=>some (.data (.mp false) none)
 |.func f=>some (.qP f .un)
 |.global g=>match tab g with
  |some e=>some (.data (.ptr (.arr e.n e.t)) e.l)
  |none=>none
 |_=>none
def TW(J:St):List Operand->Option z7
 |[]=>some .un
 |x::l=>match ev J x,TW J l with
  |some a,some c=>some (.pr a c)
  |_,_=>none
def G3:z7->z7->z7
 |.pr a b,c=>.pr a (G3 b c)
 |_,c=>c
def z2t:z7->Bool
 |.zq _ _ |.va _ _ _ |.data (.ptr _) _=>true
 |_=>false
def holds(J:St):z7->Bool
 |.data (.ptr _) _=>true
 |.zq id _=>match J.z6 id with
  |some (.cell _)=>true
  |_=>false
 |.va id _ ep=>match J.z6 id with
  |some (.row _ _ e)=>Nat.beq e ep
  |_=>false
 |.nv true id _ ep=>match J.z6 id with
  |some (.nest _ _ _ i none)=>Nat.beq i ep
  |_=>false
 |_=>false
def yV:z7->Bool
 |.un=>true
 |.pr (.zq _ _) c=>yV c
 |.pr (.data (.ptr _) _) c=>yV c
 |_=>false
def St.qo(J:St)(c:Ctx)(d:Option Nat)(v:z7)(k:St->Option R):Option R:=match d with
 |some i=>cond (Nat.blt i c.ntmps) (k (J.set i v)) none
 |none=>k J
def MT(op:BinOp)(k:IntKind)(a b:Int)(f:z7->Option R):Option R:=
 match op with
 |.add=>f (.data (.int k) (k.wrap (a+b)))
 |.sub=>f (.data (.int k) (k.wrap (a-b)))
 |.mul=>f (.data (.int k) (k.wrap (a*b)))
 |.quo=>cond (b == 0) none (f (.data (.int k) (k.wrap (a.tdiv b))))
 |.rem=>cond (b == 0) none (f (.data (.int k) (a.tmod b)))
 |.and=>f (.data (.int k) (k.wrap (BitVec.ofInt k.bits a &&& BitVec.ofInt k.bits b).toNat))
 |.or=>f (.data (.int k) (k.wrap (BitVec.ofInt k.bits a ||| BitVec.ofInt k.bits b).toNat))
 |.xor=>f (.data (.int k) (k.wrap (BitVec.ofInt k.bits a ^^^ BitVec.ofInt k.bits b).toNat))
 |.andNot=>f (.data (.int k) (k.wrap (BitVec.ofInt k.bits a &&& ~~~BitVec.ofInt k.bits b).toNat))
 |.eql=>f (.data .bool (a == b))
 |.neq=>f (.data .bool (a != b))
 |.lss=>f (.data .bool (decide (a<b)))
 |.leq=>f (.data .bool (decide (a<=b)))
 |.gtr=>f (.data .bool (decide (a>b)))
 |.geq=>f (.data .bool (decide (a ≥ b)))
 |_=>none
def XY(op:BinOp)(k:IntKind)(a b:Int)(f:z7->Option R):Option R:=
 match op with
 |.shl=>cond (decide (b<0)) none (f (.data (.int k) (k.wrap (a*2 ^ (min b.toNat k.bits)))))
 |.shr=>cond (decide (b<0)) none (f (.data (.int k) (a.fdiv (2 ^ (min b.toNat k.bits)))))
 |_=>none
def U6:BinOp->Bool
 |.shl |.shr=>true
 |_=>false
def R5(op:BinOp)(a b:Bool)(f:z7->Option R):Option R:=
 match op with
 |.eql=>f (.data .bool (a == b))
 |.neq=>f (.data .bool (!(a == b)))
 |_=>none
def jU:Ty->Bool
 |.int _ |.bool |.str=>true
 |_=>false
def jX:(t:Ty)->t.den->t.den->Bool
 |.int _,a,b=>decide (a=b)
 |.bool,a,b=>a == b
 |.str,a,b=>decide (a=b)
 |_,_,_=>false
def kY{I:Type}(f:I->I->Bool):List I->List I->Bool
 |[],[]=>true
 |x::l,y::m=>cond (f x y) (kY f l m) false
 |_,_=>false
def yQ:Ty->Bool
 |.unit=>true
 |.pair a b=>jU a&&yQ b
 |.arr _ a=>jU a
 |_=>false
def P4:(t:Ty)->t.den->t.den->Bool
 |.unit,_,_=>true
 |.pair a b,(x,u),(y,v)=>jX a x y&&P4 b u v
 |.arr _ a,x,y=>kY (jX a) x y
 |_,_,_=>false
def kTy:Ty->Bool
 |.pair a b=>yQ (.pair a b)
 |t=>jU t
def JL(t:Ty):t.den->t.den->Bool:=cond (jU t) (jX t) (P4 t)
def Ig(op:BinOp)(b:Bool)(f:z7->Option R):Option R:=
 match op with
 |.eql=>f (.data .bool b)
 |.neq=>f (.data .bool (!b))
 |_=>none
def MS(op:BinOp)(a b:List UInt8)(f:z7->Option R):Option R:=
 match op with
 |.add=>zo (decide (a.length+b.length<=room)) (f (.data .str (a++b)))
 |.eql=>f (.data .bool (decide (a=b)))
 |.neq=>f (.data .bool (!decide (a=b)))
 |_=>none
def zna(J:St)(id:Nat)(p:Path)(ep:Nat)(f:Bool->Option R):Option R:=xT J false id p ep λu d=>match u,d with
 |.mp true,m=>f m.isNone
 |_,_=>none
def zrj(J:St)(q:Bool)(t:Option Ty)(op:BinOp)(x y:z7)(f:z7->Option R):Option R:=
 match x,y with
 |.data (.int k) a,.data (.int j) b=>cond (U6 op) (XY op k a b f) (match decEq k j with
   |isTrue _=>MT op k a b f
   |isFalse _=>none)
 |.data .bool a,.data .bool b=>match t with
  |some .bool=>R5 op a b f
  |_=>none
 |.data .str a,.data .str b=>MS op a b f
 |.nv false id p ep,.data (.mp false) none=>match t with
  |some (.mp _)=>zna J id p ep λb=>Ig op b f
  |_=>none
 |x,y=>match t with
  |some u=>cond (q&&yQ u&&x.val&&y.val) (asData J 20 x u λd=>asData J 20 y u λe=>Ig op (P4 u d e) f) none
  |none=>none
def unK(op:UnOp)(x:z7)(f:z7->Option R):Option R:=
 match op,x with
 |.not,.data .bool a=>f (.data .bool (!a))
 |.neg,.data (.int k) a=>f (.data (.int k) (k.wrap (0-a)))
 |.xor,.data (.int k) a=>f (.data (.int k) (k.wrap (BitVec.ofInt k.bits (if k.signed then -1 else k.max) ^^^ BitVec.ofInt k.bits a).toNat))
 |_,_=>none
def znc(J:St)(x:z7)(f:Int->Option R):Option R:=
 match x with
 |.zi=>f 0
 |.data (.sl _ _) l=>f (l.length:Int)
 |.ref id p ep=>xY J id p ep λ_ l=>f (l.length:Int)
 |.view id p ep a b=>xY J id p ep λ_ _=>f (b-a)
 |.nv false id p ep=>Xl J id p ep λ_ l=>f (l.length:Int)
 |_=>none
def vL{I Z:Type}(eq:I->I->Bool):List (I×Z)->I->Option Z
 |[],_=>none
 |(k,v)::m,x=>cond (eq x k) (some v) (vL eq m x)
def vQ{I Z:Type}(eq:I->I->Bool):List (I×Z)->I->Z->List (I×Z)
 |[],x,y=>[(x,y)]
 |(k,v)::m,x,y=>cond (eq x k) ((k,y)::m) ((k,v)::vQ eq m x y)
def gy{I Z:Type}(eq:I->I->Bool):List (I×Z)->I->Nat
 |[],_=>0
 |(k,_)::m,x=>cond (eq x k) 0 (gy eq m x+1)
def A0{I Z:Type}:List (I×Z)->Nat->Z->List (I×Z)
 |[],_,_=>[]
 |(k,_)::m,0,y=>(k,y)::m
 |e::m,n+1,y=>e::A0 m n y
def M4(J:St)(mt:Option (Ty×Ty))(a:z7)(f:(id:Nat)->(kt vt:Ty)->List (kt.den×vt.den)->Option R):Option R:=
 match a,mt with
 |.qV id,some (Ay,X6)=>match J.z6 id with
  |some (.map kt vt m)=>cond ((Ty.same kt Ay).isSome&&(Ty.same vt X6).isSome&&kTy kt&&vt.qs) (f id kt vt m) none
  |_=>none
 |_,_=>none
def z04:Ty->Ty
 |.tree k=>.pair (uE k) (uD k)
 |t=>t
def z0p(J:St)(u:Ty)(x:z7)(lo:Int)(hi:Option Int)(f:z7->Option R):Option R:=
 match x with
 |.zi=>zo (decide (lo=0)&&decide (hi.getD 0=0)) (f .zi)
 |.data (.sl false t) l=>cond ((z04 t).sk.same u.sk) (zo (decide (0<=lo)&&decide (lo<=hi.getD (l.length:Int))&&decide (hi.getD (l.length:Int)<=(l.length:Int))) (f (.data (.sl false t) (sub l lo (hi.getD (l.length:Int)))))) none
 |.ref id [] ep=>xY J id [] ep λt l=>cond (t.sk.same u.sk) (zo (decide (0<=lo)&&decide (lo<=hi.getD (l.length:Int))&&decide (hi.getD (l.length:Int)<=(l.length:Int))) (f (.view id [] ep lo (hi.getD (l.length:Int))))) none
 |_=>none
def qy(g:Int->Int->Int)(k:IntKind)(x:Int):z7->(Int->Option R)->Option R
 |.un,f=>f x
 |.pr (.data (.int j) y) c,f=>match decEq k j with
  |isTrue _=>qy g k (g x y) c f
  |isFalse _=>none
 |_,_=>none
def gG(x y:Int):Int:=if y>x then y else x
def k8(x y:Int):Int:=if y<x then y else x
def U7(J:St)(id:Nat):Nat:=match J.z6 id with
 |some (.nest _ _ _ i _)=>i
 |_=>0
def z3k(J:St)(id:Nat):Bool:=match J.z6 id with
 |some (.nest _ _ _ _ (some _))=>true
 |_=>false
def z3l(J:St)(id:Nat)(ep:Nat)(u:Ty)(i:Int)(f:z7->Option R):Option R:=
 match J.z6 id with
 |some (.nest t l e n (some _))=>cond (Nat.beq e ep&&t.sk.same u.sk) (zo (jY l i) (f (.nv true id [.idx i] n))) none
 |_=>none
def noP:Path->Bool
 |[]=>true
 |_=>false
def z9p:(t:Ty)->t.den->z7
 |.tree k,x=>.data (.ptr (.pair (uE k) (uD k))) (vz k x)
 |t,d=>.data (.ptr t) d
def z2w(J:St)(u:Ty)(x:z7)(i:Int)(f:z7->Option R):Option R:=
 match x,u with
 |.data (.sl _ t) l,.sl _ u=>cond ((z04 t).sk.same u.sk) ((idx l i).bind λd=>f (z9p t d)) none
 |.data (.ptr (.arr n t)) l,.arr m u=>cond (Nat.beq n m&&t.sk.same u.sk) ((zia l i).bind λd=>f (.data (.ptr t) d)) none
 |.ref id p ep,.sl _ u=>xY J id p ep λt l=>cond (t.sk.same u.sk) (zo (jY l i) (f (.va id (p++[.idx i]) ep))) none
 |.view id p ep a b,.sl _ u=>xY J id p ep λt _=>cond (t.sk.same u.sk) (zo (decide (0<=i)&&decide (i<b-a)) (f (.va id (p++[.idx (a+i)]) ep))) none
 |.nv false id p ep,.sl _ u=>cond (noP p&&z3k J id) (z3l J id ep u i f) (Xl J id p ep λt l=>cond (t.sk.same u.sk) (zo (jY l i) (f (.nv true id (p++[.idx i]) (U7 J id)))) none)
 |.zq id p,.arr m u=>Jl J id p λa=>match a with
  |.data (.arr n t) l=>cond (Nat.beq n m&&t.sk.same u.sk) (zo (jY l i) (f (.zq id (p++[.idx i])))) none
  |_=>none
 |.va id p ep,.arr m u=>match p with
  |[]=>none
  |s::q=>pE J id (s::q) ep λa l=>match a,l with
   |.arr n t,l=>cond (Nat.beq n m&&t.sk.same u.sk) (zo (jY l i) (f (.va id (s::q++[.idx i]) ep))) none
   |_,_=>none
 |_,_=>none
def Cf(J:St)(x:z7)(f:z7->Option R):Option R:=
 match x with
 |.data (.ptr t) d=>f (.data t d)
 |.va id p ep=>match p with
  |[]=>none
  |s::q=>pE J id (s::q) ep λu d=>f (.data u d)
 |.zq id p=>Jl J id p f
 |.nv true id p ep=>xT J true id p ep λu d=>cond u.zG (f (.data u d)) (match u with
  |.sl true _=>f (.nv false id p ep)
  |.mp true=>f (.nv false id p ep)
  |_=>none)
 |_=>none
def Wo:Path->Option (Path×Int×Path)
 |[]=>none
 |s::p=>match Wo p with
  |some (q,j,r)=>some (s::q,j,r)
  |none=>match s with
   |.idx j=>some ([],j,p)
   |_=>none
def Z2:Path->Path->Bool
 |[],[]=>true
 |.fst::p,.fst::q=>Z2 p q
 |.snd::p,.snd::q=>Z2 p q
 |.idx i::p,.idx j::q=>decide (i=j)&&Z2 p q
 |_,_=>false
def vW:Ty->Path->Option Ty
 |.sl true v,[]=>some v
 |.pair a _,.fst::p=>vW a p
 |.pair _ b,.snd::p=>vW b p
 |.arr _ t,.idx _::p=>vW t p
 |.sl true t,.idx _::p=>vW t p
 |_,_=>none
def FY(t:Ty):Path->Option Ty
 |.idx _::p=>vW t p
 |_=>none
def uO(J:St)(a:z7)(v:Ty)(k:List v.den->St->Option R):Option R:=match a with
 |.zi=>k [] J
 |.ref id [] ep=>match J.z6 id with
  |some (.row t l e)=>cond (Nat.beq e ep) (u4 (.sl true t) (.sl true v) l λl=>k l (J.kill id)) none
  |_=>none
 |_=>none
def AD(J:St)(id:Nat)(t:Ty)(l:List t.den)(e i:Nat)(p:Path)(a:z7)(f:St->Option R):Option R:=
 match FY t p with
 |some v=>cond v.zG (uO J a v λd J=>jn (.sl true t) l p (.sl true v) d λl=>f (J.setObj id (.nest t l e (i+1) none))) none
 |none=>none
def E5(J:St)(id:Nat)(p:Path)(ep:Nat)(a:z7)(f:St->Option R):Option R:=
 match J.z6 id with
 |some (.nest t l e i none)=>cond (Nat.beq i ep)
  (cond ((FY t p).isSome) (AD J id t l e i p a f)
   (match Wo p with
    |some (s::p,j,q)=>zb (.sl true t) l (s::p) λv l1=>match v,l1 with
     |.sl true v,l1=>cond v.zG (zb (.sl true v) l1 (.idx j::q) λu _=>jG 20 a u J λd J=>match J.z6 id with
      |some (.nest _ _ _ _ none)=>jn (.sl true v) l1 (.idx j::q) u d λl1=>jn (.sl true t) l (s::p) (.sl true v) l1 λl=>f (J.setObj id (.nest t l e i none))
      |_=>none) none
     |_,_=>none
    |_=>none)) none
 |some (.nest t l e i (some h))=>cond (Nat.beq i ep) (zo (Z2 p h) (AD J id t l e i p a f)) none
 |_=>none
def E8(J:St)(id:Nat)(p:Path)(ep m:Nat)(f:St->Option R):Option R:=match p,J.z6 id,J.z6 m with
 |[.idx j],some (.nest (.mp true) l e i none),some (.map .str .bool es)=>cond (Nat.beq i ep) (zo (jY l j) (f ((J.kill m).setObj id (.nest (.mp true) (qN l j (some es)) e (i+1) none)))) none
 |_,_,_=>none
def M1(J:St)(id:Nat)(p:Path)(ep:Nat)(b v:z7)(f:St->Option R):Option R:=match p,J.z6 id with
 |[.idx j],some (.nest (.mp true) l e i none)=>cond (Nat.beq i ep&&b.val&&v.val) ((idx l j).bind λm=>zo m.isSome (asData J 20 b .str λkey=>asData J 20 v .bool λd=>f (J.setObj id (.nest (.mp true) (qN l j (some (vQ (JL .str) (m.getD []) key d))) e i none)))) none
 |_,_=>none
def zb8:Option (Ty×Ty)->Bool
 |some (.str,.bool)=>true
 |_=>false
def z0j(J:St)(x a:z7)(f:St->Option R):Option R:=
 match x with
 |.va id p ep=>match p with
  |[]=>none
  |s::q=>pE J id (s::q) ep λu _=>jG 20 a u J λd J=>
   match J.z6 id with
   |some (.row t l e)=>cond (Nat.beq e ep) (jn (.sl true t) l (s::q) u d λl=>f (J.setObj id (.row t l e))) none
   |_=>none
 |.zq id p=>match J.z6 id with
  |some (.cell whole)=>cond whole.we none (xQ whole p λold=>cond (old.sk.same a.sk) (xq a whole p λwhole=>f (J.setObj id (.cell whole))) none)
  |_=>none
 |.nv true id p ep=>match a with
  |.qV m=>E8 J id p ep m f
  |a=>E5 J id p ep a f
 |_=>none
def z7.M8:z7->Bool
 |.nv _ _ _ _=>true
 |_=>false
def Pv(J:St)(t:Ty)(x:z7)(f:List t.den->Option R):Option R:=cond (t.zG&&x.val && !x.M8) (asData J 20 x (.sl false t) f) none
def zjv(J:St):z7->Option Ty
 |.data (.sl _ t) _=>some t
 |.ref id p ep=>xY J id p ep λt _=>some t
 |.view id p ep _ _=>xY J id p ep λt _=>some t
 |.nv false id p ep=>Xl J id p ep λt _=>some t
 |_=>none
def Ty.wN:Ty->Bool
 |.sl true t=>t.wN
 |.pair a b=>a.wN&&b.wN
 |.arr _ t=>t.wN
 |t=>t.qs
def zaj(J:St)(x:z7)(f:(t:Ty)->(id e i:Nat)->t.den->Option R):Option R:=match x with
 |.nv false id [] ep=>match J.z6 id with
  |some (.nest t [d] e i none)=>cond (Nat.beq e ep&&t.wN) (f t id e i d) none
  |_=>none
 |_=>none
def G2(J:St)(u:Ty)(s x:z7)(f:z7->St->Option R):Option R:=
 match s with
 |.zi=>zaj J x λt id e i d=>cond (t.sk.same u.sk) (f (.nv false id [] (e+1)) (J.setObj id (.nest t [d] (e+1) (i+1) none))) none
 |.nv false id [] ep=>match J.z6 id with
  |some (.nest t l e i none)=>cond (Nat.beq e ep&&t.sk.same u.sk) (zaj J x λt' vF _ _ d=>cond (Nat.beq id vF) none (u4 t' t d λd=>zo (decide (l.length+1<=room)) (f (.nv false id [] (e+1)) ((J.kill vF).setObj id (.nest t (l++[d]) (e+1) (i+1) none))))) none
  |_=>none
 |_=>none
def R9(J:St)(n:Nat)(u:Ty)(s x:z7)(f:z7->St->Option R):Option R:=
 match s with
 |.zi=>cond x.M8 (G2 J u .zi x f)<|match zjv J x with
  |some t=>cond (t.sk.same u.sk) (Pv J t x λm=>zo (decide (m.length<=room)) (f (.ref n [] 1) (J.setObj n (.row t m 1)))) none
  |none=>none
 |.ref id [] ep=>match J.z6 id with
  |some (.row t l e)=>cond (Nat.beq e ep&&t.sk.same u.sk) (Pv J t x λm=>zo (decide (l.length+m.length<=room)) (f (.ref id [] (e+1)) (J.setObj id (.row t (l++m) (e+1))))) none
  |_=>none
 |.view id [] ep a b=>match J.z6 id with
  |some (.row t l e)=>cond (Nat.beq e ep&&t.sk.same u.sk) (Pv J t x λm=>zo (decide ((sub l a b).length+m.length<=room)) (f (.ref id [] (e+2)) (J.setObj id (.row t (sub l a b++m) (e+2))))) none
  |_=>none
 |.nv false id [] ep=>G2 J u (.nv false id [] ep) x f
 |.nv false id (q::p) ep=>match J.z6 id with
  |some (.nest t l e i none)=>cond (Nat.beq i ep) (zb (.sl true t) l (q::p) λv l1=>match v,l1 with
   |.sl true v,l1=>cond (v.sk.same u.sk) (Pv J v x λm=>zo (decide (l1.length+m.length<=room)) (f (.ref n [] 1) ((J.setObj id (.nest t l e i (some (q::p)))).setObj n (.row v (l1++m) 1)))) none
   |_,_=>none) none
  |_=>none
 |_=>none
def parts(J:St)(t:Ty):List (Nat×Operand)->(List t.den->St->Option R)->Option R
 |[],k=>k [] J
 |(_,x)::l,k=>match ev J x with
  |some a=>cond a.val (jG 20 a t J λd J=>parts J t l λds J=>k (d::ds) J) none
  |none=>none
def GR:Ty->Bool
 |.pair t (.pair (.sl true v) .unit)=>t.zG&&v.zG
 |_=>false
def AU(J:St)(a:z7)(u:Ty)(k:u.den->St->Option R):Option R:=match a,u,k with
 |.agg (.pr x (.pr y .un)),.pair t (.pair (.sl true v) .unit),k=>cond (t.zG&&v.zG&&x.val) (jG 20 x t J λd J=>uO J y v λl J=>k (d,l,()) J) none
 |_,_,_=>none
def gr(J:St):Ty->Nat->List (Nat×Operand)->Option z7
 |.unit,_,[]=>some .un
 |.pair a b,i,[]=>match pz a,gr J b (i+1) []with
  |some z,some c=>some (.pr z c)
  |_,_=>none
 |.pair a b,i,(j,x)::l=>cond (Nat.beq i j)
   (match ev J x,gr J b (i+1) l with
    |some v,some c=>cond v.val (some (.pr v c)) none
    |_,_=>none)
   (match pz a,gr J b (i+1) ((j,x)::l) with
    |some z,some c=>some (.pr z c)
    |_,_=>none)
 |_,_,_=>none
def jH(t:Ty):z7->(List t.den->Option R)->Option R
 |.un,k=>k []
 |.pr (.data u d) c,k=>u4 u t d λd=>jH t c λl=>k (d::l)
 |_,_=>none
def uB(J:St)(u:Ty):Nat->Nat->List (Nat×Operand)->(List u.den->Option R)->Option R
 |0,_,[],k=>k []
 |n+1,i,[],k=>match u.zero with
  |some z=>uB J u n (i+1) [] λl=>k (z::l)
  |none=>none
 |n+1,i,(j,x)::ps,k=>cond (Nat.beq i j)
   (match ev J x with
    |some (.data t d)=>u4 t u d λd=>uB J u n (i+1) ps λl=>k (d::l)
    |_=>none)
   (match u.zero with
    |some z=>uB J u n (i+1) ((j,x)::ps) λl=>k (z::l)
    |none=>none)
 |0,_,_::_,_=>none
def xd:Nat->List (Nat×Operand)->Bool
 |_,[]=>true
 |i,(j,_)::l=>Nat.beq i j&&xd (i+1) l
def qI:Nat->Path
 |0=>[.fst]
 |n+1=>.snd::qI n
def zfa(J:St)(id:Nat)(p:Path)(ep:Nat)(u:Ty)(i:Nat)(f:z7->Option R):Option R:=match p,J.z6 id with
 |[.idx j],some (.nest t _ _ n (some _))=>cond (Nat.beq n ep&&t.sk.same u.sk&&(vA u (qI i)).isSome) (f (.nv true id ([.idx j]++qI i) ep)) none
 |_,_=>none
def z4t(J:St)(u:Ty)(x:z7)(i:Nat)(f:z7->Option R):Option R:=
 match x with
 |.data (.ptr t) d=>cond (t.sk.same u.sk) (zb t d (qI i) λu e=>f (.data (.ptr u) e)) none
 |.zq id p=>Jl J id p λa=>cond (a.sk.same u.sk&&(vA u (qI i)).isSome) (f (.zq id (p++qI i))) none
 |.va id p ep=>match p with
  |[]=>none
  |s::q=>pE J id (s::q) ep λt _=>cond (t.sk.same u.sk&&(vA u (qI i)).isSome) (f (.va id (s::q++qI i) ep)) none
 |.nv true id p ep=>cond (z3k J id) (zfa J id p ep u i f) (xT J true id p ep λt _=>cond (t.sk.same u.sk&&(vA u (qI i)).isSome) (f (.nv true id (p++qI i) ep)) none)
 |_=>none
def Ty.flat:Ty->Bool
 |.sl true t=>t.qs
 |.pair a b=>a.flat&&b.flat
 |t=>t.qs
def uG:List Ty->Bool
 |[]=>true
 |t::ts=>t.flat&&uG ts
def wc:z7->Bool
 |.ref _ _ _ |.view _ _ _ _ _ |.zq _ _ |.va _ _ _ |.qV _ |.nv _ _ _ _=>false
 |.qP _ c | .V6 _ c |.agg c |.jS c=>wc c
 |.pr a b=>wc a&&wc b
 |_=>true
def vV:z7->Bool
 |.pr a c=>a.val&&vV c
 |.un=>true
 |_=>false
def kf:gg->Bool
 |.pr (.val _) q=>kf q
 |.un=>true
 |_=>false
def py:z7->Bool
 |.pr a c=>a.val && !a.sk.isAgg&&py c
 |.un=>true
 |_=>false
def Ks(g args:z7):Option (Nat×z7):=match g with
 |.qP fid cap=>cond (py cap) (some (fid,G3 args cap)) none
 |.data (.fn fid t) d=>cond (py (jj t d)&&(jj t d).sk.same t.sk) (some (fid,G3 args (jj t d))) none
 |_=>none
def Kt(J:St)(n:Nat)(all:z7)(p:gg)(res:List Ty)(F:p.den->Option (jD res))(f:z7->St->Option R):Option R:=
 cond (kf p&&vV all&&(uG res||wc all)) (w9 J p all [] λd _=>(F d).bind λr=>
   let x:=zQ res r n
   cond (Nat.ble x.2.length 8) (f x.1 (J.p5 n x.2)) none) none
def gn:(p:gg)->(all:z7)->St->(z7->St->Option R)->Option R
 |.pr (.val t) q,.pr a c,J,k=>cond (a.val&&t.zG&&a.sk.same t.sk) (jG 20 a t J λd J=>gn q c J λc J=>k (.pr (.data t d) c) J) none
 |.un,.un,J,k=>k .un J
 |_,_,_,_=>none
def Za(J:St)(n:Nat)(all:z7)(p:gg)(res:List Ty)(F:p.den->Option (jD res))(f:z7->St->Option R):Option R:=
 cond (uG res||wc all) (Kt J n all p res F f) (gn p all J λall J=>Kt J n all p res F f)
def jB:z7->Nat->Option z7
 |.pr a _,0=>some a
 |.pr _ b,n+1=>jB b n
 |_,_=>none
def pA(Jr:St)(z6:Nat->Option Obj)(Y:Nat->Option Nat):(l:List (Nat×zH))->z7->(Zp l->Option R)->Option R
 |[],.un,k=>k ()
 |(_,.val t)::l,.pr a c,k=>asData Jr 20 a t λd=>pA Jr z6 Y l c λe=>k (d,e)
 |(_,p)::l,.pr a c,k=>match a.w3 z6 Y with
  |some a'=>p.take a' λd=>pA Jr z6 Y l c λe=>k (d,e)
  |none=>none
 |_,_,_=>none
def zH.isVal:zH->Bool
 |.val _=>true
 |_=>false
def pC:List (Nat×zH)->z7->List Nat
 |(_,p)::l,.pr a c=>cond p.isVal (pC l c) (a.ids++pC l c)
 |_,_=>[]
def Q8:List (Nat×zH)->z7->Bool
 |(_,p)::l,.pr a c=>(!p.isVal||wc a)&&Q8 l c
 |_,_=>true
def BZ(l:List (Nat×zH)):List Nat->Bool
 |[]=>true
 |i::a=>(match zR l i with
  |some (_,p)=>!p.isVal
  |none=>false)&&BZ l a
def Aj:List (Nat×zH)->Nat->Bool
 |[],_=>true
 |(i,_)::l,n=>Nat.beq i n&&Aj l (n+1)
def zH.flat:zH->Bool
 |.val t=>t.qs
 |.qP _ c | .V6 _ c |.agg c=>c.flat
 |.pr a b=>a.flat&&b.flat
 |_=>true
def j3.flat:j3->Bool
 |.row t=>t.qs
 |.cell p=>p.flat
 |.nest t=>t.wN
 |.map kt vt=>kt.qs&&vt.qs
 |.iter _=>false
 | .Zj _=>false
def uu:List (Nat×zH)->Bool
 |[]=>true
 |(_,p)::l=>p.flat&&uu l
def Qk:List j3->Bool
 |[]=>true
 |o::l=>o.flat&&Qk l
def QH(z6:Nat->Option Obj)(a:z7)(p:zH)(b:Qm):Option Qm:=match a,p with
 |.ref id [] _,.ref j=>PC b j id some
 |.zq id [],.zq j []=>match z6 id with
  |some (.cell _)=>PC b j id some
  |_=>none
 |.qV id,.qV j=>match z6 id with
  |some (.map _ _ _)=>PC b j id some
  |_=>none
 |.nv false id [] _,.nv j=>PC b j id some
 |_,_=>none
def QF(z6:Nat->Option Obj):z7->zH->Qm->Option Qm
 |.un,.un,b=>some b
 |.pr (.data t _) c,.pr (.val u) q,b=>cond (Ty.same t u).isSome (QF z6 c q b) none
 |.pr a c,.pr p q,b=>match QH z6 a p b with
  |some b=>QF z6 c q b
  |none=>none
 |_,_,_=>none
def z6d(z6:Nat->Option Obj)(a:z7)(p:zH)(b:Qm):Option Qm:=match a,p with
 | .V6 _ a,.V6 _ p=>QH z6 a p b
 |.qP f c,.qP g q=>cond (Nat.beq f g) (QF z6 c q b) none
 |a,p=>QH z6 a p b
def BQ(z6:Nat->Option Obj)(all:z7):List Nat->List (Nat×zH)->Qm->Option Qm
 |[],_,b=>some b
 |i::l,(_,p)::out,b=>match jB all i with
  |some a=>match z6d z6 a p b with
   |some b=>BQ z6 all l out b
   |none=>none
  |none=>none
 |_::_,[],_=>none
def xn(b:Qm)(n:Nat):Nat->Nat->List Nat
 |0,_=>[]
 |m+1,j=>(match yO b j with
  |some id=>id
  |none=>n+j)::xn b n m (j+1)
def G0(J:St)(b:Qm)(j:Nat):Nat×Nat:=match yO b j with
 |some id=>match J.z6 id with
  |some (.row _ _ e)=>(e,0)
  |some (.nest _ _ e i _)=>(e,i+1)
  |_=>(0,0)
 |none=>(0,0)
def zH.inst(M:List Nat)(E:Nat->Nat×Nat):(p:zH)->p.den->Option z7
 |.val t,d=>some (.data t d)
 |.zi,_=>some .zi
 |.ref j,_=>(zR M j).map λid=>.ref id [] (E j).1
 |.view j,d=>(zR M j).map λid=>.view id [] (E j).1 d.1 d.2
 |.zq j p,_=>(zR M j).map λid=>.zq id p
 |.qV j,_=>(zR M j).map λid=>.qV id
 |.nv j,_=>(zR M j).map λid=>.nv false id [] (E j).1
 |.nvi j,d=>(zR M j).map λid=>.nv false id [.idx d] (E j).2
 |.qP f c,d=>(c.inst M E d).map λa=>.qP f a
 | .V6 f c,d=>(c.inst M E d).map λa=>.V6 f a
 |.agg c,d=>(c.inst M E d).map λa=>.agg a
 |.pr a b,d=>match a.inst M E d.1,b.inst M E d.2 with
  |some x,some y=>some (.pr x y)
  |_,_=>none
 |.un,_=>some .un
def j3.inst(M:List Nat)(E:Nat->Nat×Nat)(j:Nat):(o:j3)->o.den->Option Obj
 |.row t,l=>some (.row t l (E j).1)
 |.cell p,d=>(p.inst M E d).map λa=>.cell a
 |.map kt vt,m=>some (.map kt vt m)
 |.nest t,l=>some (.nest t l (E j).1 (E j).2 none)
 |.iter _,_=>none
 | .Zj p,d=>cond (z7.jS (p.mk d)).wh ((p.inst M E d).map λa=>.cell (.jS a)) none
def GF(M:List Nat)(E:Nat->Nat×Nat):(l:List j3)->Vk l->Nat->Option (List Obj)
 |[],_,_=>some []
 |o::l,d,j=>match o.inst M E j d.1,GF M E l d.2 (j+1) with
  |some x,some y=>some (x::y)
  |_,_=>none
def gS(M:List Nat)(E:Nat->Nat×Nat):(l:List (Nat×zH))->Zp l->Option (List z7)
 |[],_=>some []
 |(_,p)::l,d=>match p.inst M E d.1,gS M E l d.2 with
  |some x,some y=>some (x::y)
  |_,_=>none
def sameKind:Option Obj->Obj->Bool
 |some (.row t _ _),.row u _ _=>(Ty.same t u).isSome
 |some (.cell a),.cell x=>x.sk.same a.sk
 |some (.map kt vt _),.map Ay X6 _=>(Ty.same kt Ay).isSome&&(Ty.same vt X6).isSome
 |some (.nest t _ _ _ none),.nest u _ _ _ none=>(Ty.same t u).isSome
 |_,_=>false
def Xf(J:St)(ids:List Nat)(b:Qm):List Obj->Nat->Bool
 |[],_=>true
 |o::l,j=>(match yO b j with
  |some id=>j8 id ids&&sameKind (J.z6 id) o
  |none=>true)&&Xf J ids b l (j+1)
def YU:List Nat->Bool
 |[]=>true
 |x::l=>!j8 x l&&YU l
def z68(J:St)(ids M:List Nat)(os:List Obj):St:={ J with z6:=λi=>match qC i M 0 with
 |some j=>zR os j
 |none=>cond (j8 i ids) none (J.z6 i) }
def vw:List z7->z7
 |[]=>.un
 |a::l=>.pr a (vw l)
def gJ:List z7->z7
 |[a]=>a
 |l=>.jS (vw l)
def gD{I:Type}:Nat->List I->List I
 |0,l=>l
 |_+1,[]=>[]
 |n+1,_::l=>gD n l
def Ls(J:St)(n:Nat)(ids:List Nat)(b:Qm)(js:List Nat)(zr:wg)(r:zr.den)(f:z7->St->Option R):Option R:=
 match GF (xn b n zr.z6.length 0) (G0 J b) zr.z6 r.2 0,gS (xn b n zr.z6.length 0) (G0 J b) zr.zk r.1 with
 |some os,some vs=>cond (YU (xn b n zr.z6.length 0)&&Xf J ids b os 0) (f (gJ (gD js.length vs)) (z68 J ids (xn b n zr.z6.length 0) os)) none
 |_,_=>none
def z29(J:St)(all:z7)(fin:wg)(ids:List Nat)(k:fin.den->Option R):Option R:=
 match JU (λi=>qC i ids 0) J.z6 ids with
 |some os=>pA (J.only λi=>!j8 i ids) J.z6 (λi=>qC i ids 0) fin.zk all λd=>VD fin.z6 os λe=>k (d,e)
 |none=>none
def C1:List j3->List Nat->St->(St->Option R)->Option R
 | .Zj _::os,i::is,J,k=>match J.z6 i with
  |some (.cell a)=>cond (z7.jS a).wh (C1 os is (J.setObj i (.cell (.jS a))) k) (C1 os is J k)
  |_=>C1 os is J k
 |_::os,_::is,J,k=>C1 os is J k
 |_,_,J,k=>k J
def z6b(z6:Nat->Option Obj)(a:z7)(p:zH)(b:Qm):Option Qm:=match a,p with
 |.agg c,.agg q=>QF z6 c q b
 |.qV i,.qV j=>QH z6 (.qV i) (.qV j) b
 |_,_=>none
def IW(z6:Nat->Option Obj)(ids:List Nat)(fo:List j3):Qm->Qm->Option Qm
 |[],b=>some b
 |(j,_)::l,b=>match yO b j with
  |some id=>match zR fo j,z6 id with
   |some (.Zj p),some (.cell (.jS a))=>cond (j8 id ids&&(z7.jS a).wh) (match z6b z6 a p b with
    |some b=>IW z6 ids fo l b
    |none=>none) none
   |_,_=>IW z6 ids fo l b
  |none=>IW z6 ids fo l b
def zhq(J:St)(n:Nat)(all:z7)(fin:wg)(js:List Nat)(zr:wg)(F:fin.den->Option zr.den)(f:z7->St->Option R):Option R:=
 C1 fin.z6 (kO J.z6 100 (pC fin.zk all) []) J λJ=>
 cond (vV all&&Aj fin.zk 0&&BZ fin.zk js&&(Q8 fin.zk all||(uu zr.zk&&Qk zr.z6))&&Nat.ble zr.z6.length 8)
  (match (BQ J.z6 all js zr.zk []).bind λb=>IW J.z6 (kO J.z6 100 (pC fin.zk all) []) zr.z6 b b with
   |some b=>z29 J all fin (kO J.z6 100 (pC fin.zk all) []) λd=>(F d).bind λr=>Ls J n (kO J.z6 100 (pC fin.zk all) []) b js zr r f
   |none=>none) none
def z5y(c:Ctx)(J:St)(n:Nat)(g:z7)(args:z7)(f:z7->St->Option R):Option R:=
 match Ks g args with
 |some (fid,all)=>match Pp all (c.env fid) with
  |some (.pure p res F)=>Za J n all p res F f
  |_=>none
 |none=>none
def z5x(c:Ctx)(J:St)(n:Nat)(g:z7)(args:z7)(f:z7->St->Option R):Option R:=
 match Ks g args with
 |some (fid,all)=>match Pp all (c.env fid) with
  |some (.pure p res F)=>Za J n all p res F f
  |some (.mut fin js zr F)=>zhq J n all fin js zr F f
  |none=>none
 |none=>none
def Dx{I:Type}(m:List I)(a b:Int):Int:=(Nat.min m.length (b-a).toNat:Nat)
def wo{I:Type}(l:List I)(a b:Int)(m:List I):List I:=l.take a.toNat++m.take (Nat.min m.length (b-a).toNat)++l.drop (a.toNat+Nat.min m.length (b-a).toNat)
def F5(J:St)(u:Ty)(id:Nat)(ep:Nat)(a b:Int)(y:z7)(f:Int->St->Option R):Option R:=match J.z6 id with
 |some (.row t l e)=>cond (Nat.beq e ep&&(Ty.same t u).isSome) (Pv J t y λm=>f (Dx m a b) (J.setObj id (.row t (wo l a b m) e))) none
 |_=>none
def zfu(J:St)(u:Ty)(x y:z7)(f:Int->St->Option R):Option R:=match x with
 |.view id [] ep a b=>F5 J u id ep a b y f
 |.ref id [] ep=>match J.z6 id with
  |some (.row _ l _)=>F5 J u id ep 0 (l.length:Int) y f
  |_=>none
 |_=>none
open Classical in
def z6e{I:Type}(f:I->Option R):List I->Option R
 |[]=>none
 |a::l=>if ∀b∈l,f b=f a then f a else none
def Xn(left:List Int)(done:Option R)(f:Int->List Int->Option R):Option R:=match left with
 |[]=>done
 |j::l=>z6e (λj'=>f j' ((j::l).filter λi=>!decide (i=j'))) (j::l)
def upto:Nat->List Int
 |0=>[]
 |n+1=>upto n++[(n:Int)]
def LO(c:Ctx)(J:St)(n:Nat)(dst:Option Nat)(t:Nat)(x:z7)(k:St->Option R):Option R:=
 match x,c.mt t with
 |.qV id,some _=>match J.z6 id with
  |some (.map _ _ m)=>J.qo c dst (.zq n []) λJ=>k (J.setObj n (.cell (uJ id (m.length:Int) (upto m.length) (-1))))
  |_=>none
 |_,_=>none
def z1y(c:Ctx)(J:St)(dst:Option Nat)(x:z7)(k:St->Option R):Option R:=match x with
 |.zq id []=>match J.z6 id with
  |some (.cell (.jS (.pr (.qV Gk) (.pr (.data (.int .i64) n) (.pr (.data (.sl false (.int .i64)) left) (.pr (.data (.int .i64) _) .un))))))=>match J.z6 Gk with
   |some (.map kt vt m)=>zo (decide (n=(m.length:Int))) (Xn left (J.qo c dst (.jS (.pr (.data .bool false) .un)) k) λj rest=>(idx m j).bind λe=>
     (J.setObj id (.cell (uJ Gk n rest j))).qo c dst (.jS (.pr (.data .bool true) (.pr (.data kt e.1) (.pr (.data vt e.2) .un)))) k)
   |_=>none
  |_=>none
 |_=>none
def NU(c:Ctx)(J:St)(n:Nat)(dst:Option Nat)(u:Ty)(len:Nat)(ps:List (Nat×Operand))(k:St->Option R):Option R:=match len,ps with
 |0,[]=>(J.setObj n (.nest u [] 0 0 none)).qo c dst (.nv false n [] 0) k
 |1,[(0,x)]=>match ev J x with
  |some a=>AU J a u λd J=>(J.setObj n (.nest u [d] 0 0 none)).qo c dst (.nv false n [] 0) k
  |none=>none
 |_,_=>none
def MF(c:Ctx)(J:St)(dst:Option Nat)(x:z7)(k:St->Option R):Option R:=match x with
 |.zq id []=>match J.z6 id with
  |some (.cell (.jS (.pr (.qV Gk) (.pr (.data (.int .i64) n) (.pr (.data (.sl false (.int .i64)) left) (.pr (.data (.int .i64) cur) .un))))))=>match J.z6 Gk with
   |some (.map kt vt m)=>zo (decide (n=(m.length:Int))) ((idx m cur).bind λe=>J.qo c dst (.jS (.pr (.data kt e.1) (.pr (.data vt e.2) .un))) k)
   |_=>none
  |_=>none
 |_=>none
def evI(J:St):Option Operand->Option (Option Int)
 |none=>some none
 |some x=>match ev J x with
  |some (.data (.int _) n)=>some (some n)
  |_=>none
def Ng:Ty->Bool
 |.sl true v=>v.zG
 |_=>false
def N7(n:Nat):Ty->Option z7
 |.fn _ _ |.ptr _=>some (.qV n)
 |u=>pz u
def TN(c:Ctx)(d:Option Nat)(n:Nat)(u:Ty):Option z7:=match d.bind c.own with
 |some (.mp false)=>cond u.zG (match u.zero with
  |some z=>some (.data u z)
  |none=>none) none
 |_=>N7 n u
def yE(c:Ctx)(J:St)(n:Nat)(o:Oper)(k:St->Option R):Option R:=
 match o.op with
 |.move x |.assign x=>match ev J x with
  |some a=>J.qo c o.dst a k
  |none=>none
 |.pick t x y=>match ev J t with
  |some (.data .bool b)=>cond b
    (match ev J x with
     |some a=>J.qo c o.dst a k
     |none=>none)
    (match ev J y with
     |some a=>J.qo c o.dst a k
     |none=>none)
  |_=>none
 |.binOp op t x y _=>match ev J x,ev J y with
  |some a,some b=>zrj J (c.eqs t) (c.tt t) op a b λv=>J.qo c o.dst v k
  |_,_=>none
 |.unOp op _ x=>match ev J x with
  |some a=>unK op a λv=>J.qo c o.dst v k
  |none=>none
 |.convert t t' x=>match ev J x,c.tt t,c.tt t' with
  |some (.data (.int _) j),some (.int _),some (.int kd)=>J.qo c o.dst (.data (.int kd) (kd.wrap j)) k
  |_,_,_=>none
 |.indexAddr t x i=>match ev J x,ev J i,c.tt t with
  |some a,some (.data (.int _) j),some u=>z2w J u a j λv=>J.qo c o.dst v k
  |_,_,_=>none
 |.fieldAddr t x i=>match ev J x,c.tt t with
  |some a,some u=>z4t J u a i λv=>J.qo c o.dst v k
  |_,_=>none
 |.index t x i=>match ev J x,ev J i,c.tt t with
  |some (.data (.arr n t') l),some (.data (.int _) j),some (.arr m u)=>cond (Nat.beq n m&&t'.sk.same u.sk) ((idx l j).bind λd=>J.qo c o.dst (.data t' d) k) none
  |some (.data .str l),some (.data (.int _) j),some .str=>(idx l j).bind λd=>J.qo c o.dst (.data (.int .u8) (d.toNat:Int)) k
  |_,_,_=>none
 |.nilCheck x=>match ev J x with
  |some a=>cond (holds J a) (J.qo c o.dst a k) none
  |none=>none
 |.load t x=>match ev J x,c.tt t with
  |some a,some u=>Cf J a λv=>cond (v.val&&u.sk.same v.sk) (J.qo c o.dst v k) none
  |_,_=>none
 |.store t x y=>match ev J x,ev J y,c.tt t,o.dst with
  |some a,some b,some u,none=>cond (b.val&&u.sk.same b.sk) (z0j J a b k) none
  |_,_,_,_=>none
 |.extract x i=>match ev J x with
  |some (.jS a)=>match jB a i with
   |some v=>J.qo c o.dst v k
   |none=>none
  |_=>none
 |.alloc t=>match (c.tt t).bind (TN c o.dst n) with
  |some z=>J.qo c o.dst (.zq n []) λJ=>k (J.setObj n (.cell z))
  |none=>none
 |.box _ x=>match ev J x with
  |some a=>cond a.val (J.qo c o.dst (.zq n []) λJ=>k (J.setObj n (.cell a))) none
  |none=>none
 |.makeFunc (.func f) first cap=>match first.toList with
  |[]=>match TW J cap.toList with
   |some a=>cond (yV a) (J.qo c o.dst (.qP f a) k) none
   |none=>none
  |_=>none
 |.makeSlice t len cap=>match Cp c o.dst t with
  |some (.sl _ (.mp true))=>match ev J len,ev J cap with
   |some (.data (.int _) l),some (.data (.int _) m)=>zo (decide (0<=l)&&decide (l<=m)&&decide (m<=(room:Int))) (J.qo c o.dst (.nv false n [] 0) λJ=>k (J.setObj n (.nest (.mp true) (List.replicate l.toNat none) 0 0 none)))
   |_,_=>none
  |some (.sl _ u)=>match u.zero,ev J len,ev J cap with
   |some z,some (.data (.int _) l),some (.data (.int _) m)=>
    cond u.zG (zo (decide (0<=l)&&decide (l<=m)&&decide (m<=(room:Int))) (J.qo c o.dst (.ref n [] 0) λJ=>k (J.setObj n (.row u (List.replicate l.toNat z) 0))))
     (cond (Ng u) (zo (decide (0<=l)&&decide (l<=m)&&decide (m<=(room:Int))) (J.qo c o.dst (.nv false n [] 0) λJ=>k (J.setObj n (.nest u (List.replicate l.toNat z) 0 0 none)))) none)
   |_,_,_=>none
  |_=>none
 |.build t ps=>match c.tt t with
  |some (.pair x y)=>match gr J (.pair x y) 0 ps.toList with
   |some a=>cond (a.sk.same (Ty.pair x y).sk) (J.qo c o.dst (.agg a) k) none
   |none=>none
  |some (.arr n u)=>match TW J (ps.toList.map (·.2)) with
   |some a=>cond (xd 0 ps.toList&&Nat.beq ps.toList.length n&&jU u) (jH u a λl=>J.qo c o.dst (.data (.arr n u) l) k) (cond (u.zG && !u.sk.isAgg) (uB J u n 0 ps.toList λl=>J.qo c o.dst (.data (.arr n u) l) k) none)
   |none=>none
  |_=>none
 |.buildSlice t len ps=>match Cp c o.dst t with
  |some (.sl _ u)=>cond (u.zG&&xd 0 ps.toList&&Nat.beq ps.toList.length len&&Nat.ble (len*u.size) 100000) (parts J u ps.toList λds J=>cond (zr6 c o.dst) (J.qo c o.dst (.data (.sl false u) ds) k) (J.qo c o.dst (.ref n [] 0) λJ=>k (J.setObj n (.row u ds 0))))
    (cond (GR u&&Nat.ble (len*u.size) 100000) (NU c J n o.dst u len ps.toList k) none)
  |_=>none
 |.makeMap t none=>match c.mt t with
  |some (kt,vt)=>cond (kTy kt&&vt.qs) (J.qo c o.dst (.qV n) λJ=>k (J.setObj n (.map kt vt []))) none
  |none=>none
 |.lookup t x i ok=>match ev J x,ev J i with
  |some a,some b=>M4 J (c.mt t) a λ_ kt vt m=>cond b.val (asData J 20 b kt λkey=>match vt.zero with
   |some z=>cond ok (J.qo c o.dst (.jS (.pr (.data vt ((vL (JL kt) m key).getD z)) (.pr (.data .bool (vL (JL kt) m key).isSome) .un))) k)
    (J.qo c o.dst (.data vt ((vL (JL kt) m key).getD z)) k)
   |none=>none) none
  |_,_=>none
 |.mapUpdate t x i y=>match ev J x,ev J i,ev J y,o.dst with
  |some (.nv false id p ep),some b,some v,none=>cond (zb8 (c.mt t)) (M1 J id p ep b v k) none
  |some a,some b,some v,none=>M4 J (c.mt t) a λid kt vt m=>cond (b.val&&v.val) (asData J 20 b kt λkey=>asData J 20 v vt λd=>k (J.setObj id (.map kt vt (vQ (JL kt) m key d)))) none
  |_,_,_,_=>none
 |.mapEntry t x i=>match ev J x,ev J i with
  |some a,some b=>M4 J (c.mt t) a λid kt vt m=>cond b.val (asData J 20 b kt λkey=>match vt.zero with
   |some z=>zo (decide (m.length<=room)) ((J.setObj id (.map kt vt (vQ (JL kt) m key ((vL (JL kt) m key).getD z)))).qo c o.dst (.jS (.pr (.data vt ((vL (JL kt) m key).getD z)) (.pr (.data (.int .i64) (gy (JL kt) m key:Int)) .un))) k)
   |none=>none) none
  |_,_=>none
 |.entryStore t x i y=>match ev J x,ev J i,ev J y,o.dst with
  |some a,some (.data (.int _) p),some v,none=>M4 J (c.mt t) a λid kt vt m=>cond v.val (asData J 20 v vt λd=>zo (decide (0<=p)&&decide (p<(m.length:Int))) (k (J.setObj id (.map kt vt (A0 m p.toNat d))))) none
  |_,_,_,_=>none
 |.slice t x lo hi none=>match ev J x,c.tt t,evI J lo,evI J hi with
  |some a,some (.sl _ u),some lo,some hi=>z0p J u a (lo.getD 0) hi λv=>J.qo c o.dst v k
  |some (.data .str l),some .str,some lo,some hi=>zo (decide (0<=lo.getD 0)&&decide (lo.getD 0<=hi.getD (l.length:Int))&&decide (hi.getD (l.length:Int)<=(l.length:Int))) (J.qo c o.dst (.data .str (sub l (lo.getD 0) (hi.getD (l.length:Int)))) k)
  |_,_,_,_=>none
 |.slice t x none (some hi) (some mx)=>match ev J x,ev J hi,ev J mx,c.tt t with
  |some (.ref id [] ep),some (.data (.int _) h),some (.data (.int _) m),some (.sl _ u)=>match J.z6 id with
   |some (.row t' l e)=>cond (Nat.beq e ep&&t'.sk.same u.sk) (zo (decide (0<=h)&&decide (h<=m)&&decide (m<=(l.length:Int))) ((J.setObj id (.row t' (sub l 0 h) (e+1))).qo c o.dst (.ref id [] (e+1)) k)) none
   |_=>none
  |_,_,_,_=>none
 |.call { callee:=.builtin .len,args:=args,argTypes:=ts }=>match args.toList,ts.toList with
  |[x],[t]=>match ev J x,c.tt t with
   |some a,some (.sl _ _)=>znc J a λv=>J.qo c o.dst (.data (.int .i64) v) k
   |some (.data .str l),some .str=>J.qo c o.dst (.data (.int .i64) (l.length:Int)) k
   |some (.nv false id p ep),some (.mp _)=>xT J false id p ep λu d=>match u,d with
    |.mp true,m=>zo (decide ((m.getD []).length<=room)) (J.qo c o.dst (.data (.int .i64) ((m.getD []).length:Int)) k)
    |_,_=>none
   |some a,_=>M4 J (c.mt t) a λ_ _ _ m=>zo (decide (m.length<=room)) (J.qo c o.dst (.data (.int .i64) (m.length:Int)) k)
   |_,_=>none
  |_,_=>none
 |.call { callee:=.builtin .max,args:=args,.. }=>match TW J args.toList with
  |some (.pr (.data (.int i) x) r)=>qy gG i x r λv=>J.qo c o.dst (.data (.int i) v) k
  |_=>none
 |.call { callee:=.builtin .min,args:=args,.. }=>match TW J args.toList with
  |some (.pr (.data (.int i) x) r)=>qy k8 i x r λv=>J.qo c o.dst (.data (.int i) v) k
  |_=>none
 |.call { callee:=.builtin .append,args:=args,argTypes:=ts }=>match args.toList,ts.toList with
  |[x,y],[t,t']=>match ev J x,ev J y,c.tt t with
   |some a,some b,some (.sl _ u)=>cond (Nat.beq t t') (R9 J n u a b λv J=>J.qo c o.dst v k) none
   |_,_,_=>none
  |_,_=>none
 |.call { callee:=.builtin .copy,args:=args,argTypes:=ts }=>match args.toList,ts.toList with
  |[x,y],[t,_]=>match ev J x,ev J y,c.tt t with
   |some a,some b,some (.sl _ u)=>zfu J u a b λn J=>J.qo c o.dst (.data (.int .i64) n) k
   |_,_,_=>none
  |_,_=>none
 |.call { callee:=.value g,args:=args,.. }=>match ev J g,TW J args.toList with
  |some g,some a=>z5y c J n g a λv J=>J.qo c o.dst v k
  |_,_=>none
 |_=>none
def NS(o:Oper):Bool:=match o.op with
 |.store _ _ _=>true
 |.mapUpdate _ _ _ _ |.mapEntry _ _ _ |.entryStore _ _ _ _=>true
 |.call cl=>match cl.callee with
  |.builtin .append |.builtin .clear |.builtin .copy=>true
  |_=>false
 |_=>false
def Ej(o:Oper):Bool:=match o.op with
 |.call cl=>match cl.callee with
  |.value _ |.invoke _ _=>true
  |_=>false
 |.range _ _ |.next _ _ |.entry _=>true
 |_=>false
def Qb(q:Bool)(o:Oper):Bool:=cond q (NS o||Ej o) (NS o)
def Ak(o:Oper):Bool:=match o.op with
 |.assign (.const .nilFunc) |.assign (.const .nilIface) |.assign (.const (.pointer none))=>true
 |_=>false
def Tw(c:Ctx)(J:St)(n:Nat)(o:Oper)(k:St->Option R):Option R:=cond (Ak o) (k (J.kD o.dst)) (yE c J n o k)
open Classical in
def qA:List (Option R)->Option R
 |[]=>none
 |x::l=>if ∀y∈l,y=x then x else none
def views(J:St)(id e:Nat)(n:Int):St:={ J with zk:=λi=>match J.zk i with
 |some (.ref j p e')=>match p with
  |[]=>cond (Nat.beq j id&&Nat.beq e' e) (some (.view id [] (e+1) 0 n)) (some (.ref j [] e'))
  |p=>some (.ref j p e')
 |x=>x }
def F9(J:St)(n:Nat)(u:Ty)(s x:z7)(f:z7->St->Option R):Option R:=match s with
 |.ref id [] ep=>match J.z6 id with
  |some (.row t l e)=>cond (Nat.beq e ep&&t.sk.same u.sk) (Pv J t x λm=>zo (decide (l.length+m.length<=room))
    (qA [f (.ref id [] (e+1)) ((views J id e (l.length:Int)).setObj id (.row t (l++m) (e+1))),f (.ref n [] 1) (J.setObj n (.row t (l++m) 1))])) none
  |_=>none
 |_=>none
def zfr(c:Ctx)(d:Option Nat):Bool:=match d.bind c.own with
 |some .unit=>true
 |_=>false
def S9(q:Bool)(c:Ctx)(J:St)(n:Nat)(o:Oper)(k:St->Option R):Option R:=match o.op with
 |.call { callee:=.value g,args:=args,.. }=>cond q (match ev J g,TW J args.toList with
   |some g,some a=>z5x c J n g a λv J=>J.qo c o.dst v k
   |_,_=>none) (Tw c J n o k)
 |.range t x=>cond q (match ev J x with
   |some a=>LO c J n o.dst t a k
   |none=>none) (Tw c J n o k)
 |.next x false=>cond q (match ev J x with
   |some a=>z1y c J o.dst a k
   |none=>none) (Tw c J n o k)
 |.entry x=>cond q (match ev J x with
   |some a=>MF c J o.dst a k
   |none=>none) (Tw c J n o k)
 |.call { callee:=.builtin .append,args:=args,argTypes:=ts,.. }=>cond (q&&zfr c o.dst) (match args.toList,ts.toList with
   |[x,y],[t,t']=>match ev J x,ev J y,c.tt t with
    |some a,some b,some (.sl _ u)=>cond (Nat.beq t t') (F9 J n u a b λv J=>J.qo c o.dst v k) none
    |_,_,_=>none
   |_,_=>none) (Tw c J n o k)
 |_=>Tw c J n o k
def Gf(o:Oper):Bool:=match o.op with
 |.move _ |.assign _ |.pick _ _ _ |.binOp _ _ _ _ _ |.unOp _ _ _ |.convert _ _ _ |.indexAddr _ _ _ |.fieldAddr _ _ _ |.nilCheck _ |.load _ _ |.extract _ _ |.makeFunc _ _ _ |.lookup _ _ _ _ |.slice _ _ _ _ none |.build _ _ |.index _ _ _ |.field _ _ _ |.makeInterface _ _ |.typeAssert _ _ _ _=>true
 |.call cl=>match cl.callee with
  |.builtin .len |.builtin .max |.builtin .min=>true
  |_=>false
 |_=>false
def M7(o:Oper):Bool:=!Ak o&&Gf o
def isP(o:Oper):Bool:=match o.op with
 |.load _ _ |.lookup _ _ _ _=>false
 |.call cl=>match cl.callee with
  |.builtin .max |.builtin .min=>true
  |_=>false
 |_=>true
def noM:List (Nat×Oper)->Bool
 |[]=>true
 |(_,o)::l=>!NS o&&noM l
def z2u(t:Nat)(o:Oper):Bool:=match o.op with
 |.pick (.tmp u) _ _=>Nat.beq t u
 |_=>false
def splitAt(p:Oper->Bool):List (Nat×Oper)->List (Nat×Oper)->Option (List (Nat×Oper)×Option Nat×List (Nat×Oper))
 |[],_=>none
 |(i,o)::l,acc=>cond (p o) (some (acc++[(i,o)],o.dst,l)) (splitAt p l (acc++[(i,o)]))
def Bw(J:St)(d:Nat):Option Bool:=match J.zk d with
 |some (.data .bool b)=>some b
 |_=>none
def wA:List (Nat×Oper)->St->St
 |[],J=>J
 |(_,o)::l,J=>wA l (J.kD o.dst)
def rmN(d:Nat):List Nat->List Nat
 |[]=>[]
 |x::l=>cond (Nat.beq x d) (rmN d l) (x::rmN d l)
def QD:Option Nat->List Nat->List Nat
 |none,u=>u
 |some d,u=>rmN d u
def Fq:Option Nat->List Nat->List Nat
 |none,u=>u
 |some d,u=>d::u
def B7:List (Nat×Oper)->List Nat->List Nat
 |[],u=>u
 |(_,o)::l,u=>B7 l (QD o.dst u)
def zew:List Callee->Bool
 |[]=>true
 |.pure _ _ _::l=>zew l
 |_=>false
def z5w(J:St)(x:Operand):Option Nat:=match ev J x with
 |some (.qP f _)=>some f
 |some (.data (.fn f _) _)=>some f
 |_=>none
def E9:List (Nat×Oper)->Operand->Operand
 |(_,o)::l,.tmp s=>match o.dst,o.op with
  |some t,.move y=>cond (Nat.beq t s) y (E9 l (.tmp s))
  |_,_=>E9 l (.tmp s)
 |_,x=>x
def Ns(c:Ctx)(J:St)(all:List (Nat×Oper)):List (Nat×Oper)->Bool
 |[]=>false
 |(_,o)::l=>(match o.op with
  |.call cl=>match cl.callee with
   |.value g=>match z5w J (E9 all g) with
    |some f=>!zew (c.env f)
    |none=>true
   |_=>false
  |_=>false)||Ns c J all l
def EU(c:Ctx)(J:St)(l:List (Nat×Oper)):Bool:=Ns c J l l
def ZW(c:Ctx)(base:Nat)(dst:Nat->Option Nat):(q:Bool)->(fuel:Nat)->(R:Type)->(opened pk:List Nat)->List (Nat×Oper)->St->(St->Option R)->Option R
 |_,0,_,_,_,_,_,_=>none
 |_,_+1,_,_,_,[],J,k=>k J
 |q,n+1,R,opened,pk,(i,o)::l,J,k=>
  match o.guard with
  |none=>S9 q c J (base+8*i) o λJ=>ZW c base dst q n R opened (QD o.dst pk) l J k
  |some (j,want)=>
   match dst j with
   |none=>none
   |some t=>
    match J.zk t with
    |some (.data .bool b)=>
     cond (j8 j opened)
      (cond (b == want) (S9 q c J (base+8*i) o λJ=>ZW c base dst q n R opened (QD o.dst pk) l J k) (ZW c base dst q n R opened (Fq o.dst pk) l (J.kD o.dst) k))
      (match splitAt (z2u t) ((i,o)::l) []with
       |some (jg,some d,rest)=>cond (q&&EU c J jg)
        (cond b (ZW c base dst q n R (j::opened) pk ((i,o)::l) (J.set t (.data .bool true)) k)
            (ZW c base dst q n R (j::opened) pk ((i,o)::l) (J.set t (.data .bool false)) k))<|cond (noM jg) (
        (cond b (ZW c base dst false n Bool (j::opened) pk jg (J.set t (.data .bool true)) λJ=>Bw J d)
            (ZW c base dst false n Bool (j::opened) pk jg (J.set t (.data .bool false)) λJ=>Bw J d)).bind λv=>
        cond (Nat.blt d c.ntmps) (ZW c base dst q n R opened (B7 jg pk) rest ((wA jg J).set d (.data .bool v)) k) none) none
       |_=>none)
    |none=>cond (j8 t pk) (ZW c base dst q n R opened (Fq o.dst pk) l (J.kD o.dst) k) none
    |_=>none
def zc{I:Type}:Nat->List I->List (Nat×I)
 |_,[]=>[]
 |i,x::l=>(i,x)::zc (i+1) l
def po(ops:List Oper)(j:Nat):Option Nat:=(zR ops j).bind (·.dst)
def wP:List Edge->List Nat
 |[]=>[]
 |e::l=>cond (Region.binds .any e) (e.on::wP l) (wP l)
def IE:List Nat->List Nat->Bool
 |[],_=>true
 |x::l,d=>j8 x d&&IE l d
def Bg:List Nat->List Nat->Bool
 |[],_=>false
 |x::l,d=>j8 x d||Bg l d
def YV(done:List Nat)(o:Oper):Bool:=IE (wP o.after.toList) done
def CZ:List Operand->List Nat
 |[]=>[]
 |.tmp t::l=>t::CZ l
 |_::l=>CZ l
def z4o(dst:Nat->Option Nat)(o:Oper):List Nat:=match o.guard with
 |some (j,_)=>match dst j with
  |some t=>[t]
  |none=>[]
 |none=>[]
def A5(dst:Nat->Option Nat)(o:Oper)(t:Nat):Bool:=j8 t (CZ o.op.operands.toList)||j8 t (z4o dst o)
def Fz(dst:Nat->Option Nat)(x y:Oper):Bool:=
 (match x.dst with
  |some d=>!A5 dst y d&&(match y.dst with
   |some e=>!Nat.beq d e
   |none=>true)
  |none=>true) &&
 (match y.dst with
  |some d=>!A5 dst x d
  |none=>true)
def gd(i:Nat):List (Nat×Oper)->List Nat->List Nat
 |[],acc=>acc
 |(j,o)::l,acc=>gd i l (cond (j8 i (wP o.after.toList)||Bg (wP o.after.toList) acc) (j::acc) acc)
def O2(q:Bool)(dst:Nat->Option Nat)(done later:List Nat)(i:Nat)(o:Oper):List (Nat×Oper)->Bool
 |[]=>true
 |(j,oj)::l=>(Nat.beq j i||j8 j done||((j8 i (wP oj.after.toList)||Fz dst o oj)&&(isP o || !Qb q oj||j8 j later)))&&O2 q dst done later i o l
def BY(done:List Nat)(i:Nat):List (Nat×Oper)->Bool
 |[]=>true
 |(j,oj)::l=>(Nat.beq j i||j8 j done || !YV done oj)&&BY done i l
def Xm:List Nat->List Nat->Bool
 |[],_=>true
 |x::l,d=>!j8 x d&&Xm l d
def Hp(q:Bool)(dst:Nat->Option Nat)(all:List (Nat×Oper))(done:List Nat)(i:Nat)(o:Oper):Bool:=
 YV done o&&((M7 o&&O2 q dst done (gd i all []) i o all&&Xm (gd i all []) done)||BY done i all)
def Q5(q:Bool)(dst:Nat->Option Nat)(all:List (Nat×Oper)):List (Nat×Oper)->List Nat->Bool
 |[],done=>BY done all.length all
 |(i,o)::l,done=>!j8 i done&&Hp q dst all done i o&&Q5 q dst all l (i::done)
def GD:List (Nat×Oper)->Bool
 |[]=>true
 |(_,o)::l=>(match o.op with
  |.select _ _=>false
  |_=>true)&&GD l
def We(q:Bool)(dst:Nat->Option Nat)(all:List (Nat×Oper))(done:List Nat):List (Nat×Oper)->Option (Nat×Oper)
 |[]=>none
 |(i,o)::l=>cond (!j8 i done&&Hp q dst all done i o) (some (i,o)) (We q dst all done l)
def YW(q:Bool)(dst:Nat->Option Nat)(all:List (Nat×Oper)):Nat->List Nat->List (Nat×Oper)
 |0,_=>[]
 |n+1,done=>match We q dst all done all with
  |some (i,o)=>(i,o)::YW q dst all n (i::done)
  |none=>[]
def NM(q:Bool)(c:Ctx)(ops:List Oper)(l:List (Nat×Oper))(J:St)(k:St->Option R):Option R:=
 ZW c J.next (po ops) q (ops.length+ops.length+2) R [] [] l J λJ'=>k { J' with next:=J.next+8*ops.length }
def Dp(q:Bool)(ops:List Oper):List (Nat×Oper):=YW q (po ops) (zc 0 ops) ops.length []
def P7(q:Bool)(ops:List Oper):Bool:=GD (zc 0 ops)&&Q5 q (po ops) (zc 0 ops) (Dp q ops) []
def gb(done:List Nat):List (Nat×Oper)->List (Nat×Oper)
 |[]=>[]
 |(i,o)::l=>cond (!j8 i done&&YV done o) ((i,o)::gb done l) (gb done l)
def FR(c:Ctx)(dst:Nat->Option Nat)(b0:Nat)(o:Oper)(opened pk:List Nat)(J:St)(kk:List Nat->List Nat->St->Option R):Option R:=
 match o.guard with
 |none=>S9 true c J b0 o λJ=>kk opened (QD o.dst pk) J
 |some (j,want)=>match dst j with
  |none=>none
  |some t=>match J.zk t with
   |some (.data .bool b)=>
    cond (j8 j opened)
     (cond (b == want) (S9 true c J b0 o λJ=>kk opened (QD o.dst pk) J) (kk opened (Fq o.dst pk) (J.kD o.dst)))
     (cond b
      (cond want (S9 true c (J.set t (.data .bool true)) b0 o λJ=>kk (j::opened) (QD o.dst pk) J) (kk (j::opened) (Fq o.dst pk) ((J.set t (.data .bool true)).kD o.dst)))
      (cond want (kk (j::opened) (Fq o.dst pk) ((J.set t (.data .bool false)).kD o.dst)) (S9 true c (J.set t (.data .bool false)) b0 o λJ=>kk (j::opened) (QD o.dst pk) J)))
   |none=>cond (j8 t pk) (kk opened (Fq o.dst pk) (J.kD o.dst)) none
   |_=>none
def Ml(c:Ctx)(base:Nat)(dst:Nat->Option Nat)(all:List (Nat×Oper)):Nat->List Nat->(opened pk:List Nat)->St->(St->Option R)->Option R
 |0,_,_,_,_,_=>none
 |n+1,done,opened,pk,J,k=>match We true dst all done all with
  |some (i,o)=>FR c dst (base+8*i) o opened pk J λopened pk J=>Ml c base dst all n (i::done) opened pk J k
  |none=>match gb done all with
   |[]=>k J
   |x::l=>qA ((x::l).map λx=>FR c dst (base+8*x.1) x.2 opened pk J λopened pk J=>Ml c base dst all n (x.1::done) opened pk J k)
def Dn(c:Ctx)(ops:Array Oper)(draw:Bool)(J:St)(k:St->Option R):Option R:=
 cond draw (cond (P7 true ops.toList) (NM true c ops.toList (Dp true ops.toList) J k)
   (cond (P7 false ops.toList && !EU c J (zc 0 ops.toList)) (NM false c ops.toList (Dp false ops.toList) J k)
   (cond (GD (zc 0 ops.toList)) (Ml c J.next (po ops.toList) (zc 0 ops.toList) (ops.toList.length+1) [] [] [] J λJ'=>k { J' with next:=J.next+8*ops.toList.length }) none)))
  (NM true c ops.toList (zc 0 ops.toList) J k)
def yT:Code->Option Nat
 |.region id _ _=>some id
 |.seq a b=>(yT a).orElse λ_=>yT b
 |.block _ b=>yT b
 |.scope b=>yT b
 |.loop b=>yT b
 |.cond _ a b=>(yT a).orElse λ_=>yT b
 |_=>none
def YB(step:St->(vN->St->Option R)->Option R)(lv:Cut):Nat->List (Nat×z7)->List Obj->(vN->St->Option R)->Option R
 |0,_,_,_=>none
 |n+1,sl,os,k=>step (St.of sl os) λe J=>match e with
  |.normal=>Pu lv J λsl os=>YB step lv n sl os k
  |e=>k e J
def YH(c:Ctx)(r:Nat)(k:vN->St->Option R):vN->St->Option R
 |.exit id,J=>match c.Dj r id with
  |some lv=>norm lv J (k (.exit id))
  |none=>none
 |.ret,J=>norm c.res J (k .ret)
 |.normal,_=>none
def zb0(next:St->(vN->St->Option R)->Option R)(k:vN->St->Option R):vN->St->Option R
 |.normal,J=>next J k
 |e,J=>k e J
def z2r(id:Nat)(k:vN->St->Option R):vN->St->Option R
 |.exit j,J=>cond (Nat.beq j id) (k .normal J) (k (.exit j) J)
 |e,J=>k e J
def zb2(cut:Option Cut)(next:St->(vN->St->Option R)->Option R)(J:St)(k:vN->St->Option R):Option R:=
 match cut with
 |some lv=>norm lv J λJ=>next J k
 |none=>next J k
def cutAt(c:Ctx)(b:Code):Option Cut:=match b with
 |.loop _=>none
 |b=>(yT b).bind c.cut
def vD(c:Ctx):Code->St->(vN->St->Option R)->Option R
 |.skip,J,k=>k .normal J
 |.region _ ops draw,J,k=>Dn c ops draw J (k .normal)
 |.seq a b,J,k=>vD c a J (zb0 (zb2 (cutAt c b) (vD c b)) k)
 |.cond x a b,J,k=>match ev J x with
  |some (.data .bool t)=>cond t (vD c a J k) (vD c b J k)
  |_=>none
 |.block id b,J,k=>vD c b J (z2r id k)
 |.loop b,J,k=>match yT b with
  |some r=>match c.cut r with
   |some lv=>match c.lp r with
    |some L=>Pu lv J λsl os=>L R sl os k
    |none=>none
   |none=>none
  |none=>none
 |.exit id,J,k=>k (.exit id) J
 |.ret,J,k=>k .ret J
 |.label _,J,k=>k .normal J
 |.scope b,J,k=>vD c b J k
 |_,_,_=>none
def yR:Code->List Code
 |.seq a b=>yR a++yR b
 |.cond _ a b=>yR a++yR b
 |.block _ b=>yR b
 |.scope b=>yR b
 |.loop b=>b::yR b
 |_=>[]
def QU(c:Ctx)(b:Code):Prop:=∀r lv L,yT b=some r->c.cut r=some lv->c.lp r=some L->
 ∀(R:Type) (sl:List (Nat×z7)) (os:List Obj) (k:vN->St->Option R) (x:R),L R sl os k=some x->YB (vD c b) lv c.fuel sl os (YH c r k)=some x
def xg(r:Nat):List Code->Code
 |[]=>.skip
 |b::l=>match yT b with
  |some r'=>cond (Nat.beq r r') b (xg r l)
  |none=>xg r l
def rvK(tt:Nat->Option Ty)(J:St):ResultVar->(z7->Option R)->Option R
 |.tmp s,k=>match J.zk s with
  |some a=>k a
  |none=>none
 |.cell s T,k=>match J.zk s,tt T with
  |some x,some u=>Cf J x λa=>cond (u.sk.same a.sk) (k a) none
  |_,_=>none
def WL(tt:Nat->Option Ty)(J:St):(ts:List Ty)->List ResultVar->(jD ts->St->Option R)->Option R
 |[],[],k=>k () J
 |[t],[s],k=>rvK tt J s λa=>cond (a.val&&a.sk.same t.sk) (jG 20 a t J k) none
 |t::u::ts,s::l,k=>rvK tt J s λa=>cond (a.val&&a.sk.same t.sk) (jG 20 a t J λd J=>WL tt J (u::ts) l λds J=>k (d,ds) J) none
 |_,_,_=>none
def jK:(p:gg)->p.den->Nat->Nat->Option z7
 |.pr (.val t) q,(x,y),i=>GJ (jK q y (i+1)) i (some (.data t x))
 |_,_,_=>λ_=>none
def entry(p:gg)(d:p.den):St:=⟨jK p d 0,λ_=>none,0⟩
def z61(c:Ctx)(ts:List Ty)(rs:List ResultVar)(body:Code)(J:St):Option (jD ts):=
 vD c body J λe J=>match e with
  |.exit _=>none
  |_=>norm c.res J λJ=>WL c.tt J ts rs λr _=>some r
def z5z(c:Ctx)(zr:wg)(body:Code)(J:St):Option zr.den:=
 vD c body J λe J=>match e with
  |.exit _=>none
  |_=>Pu c.res J λsl os=>zr.take sl os some
end
end Go.Kz
namespace Go.Kz
inductive Tag where
 |zt|ro|row (id:Nat) (p:Path)|box (id:Nat)
structure z8 where
 tag:Nat->Tag
 sv:Nat->Path->Value
 qp:Nat->Nat
abbrev C8:=Option (Nat×Path)
def stp(o:C8)(s:Step):C8:=o.map λx=>(x.1,x.2++[s])
def qS(l:List Value)(off n:Nat):List Value:=(l.drop off).take n
def V8(F:(k:Nat)->Rec k->List Value->Prop)(w:World)(g:z8):(t:Ty)->t.den->List Value->Prop
 |.int k,n,cs=>cs=[.int k n]/\k.min<=n/\n<=k.max
 |.bool,b,cs=>cs=[.bool b]
 |.str,l,cs=>∃s:ByteArray,cs=[.string s]/\s.data.toList=l/\s.size<=maxLen
 |.unit,_,cs=>cs=[]
 |.pair a b,(x,y),cs=>∃c1 c2,cs=c1++c2/\V8 F w g a x c1/\V8 F w g b y c2
 |.arr n t,l,cs=>List.length l=n/\cs.length=n*t.size/\
   ∀(i:Nat)(h:i<List.length l),V8 F w g t (List.get l ⟨i,h⟩) (qS cs (i*t.size) t.size)
 |.sl false t,l,cs=>∃a cap,cs=[.slice a (List.length l) cap]/\List.length l<=cap/\cap<=maxLen/\
   (l≠[]->∃b off c e fz,a=some ⟨b,off,none⟩/\g.tag b=.ro/\w.heap[b]? = some (.cells c e fz)/\off+List.length l*t.size<=c.size/\
    ∀(i:Nat)(h:i<List.length l),V8 F w g t (List.get l ⟨i,h⟩) (qS c.toList (off+i*t.size) t.size))
 |.tree k,x,cs=>F k x cs
 |_,_,_=>False
def gF(w:World)(g:z8):Nat->(k:Nat)->Rec k->List Value->Prop
 |0=>λ_ _ _=>False
 |n+1=>λk x cs=>V8 (gF w g n) w g (.pair (uE k) (uD k)) (vz k x) cs
def QL:List MapEntry->List (List UInt8×Bool)->Prop
 |[],[]=>True
 |e::es,(k,b)::m=>(∃s:ByteArray,e.key=.string s/\s.data.toList=k/\s.size<=maxLen)/\e.val=.bool b/\QL es m
 |_,_=>False
def kG(es:List MapEntry):Prop:=es.map (·.born)=List.range es.length
def Gw(w:World)(T:Nat->Prop):Option (List (List UInt8×Bool))->Value->Prop
 |none,v=>v=.map none
 |some m,v=>∃b es ck,v=.map (some b)/\T b/\w.heap[b]? = some (.map es ck)/\QL es.toList m/\ck=es.size/\kG es.toList
theorem Gw.mono{w w':World}{T T':Nat->Prop}(h:∀b,T b->T' b/\w'.heap[b]? = w.heap[b]?):{m:Option (List (List UInt8×Bool))}->{v:Value}->Gw w T m v->Gw w' T' m v
 |none,_,hm=>hm
 |some _,_,⟨b,es,ck,hv,ht,hb,hr⟩=>⟨b,es,ck,hv,(h b ht).1,(h b ht).2.trans hb,hr⟩
def zN(w:World)(g:z8):C8->(t:Ty)->t.den->List Value->Prop
 |_,.int k,n,cs=>cs=[.int k n]/\k.min<=n/\n<=k.max
 |_,.bool,b,cs=>cs=[.bool b]
 |_,.str,l,cs=>∃s:ByteArray,cs=[.string s]/\s.data.toList=l/\s.size<=maxLen
 |_,.unit,_,cs=>cs=[]
 |o,.pair a b,(x,y),cs=>∃c1 c2,cs=c1++c2/\zN w g (stp o .fst) a x c1/\zN w g (stp o .snd) b y c2
 |o,.arr n t,l,cs=>List.length l=n/\cs.length=n*t.size/\
   ∀(i:Nat)(h:i<List.length l),zN w g (stp o (.idx i)) t (List.get l ⟨i,h⟩) (qS cs (i*t.size) t.size)
 |_,.sl false t,l,cs=>∃a cap,cs=[.slice a (List.length l) cap]/\List.length l<=cap/\cap<=maxLen/\
   (l≠[]->∃b off c e fz,a=some ⟨b,off,none⟩/\g.tag b=.ro/\w.heap[b]? = some (.cells c e fz)/\off+List.length l*t.size<=c.size/\
    ∀(i:Nat)(h:i<List.length l),zN w g none t (List.get l ⟨i,h⟩) (qS c.toList (off+i*t.size) t.size))
 |some (id,p),.sl true t,l,cs=>∃a cap,cs=[.slice a (List.length l) cap]/\g.sv id p=.slice a (List.length l) cap/\List.length l<=cap/\cap<=maxLen/\
   ((a=none/\l=[]/\cap=0)\/∃b off c e,a=some ⟨b,off,none⟩/\g.tag b=.row id p/\w.heap[b]? = some (.cells c e (0,0))/\off+cap*t.size<=c.size/\
    ∀(i:Nat)(h:i<List.length l),zN w g (some (id,p++[.idx i])) t (List.get l ⟨i,h⟩) (qS c.toList (off+i*t.size) t.size))
 |none,.sl true _,_,_=>False
 |_,.ptr t,d,cs=>∃b off c e fz,cs=[.pointer (some ⟨b,off,none⟩)]/\g.tag b=.ro/\w.heap[b]? = some (.cells c e fz)/\off+t.size<=c.size/\
   zN w g none t d (qS c.toList off t.size)
 |_,.fn f t,d,cs=>∃vs,cs=[.func (.func f) #[] vs.toArray]/\zN w g none t d vs
 |_,.tree k,x,cs=>∃n,gF w g n k x cs
 |some (id,p),.mp true,m,cs=>cs=[g.sv id p]/\Gw w (λb=>g.tag b=.row id p) m (g.sv id p)
 |none,.mp true,_,_=>False
 |_,.mp false,m,cs=>∃v,cs=[v]/\Gw w (λb=>g.tag b=.ro) m v
theorem yS{l:List Value}{off n:Nat}(h:off+n<=l.length):(qS l off n).length=n:=by
 simp only[qS,Us,Lp];omega
theorem V8.len{F:(k:Nat)->Rec k->List Value->Prop}{w:World}{g:z8}(hF:∀k x cs,F k x cs->cs.length=CE k):{t:Ty}->{d:t.den}->{cs:List Value}->V8 F w g t d cs->cs.length=t.size
 |.int _,_,_,h=>by obtain⟨rfl,_⟩:=h;rfl
 |.bool,_,_,h=>by cases h;rfl
 |.str,_,_,h=>by obtain⟨s,rfl,_⟩:=h;rfl
 |.unit,_,_,h=>by cases h;rfl
 |.pair a b,(x,y),_,h=>by
  obtain⟨c1,c2,rfl,h1,h2⟩:=h
  simp only[WQ,Ty.size,V8.len hF h1,V8.len hF h2]
 |.arr n t,_,_,h=>h.2.1
 |.sl false t,_,_,h=>by obtain⟨a,cap,rfl,_⟩:=h;rfl
 |.tree k,_,_,h=>hF _ _ _ h
theorem gF.len{w:World}{g:z8}:{n k:Nat}->{x:Rec k}->{cs:List Value}->gF w g n k x cs->cs.length=CE k
 |n+1,k,_,_,h=>(V8.len (λ_ _ _ h=>gF.len h) h).trans (XE k).symm
theorem zN.len{w:World}{g:z8}:{o:C8}->{t:Ty}->{d:t.den}->{cs:List Value}->zN w g o t d cs->cs.length=t.size
 |_,.int _,_,_,h=>by obtain⟨rfl,_⟩:=h;rfl
 |_,.bool,_,_,h=>by cases h;rfl
 |_,.str,_,_,h=>by obtain⟨s,rfl,_⟩:=h;rfl
 |_,.unit,_,_,h=>by cases h;rfl
 |_,.pair a b,(x,y),_,h=>by
  obtain⟨c1,c2,rfl,h1,h2⟩:=h
  simp only[WQ,Ty.size,zN.len h1,zN.len h2]
 |_,.arr n t,_,_,h=>h.2.1
 |_,.sl false t,_,_,h=>by obtain⟨a,cap,rfl,_⟩:=h;rfl
 |some (_,_),.sl true t,_,_,h=>by obtain⟨a,cap,rfl,_⟩:=h;rfl
 |none,.sl true t,_,_,h=>h.elim
 |_,.ptr t,_,_,h=>by obtain⟨b,off,c,e,fz,rfl,_⟩:=h;rfl
 |_,.fn f t,_,_,h=>by obtain⟨vs,rfl,_⟩:=h;rfl
 |_,.tree k,_,_,h=>by obtain⟨n,h⟩:=h;exact h.len
 |some _,.mp true,_,_,h=>by rw[h.1];rfl
 |none,.mp true,_,_,h=>h.elim
 |_,.mp false,_,_,h=>by obtain⟨v,rfl,_⟩:=h;rfl
structure zT (w:World) (g:z8) (w':World) (g':z8):Prop where
 qp:∀b,g.tag b=.ro->g'.tag b=.ro/\w'.heap[b]? = w.heap[b]?
structure xG (w:World) (g:z8) (w':World) (g':z8) (id:Nat) (p:Path) (vF:Nat) (p':Path):Prop where
 sv:∀q,g'.sv vF (p'++q)=g.sv id (p++q)
 qp:∀q b,g.tag b=.row id (p++q)->g'.tag b=.row vF (p'++q)/\w'.heap[b]? = w.heap[b]?
def Pz(w:World)(g:z8)(w':World)(g':z8):C8->C8->Prop
 |some (id,p),some (vF,p')=>xG w g w' g' id p vF p'
 |none,none=>True
 |_,_=>False
theorem xG.step{w w':World}{g g':z8}{id vF:Nat}{p p':Path}(h:xG w g w' g' id p vF p')(s:Step):
  xG w g w' g' id (p++[s]) vF (p'++[s]):=by
 refine⟨λq=>?_,λq b hb=>?_⟩
 ·have:=h.sv ([s]++q);simpa using this
 ·have:=h.qp ([s]++q) b (by simpa using hb);simpa using this
theorem Pz.step{w w':World}{g g':z8}:{o o':C8}->(h:Pz w g w' g' o o')->(s:Step)->Pz w g w' g' (stp o s) (stp o' s)
 |some _,some _,h,s=>xG.step h s
 |none,none,_,_=>trivial
 |some _,none,h,_=>h.elim
 |none,some _,h,_=>h.elim
theorem V8.move{F F':(k:Nat)->Rec k->List Value->Prop}{w w':World}{g g':z8}(hr:zT w g w' g')(hF:∀k x cs,F k x cs->F' k x cs):{t:Ty}->{d:t.den}->{cs:List Value}->V8 F w g t d cs->V8 F' w' g' t d cs
 |.int _,_,_,h=>h
 |.bool,_,_,h=>h
 |.str,_,_,h=>h
 |.unit,_,_,h=>h
 |.pair a b,(x,y),_,h=>by
  obtain⟨c1,c2,rfl,h1,h2⟩:=h
  exact⟨c1,c2,rfl,V8.move hr hF h1,V8.move hr hF h2⟩
 |.arr n t,_,_,h=>⟨h.1,h.2.1,λi hi=>V8.move hr hF (h.2.2 i hi)⟩
 |.sl false t,l,_,h=>by
  obtain⟨a,cap,rfl,h1,h2,h3⟩:=h;refine⟨a,cap,rfl,h1,h2,λhn=>?_⟩;obtain⟨b,off,c,e,fz,ha,ht,hb,hs,he⟩:=h3 hn;have hk:=hr.qp b ht
  exact⟨b,off,c,e,fz,ha,hk.1,hk.2.trans hb,hs,λi hi=>V8.move hr hF (he i hi)⟩
 |.tree k,_,_,h=>hF _ _ _ h
theorem gF.move{w w':World}{g g':z8}(hr:zT w g w' g'):{n k:Nat}->{x:Rec k}->{cs:List Value}->gF w g n k x cs->gF w' g' n k x cs
 |n+1,_,_,_,h=>V8.move hr (λ_ _ _ h=>gF.move hr h) h
theorem zT.rfl{w:World}{g:z8}:zT w g w g:=⟨λ_ h=>⟨h,_root_.rfl⟩⟩
theorem gF.mono{w:World}{g:z8}:{n m k:Nat}->{x:Rec k}->{cs:List Value}->n<=m->gF w g n k x cs->gF w g m k x cs
 |n+1,m+1,_,_,_,Zq,h=>V8.move .rfl (λ_ _ _ h=>gF.mono (by omega) h) h
theorem zN.move{w w':World}{g g':z8}(hr:zT w g w' g'):{o o':C8}->{t:Ty}->{d:t.den}->{cs:List Value}->
  (hm:Pz w g w' g' o o')->zN w g o t d cs->zN w' g' o' t d cs
 |_,_,.int _,_,_,_,h=>h
 |_,_,.bool,_,_,_,h=>h
 |_,_,.str,_,_,_,h=>h
 |_,_,.unit,_,_,_,h=>h
 |_,_,.pair a b,(x,y),_,hm,h=>by
  obtain⟨c1,c2,rfl,h1,h2⟩:=h
  exact⟨c1,c2,rfl,zN.move hr (hm.step _) h1,zN.move hr (hm.step _) h2⟩
 |_,_,.arr n t,_,_,hm,h=>⟨h.1,h.2.1,λi hi=>zN.move hr (hm.step _) (h.2.2 i hi)⟩
 |_,_,.sl false t,l,_,_,h=>by
  obtain⟨a,cap,rfl,h1,h2,h3⟩:=h;refine⟨a,cap,rfl,h1,h2,λhn=>?_⟩;obtain⟨b,off,c,e,fz,ha,ht,hb,hs,he⟩:=h3 hn;have hk:=hr.qp b ht
  exact⟨b,off,c,e,fz,ha,hk.1,hk.2.trans hb,hs,λi hi=>zN.move hr (o:=none) (o':=none) trivial (he i hi)⟩
 |some (id,p),some (vF,p'),.sl true t,l,_,hm,h=>by
  obtain⟨a,cap,rfl,h0,h1,h2,h3⟩:=h;have Gp:xG w g w' g' id p vF p':=hm;refine⟨a,cap,rfl,?_,h1,h2,?_⟩
  ·have:=Gp.sv [];simp only[DX]at this;rw[this];exact h0
  ·rcases h3 with h3|⟨b,off,c,e,ha,ht,hb,hs,he⟩
   ·exact .inl h3
   ·have hk:=Gp.qp [] b (by simpa using ht);simp only[DX]at hk
    exact .inr ⟨b,off,c,e,ha,hk.1,hk.2.trans hb,hs,λi hi=>zN.move hr (o:=some (id,p++[Step.idx (i:Int)])) (o':=some (vF,p'++[Step.idx (i:Int)])) (Gp.step _) (he i hi)⟩
 |some _,none,.sl true _,_,_,hm,_=>hm.elim
 |none,_,.sl true _,_,_,_,h=>h.elim
 |_,_,.ptr t,_,_,_,h=>by
  obtain⟨b,off,c,e,fz,rfl,ht,hb,hs,he⟩:=h;have hk:=hr.qp b ht
  exact⟨b,off,c,e,fz,rfl,hk.1,hk.2.trans hb,hs,zN.move hr (o:=none) (o':=none) trivial he⟩
 |_,_,.fn f t,_,_,_,h=>by
  obtain⟨vs,rfl,he⟩:=h
  exact⟨vs,rfl,zN.move hr (o:=none) (o':=none) trivial he⟩
 |_,_,.tree k,_,_,_,h=>by obtain⟨n,h⟩:=h;exact⟨n,h.move hr⟩
 |some (id,p),some (vF,p'),.mp true,_,_,hm,h=>by
  have Gp:xG w g w' g' id p vF p':=hm;have hs:=Gp.sv [];simp only[DX]at hs
  exact⟨by rw[hs];exact h.1,by rw[hs];exact h.2.mono λb hb=>by simpa using Gp.qp [] b (by simpa using hb)⟩
 |some _,none,.mp true,_,_,hm,_=>hm.elim
 |none,_,.mp true,_,_,_,h=>h.elim
 |_,_,.mp false,_,_,_,h=>by obtain⟨v,hv,h⟩:=h;exact⟨v,hv,h.mono λb hb=>hr.qp b hb⟩
theorem zN.kept{w w':World}{g g':z8}(hr:zT w g w' g'){t:Ty}{d:t.den}{cs:List Value}(h:zN w g none t d cs):zN w' g' none t d cs:=
 zN.move hr (o:=none) (o':=none) trivial h
structure Zz (w:World) (g:z8) (w':World) (g':z8) (id:Nat) (p:Path):Prop where
 qp:∀q b,g.tag b=.row id (p++q)->g'.tag b=.ro/\w'.heap[b]? = w.heap[b]?
def X0(w:World)(g:z8)(w':World)(g':z8):C8->Prop
 |some (id,p)=>Zz w g w' g' id p
 |none=>True
theorem Zz.step{w w':World}{g g':z8}{id:Nat}{p:Path}(h:Zz w g w' g' id p)(s:Step):Zz w g w' g' id (p++[s]):=
 ⟨λq b hb=>h.qp ([s]++q) b (by simpa using hb)⟩
theorem X0.step{w w':World}{g g':z8}:{o:C8}->(h:X0 w g w' g' o)->(s:Step)->X0 w g w' g' (stp o s)
 |some _,h,s=>Zz.step h s
 |none,_,_=>trivial
theorem Ty.qd:(t:Ty)->t.ro.size=t.size
 |.int _=>rfl
 |.bool=>rfl
 |.str=>rfl
 |.unit=>rfl
 |.pair a b=>by simp only[Ty.ro,Ty.size,Ty.qd a,Ty.qd b]
 |.arr n t=>by simp only[Ty.ro,Ty.size,Ty.qd t]
 |.sl _ t=>rfl
 |.ptr _=>rfl
 |.fn _ _=>rfl
 |.tree _=>rfl
 |.mp _=>rfl
theorem Ri(a b:Ty)(x:a.den)(y:b.den):Ty.gz (.pair a b) (x,y)=(Ty.gz a x,Ty.gz b y):=by
 have ha:=Ty.pG a;have hb:=Ty.pG b;unfold Ty.gz;have key:∀(A A' B B':Type) (h1:A'=A) (h2:B'=B) (h3:(A'×B')=(A×B)) (x:A) (y:B),cast h3.symm (x,y)=(cast h1.symm x,cast h2.symm y):=by
  intro A A' B B' h1 h2 h3 x y;subst h1;subst h2;rfl
 exact key _ _ _ _ ha hb (Ty.pG (.pair a b)) x y
theorem Cu(t:Ty)(l:List t.den)(h:List t.ro.den=List t.den):cast h.symm l=l.map (Ty.gz t):=by
 unfold Ty.gz;have key:∀(A A':Type)(h1:A'=A)(h3:List A'=List A)(l:List A),cast h3.symm l=l.map (cast h1.symm):=by
  intro A A' h1 h3 l;subst h1;exact(List.map_id l).symm
 exact key _ _ (Ty.pG t) h l
theorem WU(o:Bool)(t:Ty)(l:List t.den):Ty.gz (.sl o t) l=(l.map (Ty.gz t):List t.ro.den):=Cu t l (Ty.pG (.sl o t))
theorem z0e(n:Nat)(t:Ty)(l:List t.den):Ty.gz (.arr n t) l=(l.map (Ty.gz t):List t.ro.den):=Cu t l (Ty.pG (.arr n t))
theorem z0d(t:Ty)(d:t.den):Ty.gz (.ptr t) d=Ty.gz t d:=rfl
theorem z9u(f:Nat)(t:Ty)(d:t.den):Ty.gz (.fn f t) d=Ty.gz t d:=rfl
theorem zN.freeze{w w':World}{g g':z8}(hr:zT w g w' g'):{o:C8}->{t:Ty}->{d:t.den}->{cs:List Value}->
  (hm:X0 w g w' g' o)->zN w g o t d cs->zN w' g' none t.ro (Ty.gz t d) cs
 |_,.int _,_,_,_,h=>h
 |_,.bool,_,_,_,h=>h
 |_,.str,_,_,_,h=>h
 |_,.unit,_,_,_,h=>h
 |_,.pair a b,(x,y),_,hm,h=>by
  obtain⟨c1,c2,rfl,h1,h2⟩:=h;rw[Ri]
  exact⟨c1,c2,rfl,zN.freeze hr (hm.step _) h1,zN.freeze hr (hm.step _) h2⟩
 |_,.arr n t,l,_,hm,h=>by
  rw[z0e];refine⟨by simpa using h.1,by rw[Ty.qd];exact h.2.1,λi hi=>?_⟩;have wm:i<List.length l:=by simpa using hi
  have:=zN.freeze hr (hm.step _) (h.2.2 i wm);simp only[IL,Rq,Ty.qd]at this⊢
  exact this
 |_,.sl false t,l,_,_,h=>by
  obtain⟨a,cap,rfl,h1,h2,h3⟩:=h;rw[WU];refine⟨a,cap,by simp,by simpa using h1,h2,λhn=>?_⟩;obtain⟨b,off,c,e,fz,ha,ht,hb,hs,he⟩:=h3 (by intro h;exact hn (by rw[h];rfl));have hk:=hr.qp b ht;refine⟨b,off,c,e,fz,ha,hk.1,hk.2.trans hb,by simpa[Ty.qd]using hs,λi hi=>?_⟩;have wm:i<List.length l:=by simpa using hi
  have:=zN.freeze hr (o:=none) trivial (he i wm);simp only[IL,Rq,Ty.qd]at this⊢
  exact this
 |some (id,p),.sl true t,l,_,hm,h=>by
  obtain⟨a,cap,rfl,h0,h1,h2,h3⟩:=h;have Gp:Zz w g w' g' id p:=hm;rw[WU];refine⟨a,cap,by simp,by simpa using h1,h2,λhn=>?_⟩;have HS:l≠[]:=by intro h;exact hn (by rw[h];rfl)
  rcases h3 with h3|⟨b,off,c,e,ha,ht,hb,hs,he⟩
  ·exact absurd h3.2.1 HS
  ·have hk:=Gp.qp [] b (by simpa using ht);refine⟨b,off,c,e,(0,0),ha,hk.1,hk.2.trans hb,?_,λi hi=>?_⟩
   ·have:List.length l*t.size<=cap*t.size:=kn _ h1;simp only[GZ,Ty.qd];omega
   ·have wm:i<List.length l:=by simpa using hi
    have:=zN.freeze hr (o:=some (id,p++[Step.idx (i:Int)])) (Gp.step _) (he i wm);simp only[IL,Rq,Ty.qd]at this⊢
    exact this
 |none,.sl true _,_,_,_,h=>h.elim
 |_,.ptr t,_,_,_,h=>by
  obtain⟨b,off,c,e,fz,rfl,ht,hb,hs,he⟩:=h;have hk:=hr.qp b ht;rw[z0d];refine⟨b,off,c,e,fz,rfl,hk.1,hk.2.trans hb,by rw[Ty.qd];exact hs,?_⟩;rw[Ty.qd]
  exact zN.freeze hr (o:=none) trivial he
 |_,.fn f t,_,_,_,h=>by
  obtain⟨vs,rfl,he⟩:=h;rw[z9u]
  exact⟨vs,rfl,zN.freeze hr (o:=none) trivial he⟩
 |_,.tree k,x,_,_,h=>by obtain⟨n,h⟩:=h;exact⟨n,h.move hr⟩
 |some (id,p),.mp true,_,_,hm,h=>by
  have Gp:Zz w g w' g' id p:=hm
  exact⟨_,h.1,h.2.mono λb hb=>Gp.qp [] b (by simpa using hb)⟩
 |none,.mp true,_,_,_,h=>h.elim
 |_,.mp false,_,_,_,h=>by obtain⟨v,hv,h⟩:=h;exact⟨v,hv,h.mono λb hb=>hr.qp b hb⟩
def Ty.plain:Ty->Bool
 |.int _ |.bool |.str |.unit=>true
 |.pair a b=>a.plain&&b.plain
 |.arr _ t=>t.plain
 |.sl false t=>t.plain
 |.tree _=>true
 |_=>false
theorem Ty.ZV:{t:Ty}->t.plain=true->t.zG=true
 |.int _,_=>rfl
 |.bool,_=>rfl
 |.str,_=>rfl
 |.unit,_=>rfl
 |.pair a b,h=>by simp only[Ty.plain,zA]at h;simp[Ty.zG,Ty.ZV h.1,Ty.ZV h.2]
 |.arr _ t,h=>by simp only[Ty.plain]at h;simp only[Ty.zG];exact Ty.ZV h
 |.sl false t,h=>by simp only[Ty.plain]at h;simp only[Ty.zG];simpa using Ty.ZV h
 |.sl true _,h=>by simp[Ty.plain]at h
 |.ptr _,h=>by simp[Ty.plain]at h
 |.fn _ _,h=>by simp[Ty.plain]at h
 |.tree _,_=>rfl
 |.mp _,h=>by simp[Ty.plain]at h
theorem CD:(k:Nat)->(Ty.pair (uE k) (uD k)).plain=true
 |0=>rfl
 |1=>rfl
 |_+2=>rfl
theorem zN.Hu{w:World}{g:z8}{n:Nat}:{t:Ty}->{d:t.den}->{cs:List Value}->V8 (gF w g n) w g t d cs->zN w g none t d cs
 |.int _,_,_,h=>h
 |.bool,_,_,h=>h
 |.str,_,_,h=>h
 |.unit,_,_,h=>h
 |.pair a b,(x,y),_,h=>by
  obtain⟨c1,c2,rfl,h1,h2⟩:=h
  exact⟨c1,c2,rfl,zN.Hu h1,zN.Hu h2⟩
 |.arr n t,_,_,h=>⟨h.1,h.2.1,λi hi=>zN.Hu (h.2.2 i hi)⟩
 |.sl false t,l,_,h=>by
  obtain⟨a,cap,rfl,h1,h2,h3⟩:=h;refine⟨a,cap,rfl,h1,h2,λhn=>?_⟩;obtain⟨b,off,c,e,fz,ha,ht,hb,hs,he⟩:=h3 hn
  exact⟨b,off,c,e,fz,ha,ht,hb,hs,λi hi=>zN.Hu (he i hi)⟩
 |.tree k,_,_,h=>⟨n,h⟩
theorem P8{p:Nat->Nat->Prop}(hp:∀n m i,n<=m->p n i->p m i):(l:Nat)->(∀i,i<l->∃n,p n i)->∃n,∀i,i<l->p n i
 |0,_=>⟨0,λi hi=>by omega⟩
 |l+1,h=>by
  obtain⟨n,hn⟩:=P8 hp l λi hi=>h i (by omega)
  obtain⟨m,hm⟩:=h l (by omega);refine⟨max n m,λi hi=>?_⟩;by_cases he:i=l
  ·subst he;exact hp _ _ _ (by omega) hm
  ·exact hp _ _ _ (by omega) (hn i (by omega))
theorem zN.FM{w:World}{g:z8}:{t:Ty}->{d:t.den}->{cs:List Value}->t.plain=true->zN w g none t d cs->∃n,V8 (gF w g n) w g t d cs
 |.int _,_,_,_,h=>⟨0,h⟩
 |.bool,_,_,_,h=>⟨0,h⟩
 |.str,_,_,_,h=>⟨0,h⟩
 |.unit,_,_,_,h=>⟨0,h⟩
 |.pair a b,(x,y),_,hp,h=>by
  simp only[Ty.plain,zA]at hp;obtain⟨c1,c2,rfl,h1,h2⟩:=h;obtain⟨n,h1⟩:=zN.FM hp.1 h1;obtain⟨m,h2⟩:=zN.FM hp.2 h2
  exact⟨max n m,c1,c2,rfl,V8.move .rfl (λ_ _ _ h=>h.mono (by omega)) h1,V8.move .rfl (λ_ _ _ h=>h.mono (by omega)) h2⟩
 |.arr k t,l,cs,hp,h=>by
  obtain⟨n,hn⟩:=P8 (p:=λn i=>∀hi:i<List.length l,V8 (gF w g n) w g t (List.get l ⟨i,hi⟩) (qS cs (i*t.size) t.size))
   (λn m i Zq h hi=>V8.move .rfl (λ_ _ _ h=>h.mono Zq) (h hi)) (List.length l) λi hi=>by
    obtain⟨n,hn⟩:=zN.FM (by simpa[Ty.plain]using hp) (h.2.2 i hi);exact⟨n,λ_=>hn⟩
  exact⟨n,h.1,h.2.1,λi hi=>hn i hi hi⟩
 |.sl false t,l,cs,hp,h=>by
  obtain⟨a,cap,rfl,h1,h2,h3⟩:=h;by_cases hl:l=[]
  ·exact⟨0,a,cap,rfl,h1,h2,λhn=>absurd hl hn⟩
  obtain⟨b,off,c,e,fz,ha,ht,hb,hs,he⟩:=h3 hl;obtain⟨n,hn⟩:=P8 (p:=λn i=>∀hi:i<List.length l,V8 (gF w g n) w g t (List.get l ⟨i,hi⟩) (qS c.toList (off+i*t.size) t.size))
   (λn m i Zq h hi=>V8.move .rfl (λ_ _ _ h=>h.mono Zq) (h hi)) (List.length l) λi hi=>by
    obtain⟨n,hn⟩:=zN.FM (by simpa[Ty.plain]using hp) (he i hi);exact⟨n,λ_=>hn⟩
  exact⟨n,a,cap,rfl,h1,h2,λ_=>⟨b,off,c,e,fz,ha,ht,hb,hs,λi hi=>hn i hi hi⟩⟩
 |.tree k,_,_,_,h=>h
 |.sl true _,_,_,hp,_=>by simp[Ty.plain]at hp
 |.ptr _,_,_,hp,_=>by simp[Ty.plain]at hp
 |.fn _ _,_,_,hp,_=>by simp[Ty.plain]at hp
 |.mp _,_,_,hp,_=>by simp[Ty.plain]at hp
theorem zN.WG{w:World}{g:z8}{o:C8}{k:Nat}{x:Rec k}{cs:List Value}:zN w g o (.tree k) x cs↔zN w g none (.pair (uE k) (uD k)) (vz k x) cs:=by
 refine⟨λh=>?_,λh=>?_⟩
 ·obtain⟨n,h⟩:=h
  cases n with
  |zero=>exact h.elim
  |succ n=>exact zN.Hu h
 ·obtain⟨n,h⟩:=zN.FM (CD k) h;exact⟨n+1,h⟩
end Go.Kz
namespace Go.Kz
def zD(l:List Value)(off:Nat)(x:List Value):List Value:=l.take off++x++l.drop (off+x.length)
theorem pP(l:List Value)(a n b m:Nat)(h:b+m<=n):qS (qS l a n) b m=qS l (a+b) m:=by
 simp only[qS,Z45,TF,Z31];congr 1;omega
theorem gx(l:List Value):qS l 0 l.length=l:=by simp[qS]
theorem yK(a b:List Value)(off n:Nat)(h:off+n<=a.length):qS (a++b) off n=qS a off n:=by
 simp only[qS];rw[Z2p (by omega),Z2q (by simp;omega)]
theorem GP(a b:List Value)(off n:Nat):qS (a++b) (a.length+off) n=qS b off n:=by
 simp only[qS,Z3q,Lg (show a.length<=a.length+off by omega),Ql];congr 2;omega
theorem yD(a b:List Value)(k off n:Nat)(h:k=a.length):qS (a++b) (k+off) n=qS b off n:=by
 subst h;exact GP a b off n
theorem j5(l:List Value)(off:Nat)(x:List Value)(h:off+x.length<=l.length):(zD l off x).length=l.length:=by
 simp only[zD,WQ,Us,Lp];omega
theorem wV(a b:List Value)(off:Nat)(x:List Value)(h:off+x.length<=a.length):zD (a++b) off x=zD a off x++b:=by
 simp only[zD,Z2q (show off<=a.length by omega),Z2p h,PF]
theorem vo(a b:List Value)(k off:Nat)(x:List Value)(h:k=a.length):zD (a++b) (k+off) x=a++zD b off x:=by
 subst h;simp only[zD,List.take_append,Z1y (show a.length<=a.length+off by omega),PF];congr 1;congr 1
 ·congr 1;omega
 ·congr 1;rw[Z3q,Lg (by omega),Ql];congr 1;omega
theorem uq(l:List Value)(off:Nat)(x:List Value)(h:off+x.length<=l.length):qS (zD l off x) off x.length=x:=by
 simp only[qS,zD,PF];rw[Z2p (by simp;omega),Lg (by simp;omega),Ql,List.take_left'];rfl
theorem jy(l:List Value)(off:Nat)(x:List Value)(a n:Nat)(h:a+n<=off)(hl:off<=l.length):qS (zD l off x) a n=qS l a n:=by
 simp only[zD,PF];rw[yK _ _ _ _ (by simp;omega)];simp only[qS,Z45,Z31];congr 1;omega
theorem vu(l:List Value)(off:Nat)(x:List Value)(a n:Nat)(h:off+x.length<=a)(hl:off+x.length<=l.length):qS (zD l off x) a n=qS l a n:=by
 obtain⟨k,rfl⟩:∃k,a=off+x.length+k:=⟨a-(off+x.length),by omega⟩;simp only[zD];rw[yD _ _ _ _ _ (by simp;omega)];simp only[qS,TF]
theorem pZ(l:List Value)(a n off:Nat)(x:List Value)(h:off+x.length<=n)(hl:a+n<=l.length):
  qS (zD l (a+off) x) a n=zD (qS l a n) off x:=by
 have e:l=l.take a++(qS l a n++l.drop (a+n)):=by
  simp only[qS];rw[<-TF,T4,T4]
 have hs:(qS l a n).length=n:=yS hl;have ha:(l.take a).length=a:=by simp;omega
 have e2:zD l (a+off) x=l.take a++(zD (qS l a n) off x++l.drop (a+n)):=by
  conv=>lhs;rw[e]
  rw[vo _ _ _ _ _ ha.symm,wV _ _ _ _ (by omega)]
 rw[e2];have hsp:(zD (qS l a n) off x).length=n:=by rw[j5 _ _ _ (by omega),hs]
 have:=yD (l.take a) (zD (qS l a n) off x++l.drop (a+n)) a 0 n ha.symm;simp only[TE]at this;rw[this,yK _ _ _ _ (by omega)];have h2:=gx (zD (qS l a n) off x);rw[hsp]at h2;exact h2
def Sk.off:Sk->Path->Option (Nat×Sk)
 |s,[]=>some (0,s)
 |.pair a _,.fst::p=>a.off p
 |.pair a b,.snd::p=>(b.off p).map λx=>(a.size+x.1,x.2)
 |.arr n t,.idx i::p=>if 0<=i/\i<n then (t.off p).map λx=>(i.toNat*t.size+x.1,x.2) else none
 |_,_=>none
theorem Ty.zW:(t:Ty)->t.sk.size=t.size
 |.int _=>rfl
 |.bool=>rfl
 |.str=>rfl
 |.unit=>rfl
 |.pair a b=>by simp only[Ty.sk,Sk.size,Ty.size,Ty.zW a,Ty.zW b]
 |.arr n t=>by simp only[Ty.sk,Sk.size,Ty.size,Ty.zW t]
 |.sl _ t=>rfl
 |.ptr _=>rfl
 |.fn _ _=>rfl
 |.tree _=>rfl
 |.mp _=>rfl
theorem Sk.qQ:{a b:Sk}->a.same b=true->a=b
 |.leaf,.leaf,_=>rfl
 |.unit,.unit,_=>rfl
 |.pair a b,.pair c d,h=>by
  simp only[Sk.same,zA]at h
  rw[Sk.qQ h.1,Sk.qQ h.2]
 |.arr n t,.arr m u,h=>by
  simp only[Sk.same,zA]at h
  rw[zE h.1,Sk.qQ h.2]
 |.leaf,.unit,h |.leaf,.pair _ _,h |.leaf,.arr _ _,h |.unit,.leaf,h |.unit,.pair _ _,h |.unit,.arr _ _,h
 |.pair _ _,.leaf,h |.pair _ _,.unit,h |.pair _ _,.arr _ _,h |.arr _ _,.leaf,h |.arr _ _,.unit,h |.arr _ _,.pair _ _,h=>by simp[Sk.same]at h
 |.tree _,.tree _,h=>by simp only[Sk.same]at h;rw[zE h]
 |.leaf,.tree _,h |.unit,.tree _,h |.pair _ _,.tree _,h |.arr _ _,.tree _,h |.tree _,.leaf,h |.tree _,.unit,h |.tree _,.pair _ _,h |.tree _,.arr _ _,h=>by simp[Sk.same]at h
theorem Sk.kZ:{s:Sk}->{p:Path}->{o:Nat}->{s':Sk}->s.off p=some (o,s')->o+s'.size<=s.size
 |s,[],o,s',h=>by simp only[Sk.off,zI,pv]at h;obtain⟨rfl,rfl⟩:=h;omega
 |.pair a b,.fst::p,o,s',h=>by
  simp only[Sk.off]at h
  have:=Sk.kZ h;simp only[Sk.size];omega
 |.pair a b,.snd::p,o,s',h=>by
  simp only[Sk.off,wO,pv]at h;obtain⟨x,hx,rfl,rfl⟩:=h
  have:=Sk.kZ (s:=b) (p:=p) (o:=x.1) (s':=x.2) hx;simp only[Sk.size];omega
 |.arr n t,.idx i::p,o,s',h=>by
  simp only[Sk.off]at h;split at h
  ·rename_i hi;simp only[wO,pv]at h;obtain⟨x,hx,rfl,rfl⟩:=h;have:=Sk.kZ (s:=t) (p:=p) (o:=x.1) (s':=x.2) hx;have h2:(i.toNat+1)*t.size<=n*t.size:=kn _ (by omega);simp only[Sk.size];rw[kq]at h2;omega
  ·simp at h
 |.leaf,_::_,_,_,h |.unit,_::_,_,_,h |.tree _,_::_,_,_,h |.pair _ _,.idx _::_,_,_,h |.arr _ _,.fst::_,_,_,h |.arr _ _,.snd::_,_,_,h=>by simp[Sk.off]at h
theorem Sk.xj:{s:Sk}->{p:Path}->{o:Nat}->{s':Sk}->(q:Path)->s.off p=some (o,s')->s.off (p++q)=(s'.off q).map λx=>(o+x.1,x.2)
 |s,[],o,s',q,h=>by simp only[Sk.off,zI,pv]at h;obtain⟨rfl,rfl⟩:=h;simp
 |.pair a b,.fst::p,o,s',q,h=>by
  simp only[Sk.off,QI]at h⊢
  exact Sk.xj q h
 |.pair a b,.snd::p,o,s',q,h=>by
  simp only[Sk.off,wO,pv,QI]at h⊢;obtain⟨x,hx,rfl,rfl⟩:=h;rw[Sk.xj (s:=b) (p:=p) (o:=x.1) (s':=x.2) q hx,Option.map_map]
  congr 1;funext y;simp[TD]
 |.arr n t,.idx i::p,o,s',q,h=>by
  simp only[Sk.off,QI]at h⊢;split at h
  ·simp only[wO,pv]at h;obtain⟨x,hx,rfl,rfl⟩:=h;rw[Sk.xj (s:=t) (p:=p) (o:=x.1) (s':=x.2) q hx,Option.map_map];rename_i hi;rw[yX hi];congr 1;funext y;simp[TD]
  ·simp at h
 |.leaf,_::_,_,_,_,h |.unit,_::_,_,_,_,h |.pair _ _,.idx _::_,_,_,_,h |.arr _ _,.fst::_,_,_,_,h |.arr _ _,.snd::_,_,_,_,h=>by simp[Sk.off]at h
theorem jr{I:Type}{l:List I}{i:Int}{x:I}(h:idx l i=some x):0<=i/\∃hi:i.toNat<l.length,l.get ⟨i.toNat,hi⟩=x/\i<l.length:=by
 cases i with
 |ofNat n=>
  simp only[idx]at h;obtain⟨hn,hx⟩:=Z32.1 h
  exact⟨Int.natCast_nonneg n,by simpa using hn,by simpa using hx,by show((n:Nat):Int)<_;omega⟩
 |negSucc n=>simp[idx]at h
variable {R:Type}
theorem ZH{w:World}{g:z8}:{t:Ty}->{d:t.den}->{p:Path}->{k:(u:Ty)->u.den->Option R}->{r:R}->{cs:List Value}->
  t.zG=true->zN w g none t d cs->zb t d p k=some r->
  ∃u e off,k u e=some r/\u.zG=true/\t.sk.off p=some (off,u.sk)/\zN w g none u e (qS cs off u.size)
 |t,d,[],k,r,cs,ht,zF,h=>by
  have hk:k t d=some r:=by cases t<;>simpa[zb]using h
  refine⟨t,d,0,hk,ht,?_,?_⟩
  ·simp[Sk.off]
  ·rw[<-zF.len,gx];exact zF
 |.pair a b,(x,y),.fst::p,k,r,cs,ht,zF,h=>by
  simp only[zb]at h;obtain⟨c1,c2,rfl,h1,h2⟩:=zF;simp only[Ty.zG,zA]at ht;obtain⟨u,e,off,hk,hu,ho,hr⟩:=ZH ht.1 h1 h;refine⟨u,e,off,hk,hu,by simpa[Ty.sk,Sk.off]using ho,?_⟩;have:=Sk.kZ ho;rw[Ty.zW,Ty.zW]at this
  rw[yK _ _ _ _ (by rw[h1.len];exact this)];exact hr
 |.pair a b,(x,y),.snd::p,k,r,cs,ht,zF,h=>by
  simp only[zb]at h;obtain⟨c1,c2,rfl,h1,h2⟩:=zF;simp only[Ty.zG,zA]at ht;obtain⟨u,e,off,hk,hu,ho,hr⟩:=ZH ht.2 h2 h;refine⟨u,e,a.sk.size+off,hk,hu,by simp[Ty.sk,Sk.off,ho],?_⟩
  rw[yD _ _ _ _ _ (by rw[h1.len,Ty.zW])];exact hr
 |.arr n t,l,.idx i::p,k,r,cs,ht,zF,h=>by
  simp only[zb,WZ]at h;obtain⟨x,hx,h⟩:=h;obtain⟨h0,hi,rfl,qk⟩:=jr hx;have ht':t.zG=true:=by simpa[Ty.zG]using ht
  have hl:=zF.1;have hn:i.toNat<n:=by rw[<-hl];exact hi
  obtain⟨u,e,off,hk,hu,ho,hr⟩:=ZH ht' (zF.2.2 _ hi) h;refine⟨u,e,i.toNat*t.sk.size+off,hk,hu,?_,?_⟩
  ·simp only[Ty.sk,Sk.off];rw[yX ⟨h0,by omega⟩,ho];rfl
  ·have:=Sk.kZ ho;rw[Ty.zW,Ty.zW]at this;rw[pP _ _ _ _ _ this]at hr
   rw[Ty.zW];exact hr
 |.sl true t,l,.idx i::p,k,r,cs,ht,zF,h=>by simp[Ty.zG]at ht
 |.sl false t,l,s::p,k,r,cs,ht,zF,h=>by cases s<;>simp[zb]at h
 |.sl true t,l,.fst::p,k,r,cs,ht,zF,h=>by simp[zb]at h
 |.sl true t,l,.snd::p,k,r,cs,ht,zF,h=>by simp[zb]at h
 |.int _,_,s::_,_,_,_,_,_,h=>by cases s<;>simp[zb]at h
 |.bool,_,s::_,_,_,_,_,_,h=>by cases s<;>simp[zb]at h
 |.str,_,s::_,_,_,_,_,_,h=>by cases s<;>simp[zb]at h
 |.unit,_,s::_,_,_,_,_,_,h=>by cases s<;>simp[zb]at h
 |.ptr _,_,s::_,_,_,_,_,_,h=>by cases s<;>simp[zb]at h
 |.fn _ _,_,s::_,_,_,_,_,_,h=>by cases s<;>simp[zb]at h
 |.tree _,_,s::_,_,_,_,_,_,h=>by cases s<;>simp[zb]at h
 |.mp _,_,s::_,_,_,_,_,_,h=>by cases s<;>simp[zb]at h
 |.pair _ _,_,.idx _::_,_,_,_,_,_,h=>by simp[zb]at h
 |.arr _ _,_,.fst::_,_,_,_,_,_,h=>by simp[zb]at h
 |.arr _ _,_,.snd::_,_,_,_,_,_,h=>by simp[zb]at h
end Go.Kz
namespace Go.Kz
variable {R:Type}
theorem zN.yJ{w:World}{g:z8}:{o o':C8}->{t:Ty}->{d:t.den}->{cs:List Value}->t.zG=true->zN w g o t d cs->zN w g o' t d cs
 |_,_,.int _,_,_,_,h=>h
 |_,_,.bool,_,_,_,h=>h
 |_,_,.str,_,_,_,h=>h
 |_,_,.unit,_,_,_,h=>h
 |_,_,.pair a b,(x,y),_,ht,h=>by
  simp only[Ty.zG,zA]at ht;obtain⟨c1,c2,rfl,h1,h2⟩:=h
  exact⟨c1,c2,rfl,zN.yJ ht.1 h1,zN.yJ ht.2 h2⟩
 |_,_,.arr n t,_,_,ht,h=>⟨h.1,h.2.1,λi hi=>zN.yJ (by simpa[Ty.zG]using ht) (h.2.2 i hi)⟩
 |_,_,.sl false t,_,_,_,h=>h
 |_,_,.sl true t,_,_,ht,_=>by simp[Ty.zG]at ht
 |_,_,.ptr t,_,_,_,h=>h
 |_,_,.fn f t,_,_,_,h=>h
 |_,_,.tree _,_,_,_,h=>h
 |_,_,.mp false,_,_,_,h=>h
 |_,_,.mp true,_,_,ht,_=>by simp[Ty.zG]at ht
theorem yY{a b:Ty}{d:a.den}{k:b.den->Option R}{r:R}(h:u4 a b d k=some r):∃e:a=b,k (cast (Jn Ty.den e) d)=some r:=by
 unfold u4 at h;split at h
 ·rename_i x hx;exact⟨x.down,h⟩
 ·simp at h
theorem qJ{I:Type}(l:List I)(i:Int)(x:I):(qN l i x).length=l.length:=by simp[qN]
theorem Zx{I:Type}(l:List I)(i:Int)(x:I)(j:Nat)(hj:j<(qN l i x).length):
  (qN l i x).get ⟨j,hj⟩=if i.toNat=j then x else l.get ⟨j,by simpa[qN]using hj⟩:=by
 simp[qN,List.getElem_set]
theorem Zu{w:World}{g:z8}:{t:Ty}->{d:t.den}->{p:Path}->{u:Ty}->{e:u.den}->{k:t.den->Option R}->{r:R}->{cs C0:List Value}->
  t.zG=true->zN w g none t d cs->zN w g none u e C0->jn t d p u e k=some r->
  ∃d' off,k d'=some r/\t.sk.off p=some (off,u.sk)/\zN w g none t d' (zD cs off C0)
 |t,d,[],u,e,k,r,cs,C0,ht,zF,ZE,h=>by
  have hk:u4 u t e k=some r:=by cases t<;>simpa[jn]using h
  obtain⟨rfl,hk⟩:=yY hk;refine⟨e,0,hk,by simp[Sk.off],?_⟩;have:zD cs 0 C0=C0:=by
   simp only[zD,Z1z,Ql,QK];rw[ZE.len,<-zF.len];simp
  rw[this];exact ZE
 |.pair a b,(x,y),.fst::p,u,e,k,r,cs,C0,ht,zF,ZE,h=>by
  simp only[jn]at h;obtain⟨c1,c2,rfl,h1,h2⟩:=zF;simp only[Ty.zG,zA]at ht;obtain⟨d',off,hk,ho,hr⟩:=Zu ht.1 h1 ZE h;refine⟨_,off,hk,by simpa[Ty.sk,Sk.off]using ho,?_⟩;have:=Sk.kZ ho;rw[Ty.zW,Ty.zW]at this;rw[wV _ _ _ _ (by rw[h1.len,ZE.len];exact this)]
  exact⟨_,_,rfl,hr,h2⟩
 |.pair a b,(x,y),.snd::p,u,e,k,r,cs,C0,ht,zF,ZE,h=>by
  simp only[jn]at h;obtain⟨c1,c2,rfl,h1,h2⟩:=zF;simp only[Ty.zG,zA]at ht;obtain⟨d',off,hk,ho,hr⟩:=Zu ht.2 h2 ZE h;refine⟨_,a.sk.size+off,hk,by simp[Ty.sk,Sk.off,ho],?_⟩;rw[vo _ _ _ _ _ (by rw[h1.len,Ty.zW])]
  exact⟨_,_,rfl,h1,hr⟩
 |.arr n t,l,.idx i::p,u,e,k,r,cs,C0,ht,zF,ZE,h=>by
  simp only[jn,WZ]at h;obtain⟨x,hx,h⟩:=h;obtain⟨h0,hi,rfl,qk⟩:=jr hx;have ht':t.zG=true:=by simpa[Ty.zG]using ht
  have hl:=zF.1;have uk:=zF.2.1;have hn:i.toNat<n:=by rw[<-hl];exact hi
  obtain⟨d',off,hk,ho,hr⟩:=Zu ht' (zF.2.2 _ hi) ZE h;have hle:=Sk.kZ ho;rw[Ty.zW,Ty.zW]at hle;have xX:(i.toNat+1)*t.size<=n*t.size:=kn _ hn;rw[kq]at xX;refine⟨_,i.toNat*t.sk.size+off,hk,?_,?_⟩
  ·simp only[Ty.sk,Sk.off];rw[yX ⟨h0,by omega⟩,ho];rfl
  ·rw[Ty.zW];refine⟨by rw[qJ];exact hl,?_,λj hj=>?_⟩
   ·rw[j5 _ _ _ (by rw[ZE.len];omega)];exact uk
   ·rw[Zx];split
    ·rename_i Ze;subst Ze;rw[pZ _ _ _ _ _ (by rw[ZE.len];exact hle) (by omega)];exact hr
    ·rename_i Ze;have Zy:j<List.length l:=by simpa[qN]using hj
     have VQ:j<n:=by rw[<-hl];exact Zy
     rcases Z33 Ze with Vf|SD
     ·have h3:(i.toNat+1)*t.size<=j*t.size:=kn _ Vf;rw[kq]at h3;rw[vu _ _ _ _ _ (by rw[ZE.len];omega) (by rw[ZE.len];omega)];exact zF.2.2 j Zy
     ·have h3:(j+1)*t.size<=i.toNat*t.size:=kn _ SD;rw[kq]at h3;rw[jy _ _ _ _ _ (by omega) (by omega)]
      exact zF.2.2 j Zy
 |.sl true t,l,.idx i::p,_,_,k,r,cs,_,ht,zF,_,h=>by simp[Ty.zG]at ht
 |.sl false t,l,s::p,_,_,k,r,cs,_,ht,zF,_,h=>by cases s<;>simp[jn]at h
 |.sl true t,l,.fst::p,_,_,k,r,cs,_,ht,zF,_,h=>by simp[jn]at h
 |.sl true t,l,.snd::p,_,_,k,r,cs,_,ht,zF,_,h=>by simp[jn]at h
 |.int _,_,s::_,_,_,_,_,_,_,_,_,_,h=>by cases s<;>simp[jn]at h
 |.bool,_,s::_,_,_,_,_,_,_,_,_,_,h=>by cases s<;>simp[jn]at h
 |.str,_,s::_,_,_,_,_,_,_,_,_,_,h=>by cases s<;>simp[jn]at h
 |.unit,_,s::_,_,_,_,_,_,_,_,_,_,h=>by cases s<;>simp[jn]at h
 |.ptr _,_,s::_,_,_,_,_,_,_,_,_,_,h=>by cases s<;>simp[jn]at h
 |.fn _ _,_,s::_,_,_,_,_,_,_,_,_,_,h=>by cases s<;>simp[jn]at h
 |.tree _,_,s::_,_,_,_,_,_,_,_,_,_,h=>by cases s<;>simp[jn]at h
 |.mp _,_,s::_,_,_,_,_,_,_,_,_,_,h=>by cases s<;>simp[jn]at h
 |.pair _ _,_,.idx _::_,_,_,_,_,_,_,_,_,_,h=>by simp[jn]at h
 |.arr _ _,_,.fst::_,_,_,_,_,_,_,_,_,_,h=>by simp[jn]at h
 |.arr _ _,_,.snd::_,_,_,_,_,_,_,_,_,_,h=>by simp[jn]at h
abbrev qZ:=Nat->Option Obj
def place(g:z8)(id:Nat):(t:Ty)->(pre:Path)->(b off:Nat)->Path->Option (Nat×Nat)
 |_,_,b,off,[]=>some (b,off)
 |.pair a _,pre,b,off,.fst::p=>place g id a (pre++[.fst]) b off p
 |.pair a c,pre,b,off,.snd::p=>place g id c (pre++[.snd]) b (off+a.size) p
 |.arr _ t,pre,b,off,.idx i::p=>place g id t (pre++[.idx i]) b (off+i.toNat*t.size) p
 |.sl true t,pre,_,_,.idx i::p=>match g.sv id pre with
  |.slice (some a) _ _=>place g id t (pre++[.idx i]) a.block (a.off+i.toNat*t.size) p
  |_=>none
 |_,_,_,_,_=>none
def jC(v:Value)(size:Nat)(a b:Int):Value:=match v with
 |.slice x _ cap=>.slice (if cap-a.toNat=0 then x else x.map (·.add (a.toNat*size))) (b-a).toNat (cap-a.toNat)
 |v=>v
def z7.isAgg:z7->Bool
 |.data t _=>t.sk.isAgg
 |.agg _=>true
 |_=>false
def jh(agg:Bool)(cs:List Value):Value:=if agg then .agg cs.toArray else cs.headD undef
def jM(w:World)(g:z8)(z6:qZ):z7->List Value->Prop
 |.data t d,cs=>t.zG=true/\zN w g none t d cs
 |.zi,cs=>cs=[.slice none 0 0]
 |.ref id p ep,cs=>∃v,cs=[v]/\v.oneCell'=true/\∀t l e,z6 id=some (.row t l e)->ep<=e/\(e=ep->v=g.sv id p)
 |.view id p ep a b,cs=>∃v,cs=[v]/\v.oneCell'=true/\∀t l e,z6 id=some (.row t l e)->ep<=e/\
   (e=ep->p=[]/\0<=a/\a<=b/\b<=(l.length:Int)/\v=jC (g.sv id p) t.size a b)
 |.zq id p,cs=>∃v,cs=[v]/\v.oneCell'=true/\∀a,z6 id=some (.cell a)->∃off s,a.sk.off p=some (off,s)/\v=.pointer (some ⟨g.qp id,off,none⟩)
 |.va id p ep,cs=>∃v,cs=[v]/\v.oneCell'=true/\∀t l e,z6 id=some (.row t l e)->ep<=e/\
   (e=ep->p≠[]/\∃b off,place g id (.sl true t) [] 0 0 p=some (b,off)/\v=.pointer (some ⟨b,off,none⟩))
 |.qV id,cs=>∃v,cs=[v]/\v.oneCell'=true/\∀kt vt m,z6 id=some (.map kt vt m)->v=.map (some (g.qp id))
 |.nv pt id p ep,cs=>∃v,cs=[v]/\v.oneCell'=true/\∀t l e i h,z6 id=some (.nest t l e i h)->ep<=HG pt p e i/\
   (HG pt p e i=ep->(pt=false->v=g.sv id p)/\(pt=true->p≠[]/\∃b off,place g id (.sl true t) [] 0 0 p=some (b,off)/\v=.pointer (some ⟨b,off,none⟩)))
 |.qP f c,cs=>∃vs,cs=[.func (.func f) #[] vs.toArray]/\jM w g z6 c vs
 | .V6 t c,cs=>∃x Du,cs=[.iface t x]/\jM w g z6 c Du/\x=jh c.isAgg Du
 |.agg c,cs=>jM w g z6 c cs
 |.jS _,_=>False
 |.pr a b,cs=>∃c1 c2,cs=c1++c2/\jM w g z6 a c1/\jM w g z6 b c2
 |.un,cs=>cs=[]
theorem jM.len{w:World}{g:z8}{z6:qZ}:{a:z7}->{cs:List Value}->jM w g z6 a cs->cs.length=a.sk.size
 |.data t d,_,h=>by rw[h.2.len];simp[z7.sk,Ty.zW]
 |.zi,_,h=>by cases h;rfl
 |.ref _ _ _,_,h=>by obtain⟨v,rfl,_⟩:=h;rfl
 |.view _ _ _ _ _,_,h=>by obtain⟨v,rfl,_⟩:=h;rfl
 |.zq _ _,_,h=>by obtain⟨v,rfl,_⟩:=h;rfl
 |.va _ _ _,_,h=>by obtain⟨v,rfl,_⟩:=h;rfl
 |.qV _,_,h=>by obtain⟨v,rfl,_⟩:=h;rfl
 |.nv _ _ _ _,_,h=>by obtain⟨v,rfl,_⟩:=h;rfl
 |.qP _ _,_,h=>by obtain⟨v,rfl,_⟩:=h;rfl
 | .V6 _ _,_,h=>by obtain⟨x,cs,rfl,_⟩:=h;rfl
 |.agg c,_,h=>jM.len (a:=c) h
 |.jS _,_,h=>h.elim
 |.pr a b,_,h=>by
  obtain⟨c1,c2,rfl,h1,h2⟩:=h
  simp only[WQ,z7.sk,Sk.size,h1.len,h2.len]
 |.un,_,h=>by cases h;rfl
mutual
def zm(w:World)(g:z8)(z6:qZ):z7->Value->Prop
 |.jS c,v=>∃vs,v=.tuple vs.toArray/\qx w g z6 c vs
 |.pr _ _,_=>False
 |.un,_=>False
 |a,v=>∃cs,jM w g z6 a cs/\v=jh a.isAgg cs
def qx(w:World)(g:z8)(z6:qZ):z7->List Value->Prop
 |.pr a b,vs=>∃v r,vs=v::r/\zm w g z6 a v/\qx w g z6 b r
 |.un,vs=>vs=[]
 |_,_=>False
end
end Go.Kz
