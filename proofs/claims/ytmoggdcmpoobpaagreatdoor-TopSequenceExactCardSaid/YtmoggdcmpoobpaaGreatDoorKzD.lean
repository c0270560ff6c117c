/-
  Type codes, and layouts.
-/
import Derived.WalkKit
import Derived.ProofKit
set_option linter.unusedVariables false
set_option linter.unusedSimpArgs false
set_option linter.defProp false
namespace Go.Kz
def zJ:=@cond_true
def zU:=@cond_false
def zO:=@Option.bind_some
def qP:=@if_neg
def qd:=@decide_eq_false
def qn:=@if_pos
def jq:=@Nat.le_refl
def jQ:=@decide_eq_true
def jc:=@decide_eq_true_eq
def v8:=@Nat.zero_le
def Wm:=@congrArg
def wV:=@List.getElem?_eq_getElem
def wB:=@List.getElem_mem
def wI:=@Nat.mul_le_mul_right
def kT:=@Option.map_eq_some_iff
def kK:=@Nat.add_mul
def gJ:=@List.mem_cons
def gT:=@Array.length_toList
def p8:=@Prod.mk.injEq
def pe:=@List.mem_map
def ZB:=@List.getD_eq_getElem?_getD
def Zh:=@Option.bind_eq_some_iff
def Qw:=@List.map_cons
def Q9:=@decide_eq_false_iff_not
def Qv:=@Bool.not_true
def Jz:=@List.length_append
def Qm:=@List.cons_append
def J9:=@List.length_map
def JD:=@List.nil_append
def Wq:=@Nat.zero_add
def Wl:=@List.mem_iff_getElem
def Wi:=@Int.toNat_natCast
def Wh:=@Bool.or_eq_false_iff
def Ki:=@List.take_length
def PH:=@List.mem_append
def PF:=@Bool.not_eq_true'
def X4:=@List.length_cons
def XQ:=@List.append_assoc
def X3:=@true_and
def X1:=@of_decide_eq_true
def XZ:=@List.map_append
def CB:=@List.length_take
def CA:=@List.cons.injEq
def CX:=@Bool.or_eq_true
def CU:=@Option.getD_some
def DZ:=@Nat.mul_comm
def Dx:=@and_true
def Du:=@List.mem_range
def Eb:=@Nat.lt_succ_self
def Hc:=@List.append_nil
def Hb:=@Bool.not_eq_false'
def I4:=@List.drop_eq_nil_of_le
def I3:=@List.ext_getElem
def Z1h:=@Nat.le_succ
def R4:=@Nat.beq_refl
def Ny:=@List.getElem?_map
def Nq:=@decide_true
def R3:=@List.get_eq_getElem
def R0:=@List.getElem_map
def Ot:=@Nat.add_zero
def Z1o:=@Nat.le_trans
def Oo:=@List.map_map
def On:=@List.mem_cons_of_mem
def Om:=@List.mem_singleton
def Ol:=@Int.mul_nonneg
def Z1t:=@List.drop_drop
def TV:=@List.map_congr_left
def Z1v:=@List.take_append_drop
def Z1w:=@if_false
def Z1x:=@if_true
def Z1y:=@List.length_nil
def Z1z:=@Bool.not_false
def Z20:=@List.length_drop
def Z21:=@List.take_of_length_le
def Z22:=@Array.toList_inj
def Z23:=@Nat.mod_lt
def Z24:=@Option.map_some
def Z25:=@Nat.mul_le_mul
def Z26:=@List.filter_append
def Z27:=@of_decide_eq_false
def Z28:=@Bool.and_eq_false_iff
def Z29:=@List.take_zero
def Z2a:=@List.drop_eq_getElem_cons
def Z2b:=@List.map_nil
def Z2c:=@List.mem_cons_self
def Z2d:=@List.range_succ
def Z2e:=@Nat.add_assoc
def Z2f:=@List.length_eq_one_iff
def Z2g:=@Nat.div_lt_of_lt_mul
def Z2h:=@Nat.mul_one
def Z2i:=@Array.getElem?_toList
def Z2j:=@List.all_eq_true
def Z2k:=@List.getElem?_append_left
def Z2l:=@List.mem_of_mem_take
def Z2m:=@List.nodup_cons
def Z2n:=@List.get_mem
def Z2o:=@Int.toNat_of_nonneg
def Z2p:=@Array.getElem?_eq_some_iff
def Z2q:=@Bool.false_eq_true
def Z2r:=@List.headD_cons
def Z2s:=@List.getElem?_eq_none
def Z2t:=@List.take_take
def Z2u:=@List.take_succ_cons
def Z2v:=@List.ext_getElem?
def Z2w:=@Nat.blt_eq
def Z2x:=@List.sum_cons
def Z2y:=@List.drop_append_of_le_length
def Z2z:=@List.getElem_set
def Z30:=@Array.toList_map
def Z31:=@Option.isSome_iff_exists
def Z32:=@Nat.zero_mul
def Z33:=@List.foldl_cons
def Z34:=@List.getElem?_drop
def Z35:=@List.mem_filter
def Z36:=@List.getElem?_append_right
def Z37:=@List.length_filter_le
def Z38:=@List.foldr_cons
def Z39:=@List.take_append_of_le_length
def Z3a:=@List.drop_append
def Z3b:=@Int.ediv_nonneg
def Z3c:=@List.append_inj
def Z3d:=@Nat.le_of_eq
def Z3e:=@Nat.div_add_mod
def Z3f:=@List.flatten_cons
def Z3g:=@List.drop_zero
def Z3h:=@List.eq_nil_of_length_eq_zero
def Z3i:=@Nat.add_sub_cancel_left
def Z3j:=@Bool.eq_iff_iff
def Z3k:=@Bool.true_and
def Z3l:=@Array.toList_modify
def Z3m:=@List.filter_congr
def Z3n:=@Array.getElem?_eq_none
def Z3o:=@Nat.mul_add_div
def Z3p:=@Nat.div_eq_of_lt
def Z3q:=@Nat.mod_eq_of_lt
def Z3r:=@Int.mul_le_mul
def Z3s:=@List.mem_of_mem_drop
def Z3t:=@List.filter_cons_of_pos
def Z3u:=@List.getElem?_eq_some_iff
def Z3v:=@Nat.lt_or_gt_of_ne
def Z3w:=@Nat.lt_of_lt_of_le
def Z3x:=@Int.ediv_le_self
def Z3y:=@List.length_singleton
def Z3z:=@List.size_toArray
def Z40:=@List.getElem_take
def Z41:=@Nat.one_mul
def Z42:=@Int.mul_le_mul_of_nonneg_right
def Z43:=@Nat.min_eq_left
def Z44:=@Nat.sub_self
def Z45:=@List.getElem?_take
def Z46:=@Bool.and_self
def Z47:=@List.filter_filter
def Z48:=@Nat.min_le_left
def Z49:=@List.nodup_append
def Z4a:=@Nat.lt_or_ge
def Z4b:=@Array.getD_eq_getD_getElem?
def Z4c:=@Bool.and_true
def Z4d:=@List.mem_of_getElem?
def Z4e:=@List.pairwise_iff_getElem
def Z4f:=@List.flatMap_cons
def Z4g:=@List.foldl_nil
def Z4h:=@List.nodup_iff_pairwise_ne
def Z4i:=@List.filter_cons_of_neg
def Z4j:=@List.filter_eq_nil_iff
def Z4k:=@List.filter_map
def Z4l:=@List.getElem_range
def Z4m:=@Nat.succ_eq_add_one
def Z4n:=@List.drop_take
def Z4o:=@List.prefix_append_right_inj
def Z4p:=@List.append_cancel_left
def Z4q:=@Nat.eq_zero_or_pos
def Z4r:=@List.getElem_drop
def Z4s:=@Nat.add_comm
def Z4t:=@Sigma.mk.injEq
def Z4u:=@Array.toList_push
def Z4v:=@List.getElem?_modify
def Z4w:=@List.getElem?_range
def Z4x:=@List.eq_nil_iff_forall_not_mem
def Z4y:=@List.mem_flatten
def Z4z:=@Int.le_refl
def Z50:=@Array.getElem?_append_left
def Z51:=@List.map_drop
def Z52:=@List.getElem_cons_succ
def Z53:=@Int.mul_assoc
def Z54:=@List.foldl_append
def Z55:=@Int.add_mul
def Z56:=@Nat.lt_trichotomy
def Z57:=@List.getElem_zipWith
def Z58:=@Nat.pos_of_ne_zero
def Z59:=@List.length_range
def Z5a:=@Nat.mul_add_mod
def Z5b:=@Int.ofNat_tmod
def Z5c:=@List.range_add
def Z5d:=@List.getElem?_set_ne
def Z5e:=@Array.eq_empty_of_size_eq_zero
def Z5f:=@List.prefix_append
def Z5g:=@List.map_toArray
def Z5h:=@List.replicate_succ
def Z5i:=@List.take_succ_eq_append_getElem
def Z5j:=@Array.getElem_toList
def Z5k:=@Array.getElem?_eq_getElem
def Z5l:=@List.getElem_append_left
def Z5m:=@List.length_pos_iff
def Z5n:=@Array.toList_append
def Z5o:=@List.modify_zero_cons
def Z5p:=@List.modify_succ_cons
def Z5q:=@Option.map_none
def Z5r:=@List.length_modify
def Z5s:=@List.getElem?_cons_zero
def Z5t:=@List.toList_toArray
def Z5u:=@Classical.byContradiction
def Z5v:=@Int.eq_ofNat_of_zero_le
def Z5w:=@List.pairwise_cons
def Z5x:=@Nat.le_add_right
def Z5y:=@List.pairwise_map
def Z5z:=@List.getElem_cons_drop
def Z60:=@List.length_replicate
def Z61:=@List.sum_append
def Z62:=@List.flatMap_map
def Z63:=@Array.getElem?_setIfInBounds_ne
def Z64:=@Go.WideShapes.okWide_struct
def Z65:=@Int.tdiv_eq_ediv_of_nonneg
def Z66:=@List.perm_ext_iff_of_nodup
theorem zI.{u}{I:Type u}(a b:I):(some a=some b)=(a=b):=Option.some.injEq a b
theorem zA(a b:Bool):((a&&b)=true)=(a=true/\b=true):=Bool.and_eq_true a b
theorem zE{n m:Nat}(h:Nat.beq n m=true):n=m:=Nat.eq_of_beq_eq_true h
theorem zL{n m:Nat}(h:Nat.ble n m=true):n<=m:=Nat.le_of_ble_eq_true h
inductive Ty where
 |int (k:IntKind)|bool|str|unit
 |pair (a b:Ty)|arr (n:Nat) (t:Ty)|sl (own:Bool) (t:Ty)|ptr (t:Ty)|fn (f:Nat) (c:Ty)
 |tree (k:Nat)
inductive Sk where
 |leaf|unit|pair (a b:Sk)|arr (n:Nat) (t:Sk)|tree (k:Nat)
def Sk.same:Sk->Sk->Bool
 |.leaf,.leaf=>true
 |.unit,.unit=>true
 |.pair a b,.pair c d=>a.same c&&b.same d
 |.arr n t,.arr m u=>Nat.beq n m&&t.same u
 |.tree k,.tree j=>Nat.beq k j
 |_,_=>false
def Sk.isAgg:Sk->Bool
 |.leaf=>false
 |_=>true
end Go.Kz
namespace Go.Kz
structure Tm where
 op:Int
 n:Int
 kids:List Tm
structure Sp where
 act:Int
 cost:Int
 var:Int
 n:Int
 term:Tm
 jM:List Sp
 ui:List Sp
 bounds:List Int
@[reducible] def Rec:Nat->Type
 |0=>Tm
 |1=>Sp
 |_=>Unit
def xq:Nat->Ty
 |0|1=>.int .i64
 |_=>.unit
def xz:Nat->Ty
 |0=>.pair (.int .i64) (.pair (.sl false (.tree 0)) .unit)
 |1=>.pair (.int .i64) (.pair (.int .i64) (.pair (.int .i64) (.pair (.pair (.int .i64) (.pair (.int .i64) (.pair (.sl false (.tree 0)) .unit))) (.pair (.sl false (.tree 1)) (.pair (.sl false (.tree 1)) (.pair (.sl false (.int .i64)) .unit))))))
 |_=>.unit
def Da:Nat->Nat
 |0=>3
 |1=>10
 |_=>0
def zq7:Nat->List Value
 |0=>[.int .i64 0,.int .i64 0,.slice none 0 0]
 |1=>[.int .i64 0,.int .i64 0,.int .i64 0,.int .i64 0,.int .i64 0,.int .i64 0,.slice none 0 0,.slice none 0 0,.slice none 0 0,.slice none 0 0]
 |_=>[]
def recOn:Nat->Bool
 |0|1=>true
 |_=>false
def zdc:Nat->Nat
 |0=>109
 |1=>111
 |_=>0
@[reducible] def Ty.den:Ty->Type
 |.int _=>Int
 |.bool=>Bool
 |.str=>List UInt8
 |.unit=>Unit
 |.pair a b=>a.den×b.den
 |.arr _ t=>List t.den
 |.sl _ t=>List t.den
 |.ptr t=>t.den
 |.fn _ c=>c.den
 |.tree k=>Rec k
def jR:(k:Nat)->Rec k->(xq k).den×(xz k).den
 |0,x=>(x.op,x.n,x.kids,())
 |1,x=>(x.act,x.cost,x.var,x.n,(x.term.op,x.term.n,x.term.kids,()),x.jM,x.ui,x.bounds,())
 |_+2,_=>((),())
def wo:(k:Nat)->(xq k).den×(xz k).den->Rec k
 |0,y=>⟨y.1,y.2.1,y.2.2.1⟩
 |1,y=>⟨y.1,y.2.1,y.2.2.1,y.2.2.2.1,⟨y.2.2.2.2.1.1,y.2.2.2.2.1.2.1,y.2.2.2.2.1.2.2.1⟩,y.2.2.2.2.2.1,y.2.2.2.2.2.2.1,y.2.2.2.2.2.2.2.1⟩
 |_+2,_=>()
theorem Db:(k:Nat)->(y:(xq k).den×(xz k).den)->jR k (wo k y)=y
 |0,_=>rfl
 |1,_=>rfl
 |_+2,_=>rfl
end Go.Kz
namespace Go.Kz
def Ty.same:(a b:Ty)->Option (PLift (a=b))
 |.int k,.int j=>if h:k=j then some ⟨by rw[h]⟩ else none
 |.bool,.bool=>some ⟨rfl⟩
 |.str,.str=>some ⟨rfl⟩
 |.unit,.unit=>some ⟨rfl⟩
 |.pair a b,.pair c d=>
  match Ty.same a c with
  |some h=>match Ty.same b d with
   |some h'=>some ⟨by rw[h.down,h'.down]⟩
   |none=>none
  |none=>none
 |.arr n t,.arr m u=>if h:n=m then match Ty.same t u with
   |some h'=>some ⟨by rw[h,h'.down]⟩
   |none=>none
  else none
 |.sl o t,.sl p u=>if h:o=p then match Ty.same t u with
   |some h'=>some ⟨by rw[h,h'.down]⟩
   |none=>none
  else none
 |.ptr t,.ptr u=>match Ty.same t u with
   |some h'=>some ⟨by rw[h'.down]⟩
   |none=>none
 |.fn f c,.fn g d=>if h:f=g then match Ty.same c d with
   |some h'=>some ⟨by rw[h,h'.down]⟩
   |none=>none
  else none
 |.tree k,.tree j=>if h:k=j then some ⟨by rw[h]⟩ else none
 |_,_=>none
def Ty.size:Ty->Nat
 |.unit=>0
 |.pair a b=>a.size+b.size
 |.arr n t=>n*t.size
 |.tree k=>Da k
 |_=>1
def Ty.ro:Ty->Ty
 |.sl _ t=>.sl false t.ro
 |.pair a b=>.pair a.ro b.ro
 |.arr n t=>.arr n t.ro
 |.ptr t=>.ptr t.ro
 |.fn f c=>.fn f c.ro
 |t=>t
theorem Ty.Q6:(t:Ty)->t.ro.den=t.den
 |.int _=>rfl
 |.bool=>rfl
 |.str=>rfl
 |.unit=>rfl
 |.pair a b=>by simp only[Ty.ro,Ty.den,Ty.Q6 a,Ty.Q6 b]
 |.arr _ t=>by simp only[Ty.ro,Ty.den,Ty.Q6 t]
 |.sl _ t=>by simp only[Ty.ro,Ty.den,Ty.Q6 t]
 |.ptr t=>by simp only[Ty.ro,Ty.den,Ty.Q6 t]
 |.fn _ c=>by simp only[Ty.ro,Ty.den,Ty.Q6 c]
 |.tree _=>rfl
def Ty.kU(t:Ty)(d:t.den):t.ro.den:=cast (Ty.Q6 t).symm d
def Ty.zW:Ty->Bool
 |.sl o t=>!o&&t.zW
 |.pair a b=>a.zW&&b.zW
 |.arr _ t=>t.zW
 |.ptr t=>t.zW
 |.fn _ c=>c.zW
 |_=>true
def Ty.zero:(t:Ty)->Option t.den
 |.int _=>some (0:Int)
 |.bool=>some false
 |.str=>some ([]:List UInt8)
 |.unit=>some ()
 |.pair a b=>match a.zero,b.zero with
  |some x,some y=>some (x,y)
  |_,_=>none
 |.arr n t=>match t.zero with
  |some x=>some (List.replicate n x)
  |none=>none
 |.sl _ t=>some ([]:List t.den)
 |_=>none
def Sk.size:Sk->Nat
 |.leaf=>1
 |.unit=>0
 |.pair a b=>a.size+b.size
 |.arr n t=>n*t.size
 |.tree k=>Da k
def Ty.sk:Ty->Sk
 |.unit=>.unit
 |.pair a b=>.pair a.sk b.sk
 |.arr n t=>.arr n t.sk
 |.tree k=>.tree k
 |_=>.leaf
theorem AF:(k:Nat)->Da k=(Ty.pair (xq k) (xz k)).size
 |0=>rfl
 |1=>rfl
 |_+2=>rfl
theorem z52:(k:Nat)->(Ty.pair (xq k) (xz k)).zW=true
 |0=>rfl
 |1=>rfl
 |_+2=>rfl
def Ty.yV:Ty->Bool
 |.sl _ _=>false
 |.pair a b=>a.yV&&b.yV
 |.arr _ t=>t.yV
 |.ptr _ |.fn _ _ |.tree _=>false
 |_=>true
inductive Step where
 |fst|snd|idx (i:Int)
abbrev Path:=List Step
def idx{I:Type}(l:List I):Int->Option I
 |.ofNat n=>l[n]?
 |.negSucc _=>none
def qR{I:Type}(l:List I)(i:Int)(x:I):List I:=l.set i.toNat x
def wY{I:Type}(l:List I)(i:Int):Bool:=decide (0<=i)&&decide (i<(l.length:Int))
def qV{R:Type}(b:Bool)(x:Option R):Option R:=cond b x none
def room:Nat:=4294967296
def sub{I:Type}(l:List I)(a b:Int):List I:=(l.drop a.toNat).take (b.toNat-a.toNat)
variable {R:Type}
def wa(a b:Ty)(d:a.den)(k:b.den->Option R):Option R:=
 match Ty.same a b with
 |some h=>k (cast (Wm Ty.den h.down) d)
 |none=>none
def zR:(t:Ty)->t.den->Path->((u:Ty)->u.den->Option R)->Option R
 |.pair a _,(x,_),.fst::p,k=>zR a x p k
 |.pair _ b,(_,y),.snd::p,k=>zR b y p k
 |.arr _ t,l,.idx i::p,k=>(idx l i).bind λx=>zR t x p k
 |.sl true t,l,.idx i::p,k=>(idx l i).bind λx=>zR t x p k
 |t,d,[],k=>k t d
 |_,_,_::_,_=>none
def yT:(t:Ty)->t.den->Path->(u:Ty)->u.den->(t.den->Option R)->Option R
 |.pair a _,(x,y),.fst::p,u,e,k=>yT a x p u e λx'=>k (x',y)
 |.pair _ b,(x,y),.snd::p,u,e,k=>yT b y p u e λy'=>k (x,y')
 |.arr _ t,l,.idx i::p,u,e,k=>(idx l i).bind λx=>yT t x p u e λx'=>k (qR l i x')
 |.sl true t,l,.idx i::p,u,e,k=>(idx l i).bind λx=>yT t x p u e λx'=>k (qR l i x')
 |t,_,[],u,e,k=>wa u t e k
 |_,_,_::_,_,_,_=>none
inductive z7 where
 |data (t:Ty) (d:t.den)
 |za
 |ref (id:Nat) (p:Path) (ep:Nat)
 |view (id:Nat) (p:Path) (ep:Nat) (a b:Int)
 |zw (id:Nat) (p:Path)
 |jV (id:Nat) (p:Path) (ep:Nat)
 |qF (id:Nat)
 |nv (pt:Bool) (id:Nat) (p:Path) (ep:Nat)
 |qW (f:Nat) (c:z7)
 |ZU (t:Nat) (c:z7)
 |agg (c:z7)
 |jD (c:z7)
 |pr (a b:z7)
 |un
def z7.sk:z7->Sk
 |.data t _=>t.sk
 |.agg c=>c.sk
 |.jD c=>c.sk
 |.pr a b=>.pair a.sk b.sk
 |.un=>.unit
 |_=>.leaf
inductive PB where
 |one (p:Path)|low (d:Int)
inductive Obj where
 |row (t:Ty) (l:List t.den) (ep:Nat)
 |cell (a:z7)
 |map (kt vt:Ty) (m:List (kt.den×vt.den))
 |nest (t:Ty) (l:List t.den) (e i:Nat) (hole:Option PB)
structure St where
 zy:Nat->Option z7
 z6:Nat->Option Obj
 next:Nat
def Y4{I:Type}(f:Nat->Option I)(i:Nat)(v:Option I):Nat->Option I:=λj=>cond (Nat.beq j i) v (f j)
def St.set(σ:St)(i:Nat)(v:z7):St:={ σ with zy:=Y4 σ.zy i (some v) }
def St.gj(σ:St):Option Nat->St
 |some i=>{ σ with zy:=Y4 σ.zy i none }
 |none=>σ
def St.setObj(σ:St)(i:Nat)(o:Obj):St:={ σ with z6:=Y4 σ.z6 i (some o) }
def St.kill(σ:St)(i:Nat):St:={ σ with z6:=Y4 σ.z6 i none }
def jy:(t:Ty)->t.den->z7
 |.pair a b,(x,y)=>.pr (.data a x) (jy b y)
 |_,_=>.un
def gD:z7->Path->(z7->Option R)->Option R
 |a,[],k=>k a
 |.agg c,s::p,k=>gD c (s::p) k
 |.pr a _,.fst::p,k=>gD a p k
 |.pr _ b,.snd::p,k=>gD b p k
 |.data t d,s::p,k=>zR t d (s::p) λu e=>k (.data u e)
 |_,_,_=>none
def vP:Ty->Path->Option Ty
 |t,[]=>some t
 |.pair a _,.fst::p=>vP a p
 |.pair _ b,.snd::p=>vP b p
 |.arr _ t,.idx _::p=>vP t p
 |_,_=>none
def BS(t:Ty)(p:Path):z7->Bool
 |.data u _=>match vP t p with
  |some v=>(Ty.same v u).isSome
  |none=>false
 |_=>false
def qp(new:z7):(t:Ty)->t.den->Path->(z7->Option R)->Option R
 |.pair a b,(x,y),[.fst],k=>k (.pr new (jy b y))
 |.pair a b,(x,y),.fst::s::p,k=>qp new a x (s::p) λu=>k (.pr (.agg u) (jy b y))
 |.pair a b,(x,y),.snd::p,k=>qp new b y p λu=>k (.pr (.data a x) u)
 |_,_,_,_=>none
def PT(new:z7)(t:Ty)(d:t.den)(p:Path)(k:z7->Option R):Option R:=match new with
 |.data u e=>yT t d p u e λd=>k (.data t d)
 |_=>none
def w6(new:z7):z7->Path->(z7->Option R)->Option R
 |_,[],k=>k new
 |.agg c,s::p,k=>w6 new c (s::p) λc=>k (.agg c)
 |.pr a b,.fst::p,k=>w6 new a p λa=>k (.pr a b)
 |.pr a b,.snd::p,k=>w6 new b p λb=>k (.pr a b)
 |.data t d,s::p,k=>cond (BS t (s::p) new) (PT new t d (s::p) k)
   (qp new t d (s::p) λu=>cond (u.sk.same t.sk) (k (.agg u)) none)
 |_,_,_=>none
def AP(t:Ty)(l:List t.den)(p:Path)(k:(u:Ty)->u.den->Option R):Option R:=zR (.sl true t) l p k
def p7(σ:St)(id:Nat)(p:Path)(ep:Nat)(k:(u:Ty)->List u.den->Option R):Option R:=
 match σ.z6 id with
 |some (.row t l e)=>cond (Nat.beq e ep) (AP t l p λu d=>match u,d with
  |.sl true v,l=>k v l
  |_,_=>none) none
 |_=>none
def kZ(σ:St)(id:Nat)(p:Path)(ep:Nat)(k:(u:Ty)->u.den->Option R):Option R:=
 match σ.z6 id with
 |some (.row t l e)=>cond (Nat.beq e ep) (AP t l p k) none
 |_=>none
def z7.kI:z7->Bool
 |.jD _=>true
 |_=>false
def z7.kp:z7->Bool
 |.jD (.agg _)=>true
 |.jD (.qF _)=>true
 |_=>false
def z7.cont:z7->Option z7
 |.jD (.agg c)=>some (.agg c)
 |.jD (.qF i)=>some (.qF i)
 |.jD _=>none
 |a=>some a
def uD(σ:St)(id:Nat)(p:Path)(k:z7->Option R):Option R:=
 match σ.z6 id with
 |some (.cell a)=>match a.cont with
  |some x=>gD x p k
  |none=>none
 |_=>none
def VD(σ:St)(id:Nat)(p:Path)(k:z7->Option R):Option R:=
 match σ.z6 id with
 |some (.cell a)=>cond a.kI none (gD a p k)
 |_=>none
def Hr:Bool->Path->Nat->Nat->Nat
 |false,[],e,_=>e
 |_,_,_,i=>i
def z0s(h:Option PB)(p:Path)(x:Option R):Option R:=match h,p with
 |none,_=>x
 |some (.low d),.idx j::_=>qV (decide (d<=j)) x
 |_,_=>none
def pI(σ:St)(pt:Bool)(id:Nat)(p:Path)(ep:Nat)(k:(u:Ty)->u.den->Option R):Option R:=
 match σ.z6 id with
 |some (.nest t l e i h)=>cond (Nat.beq (Hr pt p e i) ep) (z0s h p (AP t l p k)) none
 |_=>none
def ZN(σ:St)(id:Nat)(p:Path)(ep:Nat)(k:(v:Ty)->List v.den->Option R):Option R:=
 pI σ false id p ep λu d=>match u,d with
  |.sl true v,l=>k v l
  |_,_=>none
def kO(a b:Ty)(d:a.den)(k:b.den->Option R):Option R:=
 match a,b,d,k with
 |.sl false (.tree j),.sl false (.pair x y),l,k=>wa (.sl false (.pair (xq j) (xz j))) (.sl false (.pair x y)) (List.map (jR j) l) k
 |.sl false (.pair x y),.sl false (.tree j),l,k=>wa (.sl false (.pair x y)) (.sl false (.pair (xq j) (xz j))) l λl=>k (List.map (wo j) l)
 |a,b,d,k=>wa a b d k
def FC:(t:Ty)->(t.den->Option R)->Option R
 |.sl _ _,k=>k []
 |_,_=>none
def asData(σ:St):Nat->(a:z7)->(t:Ty)->(t.den->Option R)->Option R
 |0,_,_,_=>none
 |_+1,.data t' d,t,k=>kO t' t d k
 |_+1,.za,t,k=>cond t.zW (FC t k) none
 |_+1,.ref id p ep,t,k=>p7 σ id p ep λv l=>kO (Ty.ro (.sl false v)) t (Ty.kU (.sl false v) l) k
 |_+1,.view id p ep a b,t,k=>p7 σ id p ep λv l=>kO (Ty.ro (.sl false v)) t (Ty.kU (.sl false v) (sub l a b)) k
 |_+1,.nv false id p ep,t,k=>ZN σ id p ep λv l=>kO (Ty.ro (.sl false v)) t (Ty.kU (.sl false v) l) k
 |n+1,.zw id p,.ptr t,k=>uD σ id p λa=>asData σ n a t k
 |_+1,.jV id p ep,.ptr t,k=>kZ σ id p ep λu d=>wa u.ro t (Ty.kU u d) k
 |n+1,.qW f c,.fn g t,k=>cond (Nat.beq f g) (asData σ n c t k) none
 |n+1,.agg c,t,k=>asData σ n c t k
 |n+1,.pr a b,.pair t u,k=>asData σ n a t λx=>asData σ n b u λy=>k (x,y)
 |_+1,.un,.unit,k=>k ()
 |_+1,_,_,_=>none
def qO:Nat->(a:z7)->(u:Ty)->St->(u.den->St->Option R)->Option R
 |0,_,_,_,_=>none
 |_+1,.data t d,u,σ,k=>kO t u d λd=>k d σ
 |_+1,.za,u,σ,k=>FC u λd=>k d σ
 |_+1,.ref id [] ep,u,σ,k=>
  match σ.z6 id with
  |some (.row t l e)=>cond (Nat.beq e ep)
   (match u,k with
    |.sl true v,k=>wa (.sl true t) (.sl true v) l λd=>k d (σ.kill id)
    |.sl false v,k=>kO (Ty.ro (.sl false t)) (.sl false v) (Ty.kU (.sl false t) l) λd=>k d (σ.kill id)
    |_,_=>none) none
  |_=>none
 |_+1,.nv false id [] ep,u,σ,k=>
  match σ.z6 id with
  |some (.nest t l e _ none)=>cond (Nat.beq e ep)
   (match u,k with
    |.sl false v,k=>kO (Ty.ro (.sl false t)) (.sl false v) (Ty.kU (.sl false t) l) λd=>k d (σ.kill id)
    |_,_=>none) none
  |_=>none
 |n+1,.zw id [],.ptr u,σ,k=>
  match σ.z6 id with
  |some (.cell a)=>cond a.kI none (qO n a u (σ.kill id) k)
  |_=>none
 |n+1,.qW f c,.fn g t,σ,k=>cond (Nat.beq f g) (qO n c t σ k) none
 |n+1,.agg c,u,σ,k=>qO n c u σ k
 |n+1,.pr a b,.pair t u,σ,k=>qO n a t σ λx σ=>qO n b u σ λy σ=>k (x,y) σ
 |_+1,.un,.unit,σ,k=>k () σ
 |_+1,_,_,_,_=>none
def vI:Ty->Option z7×Option z7
 |.sl _ _=>(some .za,none)
 |.unit=>(match (Ty.unit).zero,(Ty.unit).yV with
  |some z,true=>some (.data .unit z)
  |_,_=>none,some .un)
 |.pair a b=>
  let c:=match (vI a).1,(vI b).2 with
   |some x,some y=>some (.pr x y)
   |_,_=>none
  (match Ty.zero (.pair a b),(Ty.pair a b).yV with
  |some z,true=>some (.data (.pair a b) z)
  |_,_=>c.map .agg,c)
 |.arr n t=>(match (Ty.arr n t).zero,(Ty.arr n t).zW with
  |some z,true=>some (.data (.arr n t) z)
  |_,_=>none,none)
 |t=>(match t.zero,t.yV with
  |some z,true=>some (.data t z)
  |_,_=>none,none)
def uF(t:Ty):Option z7:=(vI t).1
def Qk(t:Ty):Option z7:=(vI t).2
def zj:(t:Ty)->t.den->Nat->z7×List Obj
 |.sl true t,l,n=>(.ref n [] 0,[.row t l 0])
 |.pair a b,(x,y),n=>
  cond (Ty.zW (.pair a b)) (.data (.pair a b) (x,y),[])
   (let u:=zj a x n
    let v:=zr b y (n+u.2.length)
    (.agg (.pr u.1 v.1),u.2++v.2))
 |t,d,_=>(.data t d,[])
where zr:(t:Ty)->t.den->Nat->z7×List Obj
 |.pair a b,(x,y),n=>
   (let u:=zj a x n
    let v:=zr b y (n+u.2.length)
    (.pr u.1 v.1,u.2++v.2))
 |_,_,_=>(.un,[])
end Go.Kz
namespace Go.Kz
structure q5j where
 n:Nat
 t:Ty
 l:List t.den
def tab0:List Int:=[0,1,56,2,57,49,28,3,61,58,42,50,38,29,17,4,62,47,59,36,45,43,51,22,53,39,33,30,24,18,12,5,63,55,48,27,60,41,37,16,46,35,44,21,52,32,23,11,54,26,40,15,34,20,31,10,25,14,19,9,13,8,7,6]
def tab1:List Int:=[1,10,100,1000,10000,100000,1000000,10000000,100000000,1000000000,10000000000,100000000000,1000000000000,10000000000000,100000000000000,1000000000000000,10000000000000000,100000000000000000,1000000000000000000,10000000000000000000]
def tab:Nat->Option q5j
 |0=>some ⟨64,.int .u8,tab0⟩
 |1=>some ⟨20,.int .u64,tab1⟩
 |_=>none
theorem S3{I:Type}:∃f:List I->Int->Option I,f=idx:=⟨_,rfl⟩
noncomputable def zlk{I:Type}:List I->Int->Option I:=Classical.choose S3
theorem zeb{I:Type}(l:List I)(i:Int):zlk l i=idx l i:=by
 have:(zlk:List I->Int->Option I)=idx:=Classical.choose_spec S3;rw[this]
end Go.Kz
namespace Go.Kz
noncomputable section
variable {R:Type}
inductive kG where
 |val (t:Ty)|ref (i:Nat)|zw (i:Nat)|qW (f:Nat) (c:kG)|agg (c:kG)|pr (a b:kG)|un
@[reducible] def kG.den:kG->Type
 |.val t=>t.den
 |.ref _=>Unit
 |.zw _=>Unit
 |.qW _ c=>c.den
 |.agg c=>c.den
 |.pr a b=>a.den×b.den
 |.un=>Unit
@[reducible] def jY:List Ty->Type
 |[]=>Unit
 |[t]=>t.den
 |t::u::ts=>t.den×jY (u::ts)
inductive zC where
 |val (t:Ty)|za|ref (id:Nat)|view (id:Nat)|zw (id:Nat) (p:Path)|qF (id:Nat)|nv (id:Nat)|nvi (id:Nat)|qW (f:Nat) (c:zC)|ZU (t:Nat) (c:zC)|agg (c:zC)|pr (a b:zC)|un
@[reducible] def zC.den:zC->Type
 |.val t=>t.den
 |.view _=>Int×Int
 |.nvi _=>Int
 |.qW _ c=>c.den
 | .ZU _ c=>c.den
 |.agg c=>c.den
 |.pr a b=>a.den×b.den
 |_=>Unit
def zC.mk:(p:zC)->p.den->z7
 |.val t,d=>.data t d
 |.za,_=>.za
 |.ref id,_=>.ref id [] 0
 |.view id,d=>.view id [] 0 d.1 d.2
 |.zw id p,_=>.zw id p
 |.qF id,_=>.qF id
 |.nv id,_=>.nv false id [] 0
 |.nvi id,d=>.nv false id [.idx d] 0
 |.qW f c,d=>.qW f (c.mk d)
 | .ZU t c,d=>.ZU t (c.mk d)
 |.agg c,d=>.agg (c.mk d)
 |.pr a b,d=>.pr (a.mk d.1) (b.mk d.2)
 |.un,_=>.un
def z4g:Step->Step->Bool
 |.fst,.fst=>true
 |.snd,.snd=>true
 |_,_=>false
def Di:Path->Path->Bool
 |[],[]=>true
 |a::p,b::q=>z4g a b&&Di p q
 |_,_=>false
def zC.take:(p:zC)->z7->(p.den->Option R)->Option R
 |.val t,.data u d,k=>wa u t d k
 |.za,.za,k=>k ()
 |.ref id,.ref vT [] ep,k=>cond (Nat.beq id vT&&Nat.beq ep 0) (k ()) none
 |.view id,.view vT [] ep a b,k=>cond (Nat.beq id vT&&Nat.beq ep 0) (k (a,b)) none
 |.zw id p,.zw vT p',k=>cond (Nat.beq id vT&&Di p p') (k ()) none
 |.qF id,.qF vT,k=>cond (Nat.beq id vT) (k ()) none
 |.nv id,.nv false vT [] ep,k=>cond (Nat.beq id vT&&Nat.beq ep 0) (k ()) none
 |.nvi id,.nv false vT [.idx i] ep,k=>cond (Nat.beq id vT&&Nat.beq ep 0) (k i) none
 |.qW f c,.qW g d,k=>cond (Nat.beq f g) (c.take d k) none
 | .ZU f c,.ZU g d,k=>cond (Nat.beq f g) (c.take d k) none
 |.agg c,.agg d,k=>c.take d k
 |.pr a b,.pr x y,k=>a.take x λd=>b.take y λe=>k (d,e)
 |.un,.un,k=>k ()
 |_,_,_=>none
inductive yX where
 |row (t:Ty)|cell (p:zC)|map (kt vt:Ty)|nest (t:Ty)|iter (id:Nat)|W7 (p:zC)|low (t:Ty)
@[reducible] def yX.den:yX->Type
 |.row t=>List t.den
 |.cell p=>p.den
 |.map kt vt=>List (kt.den×vt.den)
 |.nest t=>List t.den
 |.iter _=>Int×List Int×Int
 | .W7 p=>p.den
 |.low t=>List t.den×Int
def xZ(id:Nat)(n:Int)(left:List Int)(cur:Int):z7:=.jD (.pr (.qF id) (.pr (.data (.int .i64) n) (.pr (.data (.sl false (.int .i64)) left) (.pr (.data (.int .i64) cur) .un))))
def yX.mk:(o:yX)->o.den->Obj
 |.row t,l=>.row t l 0
 |.cell p,d=>.cell (p.mk d)
 |.map kt vt,m=>.map kt vt m
 |.nest t,l=>.nest t l 0 0 none
 |.iter id,d=>.cell (xZ id d.1 d.2.1 d.2.2)
 | .W7 p,d=>.cell (.jD (p.mk d))
 |.low t,d=>.nest t d.1 0 0 (some (.low d.2))
def zik(kt vt Xv X8:Ty)(m:List (kt.den×vt.den))(k:List (Xv.den×X8.den)->Option R):Option R:=
 match Ty.same kt Xv,Ty.same vt X8 with
 |some h,some h'=>k (cast (by rw[h.down,h'.down]) m)
 |_,_=>none
def yX.take:(o:yX)->Obj->(o.den->Option R)->Option R
 |.row t,.row u l ep,k=>cond (Nat.beq ep 0) (wa (.sl true u) (.sl true t) l k) none
 |.cell p,.cell a,k=>p.take a k
 |.map kt vt,.map Xv X8 m,k=>zik Xv X8 kt vt m k
 |.nest t,.nest u l e i none,k=>cond (Nat.beq e 0&&Nat.beq i 0) (wa (.sl true u) (.sl true t) l k) none
 |.iter id,.cell (.jD (.pr (.qF vT) (.pr (.data (.int .i64) n) (.pr (.data (.sl false (.int .i64)) left) (.pr (.data (.int .i64) cur) .un))))),k=>cond (Nat.beq id vT) (k (n,left,cur)) none
 | .W7 p,.cell (.jD a),k=>p.take a k
 |.low t,.nest u l e i (some (.low d)),k=>cond (Nat.beq e 0&&Nat.beq i 0) (wa (.sl true u) (.sl true t) l λl=>k (l,d)) none
 |_,_,_=>none
structure wQ where
 zy:List (Nat×zC)
 z6:List yX
@[reducible] def Qg:List (Nat×zC)->Type
 |[]=>Unit
 |(_,p)::l=>p.den×Qg l
@[reducible] def WD:List yX->Type
 |[]=>Unit
 |o::l=>o.den×WD l
@[reducible] def wQ.den (f:wQ):Type:=Qg f.zy×WD f.z6
def vb:(l:List (Nat×zC))->Qg l->List (Nat×z7)
 |[],_=>[]
 |(i,p)::l,d=>(i,p.mk d.1)::vb l d.2
def wO:(l:List yX)->WD l->List Obj
 |[],_=>[]
 |o::l,d=>o.mk d.1::wO l d.2
def PS:(l:List (Nat×zC))->List (Nat×z7)->(Qg l->Option R)->Option R
 |[],[],k=>k ()
 |(i,p)::l,(j,a)::m,k=>cond (Nat.beq i j) (p.take a λd=>PS l m λe=>k (d,e)) none
 |_,_,_=>none
def K5:(l:List yX)->List Obj->(WD l->Option R)->Option R
 |[],[],k=>k ()
 |o::l,x::m,k=>o.take x λd=>K5 l m λe=>k (d,e)
 |_,_,_=>none
def wQ.take(f:wQ)(sl:List (Nat×z7))(os:List Obj)(k:f.den->Option R):Option R:=
 PS f.zy sl λd=>K5 f.z6 os λe=>k (d,e)
inductive Callee where
 |pure (args:kG) (res:List Ty) (F:args.den->Option (jY res))
 |mut (fin:wQ) (jf:List Nat) (qv:wQ) (F:fin.den->Option qv.den)
def fits:kG->z7->Bool
 |.val (.fn f _),.qW g _=>Nat.beq f g
 |.val (.fn f _),.data (.fn g _) _=>Nat.beq f g
 |.val t,.data u _=>(Ty.same t u).isSome
 |.qW f c,.qW g d=>Nat.beq f g&&fits c d
 |.agg c,.agg d=>fits c d
 |.pr p q,.pr x y=>fits p x&&fits q y
 |_,_=>true
def z1m:zC->z7->Bool
 |.val (.fn f _),.qW g _=>Nat.beq f g
 |.val (.fn f _),.data (.fn g _) _=>Nat.beq f g
 |.val t,.data u _=>(Ty.same t u).isSome
 |.val _,.qW _ _=>false
 |.val _,_=>true
 |.za,.za=>true
 |.ref _,.ref _ _ _=>true
 |.view _,.view _ _ _ _ _=>true
 |.zw _ _,.zw _ _=>true
 |.qF _,.qF _=>true
 |.nv _,.nv false _ [] _=>true
 |.nvi _,.nv false _ (_::_) _=>true
 |.qW f c,.qW g d=>Nat.beq f g&&z1m c d
 | .ZU f c,.ZU g d=>Nat.beq f g&&z1m c d
 |.agg c,.agg d=>z1m c d
 |.pr p q,.pr x y=>z1m p x&&z1m q y
 |.un,.un=>true
 |_,_=>false
def zu1:List (Nat×zC)->z7->Bool
 |[],.un=>true
 |(_,p)::l,.pr a c=>z1m p a&&zu1 l c
 |_,_=>false
def Callee.fits:Callee->z7->Bool
 |.pure p _ _,a=>Go.Kz.fits p a
 |.mut fin _ _ _,a=>zu1 fin.zy a
def WC(a:z7):List Callee->Option Callee
 |[]=>none
 |c::l=>cond (c.fits a) (some c) (WC a l)
abbrev Y2:=List (Nat×Nat)
def yN{I:Type}:List (Nat×I)->Nat->Option I
 |[],_=>none
 |(i,v)::l,j=>cond (Nat.beq i j) (some v) (yN l j)
def zT{I:Type}:List I->Nat->Option I
 |[],_=>none
 |x::_,0=>some x
 |_::l,n+1=>zT l n
def OW:Y2->Nat->Bool
 |[],_=>false
 |(_,v)::l,x=>cond (Nat.beq v x) true (OW l x)
def Uo(b:Y2)(i id:Nat)(k:Y2->Option R):Option R:=
 match yN b i with
 |some j=>cond (Nat.beq j id) (k b) none
 |none=>cond (OW b id) none (k ((i,id)::b))
def jE(σ:St):(p:kG)->(a:z7)->Y2->(p.den->Y2->Option R)->Option R
 |.val t,a,b,k=>asData σ 20 a t λd=>k d b
 |.ref i,.ref id [] ep,b,k=>
  match σ.z6 id with
  |some (.row _ _ e)=>cond (Nat.beq e ep) (Uo b i id λb=>k () b) none
  |_=>none
 |.zw i,.zw id [],b,k=>Uo b i id λb=>k () b
 |.qW f c,.qW g d,b,k=>cond (Nat.beq f g) (jE σ c d b k) none
 |.agg c,.agg d,b,k=>jE σ c d b k
 |.pr p q,.pr x y,b,k=>jE σ p x b λdx b=>jE σ q y b λdy b=>k (dx,dy) b
 |.un,.un,b,k=>k () b
 |_,_,_,_=>none
def St.only(σ:St)(p:Nat->Bool):St:={ σ with z6:=λi=>cond (p i) (σ.z6 i) none }
def St.gz(σ:St)(n:Nat):List Obj->St
 |[]=>σ
 |o::os=>(σ.setObj n o).gz (n+1) os
def zK:(ts:List Ty)->jY ts->Nat->z7×List Obj
 |[],_,_=>(.jD .un,[])
 |[t],d,n=>zj t d n
 |t::u::ts,(d,ds),n=>
  let x:=zj t d n;let y:=chain (u::ts) ds (n+x.2.length)
  (.jD (.pr x.1 y.1),x.2++y.2)
where chain:(ts:List Ty)->jY ts->Nat->z7×List Obj
 |[],_,_=>(.un,[])
 |[t],d,n=>let x:=zj t d n;(.pr x.1 .un,x.2)
 |t::u::ts,(d,ds),n=>
  let x:=zj t d n;let y:=chain (u::ts) ds (n+x.2.length)
  (.pr x.1 y.1,x.2++y.2)
inductive Conv where
 |row (t:Ty)|dat (t:Ty)|W7|low|fro|nst (t:Ty)
structure Cut where
 live:List Nat
 conv:List (Nat×Option Path×Conv)
def noP:Path->Bool
 |[]=>true
 |_=>false
def UR:Option PB->Path->Bool
 |none,_=>true
 |some (.low _),_=>true
 |some (.one _),_=>false
def z7.ids:z7->List Nat
 |.ref i _ _ |.view i _ _ _ _ |.zw i _ |.jV i _ _ |.qF i |.nv _ i _ _=>[i]
 |.qW _ c | .ZU _ c |.agg c |.jD c=>c.ids
 |.pr a b=>a.ids++b.ids
 |_=>[]
def z7.wG(z6:Nat->Option Obj)(Y:Nat->Option Nat):z7->Option z7
 |.ref i p ep=>match p,z6 i with
  |[],some (.row _ _ e)=>cond (Nat.beq e ep) ((Y i).map λj=>.ref j [] 0) none
  |_,_=>none
 |.view i p ep a b=>match p,z6 i with
  |[],some (.row _ _ e)=>cond (Nat.beq e ep) ((Y i).map λj=>.view j [] 0 a b) none
  |_,_=>none
 |.zw i p=>(Y i).map λj=>.zw j p
 |.qF i=>(Y i).map λj=>.qF j
 |.nv pt i p ep=>match pt,z6 i with
  |false,some (.nest _ _ e i' h)=>cond (UR h p&&Nat.beq (Hr false p e i') ep) ((Y i).map λj=>.nv false j p 0) none
  |_,_=>none
 |.qW f c=>(c.wG z6 Y).map λc=>.qW f c
 | .ZU f c=>(c.wG z6 Y).map λc=>.ZU f c
 |.agg c=>(c.wG z6 Y).map λc=>.agg c
 |.pr a b=>match a.wG z6 Y,b.wG z6 Y with
  |some a,some b=>some (.pr a b)
  |_,_=>none
 |.un=>some .un
 |.za=>some .za
 |.data t d=>some (.data t d)
 |_=>none
def Zd(z6:Nat->Option Obj)(Y:Nat->Option Nat):z7->Option z7
 |.jD c=>(c.wG z6 Y).map .jD
 |a=>a.wG z6 Y
def Obj.wG(z6:Nat->Option Obj)(Y:Nat->Option Nat):Obj->Option Obj
 |.row t l _=>some (.row t l 0)
 |.cell a=>(Zd z6 Y a).map .cell
 |.map k v m=>some (.map k v m)
 |.nest t l _ _ h=>cond (UR h []) (some (.nest t l 0 0 h)) none
def qs(x:Nat):List Nat->Bool
 |[]=>false
 |y::l=>cond (Nat.beq y x) true (qs x l)
def qI(x:Nat):List Nat->Nat->Option Nat
 |[],_=>none
 |y::l,i=>cond (Nat.beq y x) (some i) (qI x l (i+1))
def wc(z6:Nat->Option Obj):Nat->List Nat->List Nat->List Nat
 |0,_,seen=>seen
 |_+1,[],seen=>seen
 |n+1,x::todo,seen=>
  cond (qs x seen) (wc z6 n todo seen)
   (match z6 x with
    |some (.cell a)=>wc z6 n (a.ids++todo) (seen++[x])
    |_=>wc z6 n todo (seen++[x]))
def St.of(sl:List (Nat×z7))(os:List Obj):St:=⟨yN sl,zT os,os.length⟩
def Ji(z6:Nat->Option Obj)(Y:Nat->Option Nat):List (Nat×z7)->Option (List (Nat×z7))
 |[]=>some []
 |(i,a)::l=>match a.wG z6 Y,Ji z6 Y l with
  |some a,some l=>some ((i,a)::l)
  |_,_=>none
def VR(Y:Nat->Option Nat)(z6:Nat->Option Obj):List Nat->Option (List Obj)
 |[]=>some []
 |i::l=>match (z6 i).bind (·.wG z6 Y),VR Y z6 l with
  |some o,some l=>some (o::l)
  |_,_=>none
def QB(σ:St):List Nat->Option (List (Nat×z7))
 |[]=>some []
 |i::l=>match σ.zy i,QB σ l with
  |some a,some l=>some ((i,a)::l)
  |_,_=>none
def z7.val:z7->Bool
 |.agg (.pr _ _) |.agg .un=>true
 |.agg _ |.pr _ _ |.un |.jD _=>false
 |_=>true
def OL(σ:St)(x:z7)(k:z7->St->Option R):Option R:=match x with
 |.view id [] ep a b=>match σ.z6 id with
  |some (.row t l e)=>cond (Nat.beq e ep) (k (.ref id [] (e+1)) (σ.setObj id (.row t (sub l a b) (e+1)))) none
  |_=>none
 |x=>k x σ
def Wd(σ:St)(a:z7):Conv->(z7->St->Option R)->Option R
 |.row t,k=>match a with
  |.za=>cond t.zW (k (.ref σ.next [] 0) { σ.setObj σ.next (.row t [] 0) with next:=σ.next+1 }) none
  |a=>OL σ a k
 |.dat t,k=>cond (t.zW&&a.val&&a.sk.same t.sk) (qO 20 a t σ λd σ=>k (.data t d) σ) none
 | .W7,_=>none
 |.low,k=>match a with
  |.nv false id [] ep=>match σ.z6 id with
   |some (.nest t l e i none)=>cond (Nat.beq e ep) (qV (decide (0<l.length)) (k (.nv false id [] e) (σ.setObj id (.nest t l e i (some (.low 0)))))) none
   |some (.nest _ _ _ _ (some (.low _)))=>k a σ
   |_=>none
  |_=>none
 |.nst t,k=>match a with
  |.za=>k (.nv false σ.next [] 0) { σ.setObj σ.next (.nest t [] 0 0 none) with next:=σ.next+1 }
  |a=>k a σ
 |.fro,k=>match a with
  |.nv false id [] ep=>match σ.z6 id with
   |some (.nest (.sl true v) l e _ none)=>cond (Nat.beq e ep&&v.zW) (k (.ref σ.next [] 0) { (σ.kill id).setObj σ.next (.row (.sl false v) l 0) with next:=σ.next+1 }) none
   |_=>none
  |a=>k a σ
def zii(σ:St)(i:Nat)(k:St->Option R):Option R:=match σ.zy i with
 |some (.zw id _)=>match σ.z6 id with
  |some (.cell (.jD _))=>k σ
  |some (.cell a)=>cond (z7.jD a).kp (k (σ.setObj id (.cell (.jD a)))) none
  |_=>none
 |_=>none
def Wc:List (Nat×Option Path×Conv)->St->(St->Option R)->Option R
 |[],σ,k=>k σ
 |(i,none,c)::l,σ,k=>
  match σ.zy i with
  |some a=>cond a.val (Wd σ a c λa σ=>Wc l (σ.set i a) k) none
  |none=>none
 |(i,some p,c)::l,σ,k=>match c with
  | .W7=>zii σ i λσ=>Wc l σ k
  |c=>match σ.zy i with
   |some (.zw id _)=>VD σ id p λa=>cond a.val (Wd σ a c λa σ=>VD σ id [] λwhole=>w6 a whole p λwhole=>Wc l (σ.setObj id (.cell whole)) k) none
   |_=>none
def NN(l:List (Nat×z7))(σ:St)(k:List (Nat×z7)->List Obj->Option R):Option R:=
 let ids:=wc σ.z6 100 (l.flatMap λx=>x.2.ids) [];let Y:=λi=>qI i ids 0
 match Ji σ.z6 Y l,VR Y σ.z6 ids with
 |some l',some os=>k l' os
 |_,_=>none
def UN(cut:Cut)(σ:St)(k:List (Nat×z7)->List Obj->Option R):Option R:=
 Wc cut.conv σ λσ=>match QB σ cut.live with
  |some l=>NN l σ k
  |none=>none
def norm(cut:Cut)(σ:St)(k:St->Option R):Option R:=UN cut σ λsl os=>k (St.of sl os)
inductive vS where
 |normal|exit (id:Nat)|ret
abbrev CF:=(R:Type)->List (Nat×z7)->List Obj->(vS->St->Option R)->Option R
structure Ctx where
 fuel:Nat
 tt:Nat->Option Ty
 mt:Nat->Option (Ty×Ty)
 ntmps:Nat
 env:Nat->List Callee
 cut:Nat->Option Cut
 EX:Nat->Nat->Option Cut
 res:Cut
 own:Nat->Option Ty
 lp:Nat->Option CF
 eqs:Nat->Bool:=λ_=>false
 ct:Nat->Bool:=λ_=>false
 ms:Nat->String->Option (Nat×Option Nat):=λ_ _=>none
def DG(c:Ctx)(d:Option Nat)(t:Nat):Option Ty:=
 match d.bind c.own with
 |some u=>match c.tt t with
  |some v=>match Ty.same u.ro v.ro with
   |some _=>some u
   |none=>none
  |none=>none
 |none=>c.tt t
def zmw(c:Ctx)(d:Option Nat):Bool:=match d.bind c.own with
 |some (.sl false _)=>true
 |_=>false
def ev(σ:St):Operand->Option z7
 |.tmp t=>σ.zy t
 |.const (.int k n)=>cond (decide (k.min<=n)&&decide (n<=k.max)) (some (.data (.int k) n)) none
 |.const (.bool b)=>some (.data .bool b)
 |.const (.string s)=>cond (Nat.ble s.size 100000) (some (.data .str s.data.toList)) none
 |.const (.slice none 0 0)=>some .za
 |.func f=>some (.qW f .un)
 |.global g=>match tab g with
  |some e=>some (.data (.ptr (.arr e.n e.t)) e.l)
  |none=>none
 |_=>none
def I2(σ:St):List Operand->Option z7
 |[]=>some .un
 |x::l=>match ev σ x,I2 σ l with
  |some a,some c=>some (.pr a c)
  |_,_=>none
def kJ:z7->z7->z7
 |.pr a b,c=>.pr a (kJ b c)
 |_,c=>c
def z6y:z7->Bool
 |.zw _ _ |.jV _ _ _ |.data (.ptr _) _=>true
 |_=>false
def holds(σ:St):z7->Bool
 |.data (.ptr _) _=>true
 |.zw id _=>match σ.z6 id with
  |some (.cell _)=>true
  |_=>false
 |.jV id _ ep=>match σ.z6 id with
  |some (.row _ _ e)=>Nat.beq e ep
  |_=>false
 |.nv true id _ ep=>match σ.z6 id with
  |some (.nest _ _ _ i none)=>Nat.beq i ep
  |_=>false
 |_=>false
def yK:z7->Bool
 |.un=>true
 |.pr (.zw _ _) c=>yK c
 |.pr (.data (.ptr _) _) c=>yK c
 |_=>false
def St.qM(σ:St)(c:Ctx)(d:Option Nat)(v:z7)(k:St->Option R):Option R:=match d with
 |some i=>cond (Nat.blt i c.ntmps) (k (σ.set i v)) none
 |none=>k σ
def UA(op:BinOp)(k:IntKind)(a b:Int)(f:z7->Option R):Option R:=
 match op with
 |.add=>f (.data (.int k) (k.wrap (a+b)))
 |.sub=>f (.data (.int k) (k.wrap (a-b)))
 |.mul=>f (.data (.int k) (k.wrap (a*b)))
 |.quo=>cond (b == 0) none (f (.data (.int k) (k.wrap (a.tdiv b))))
 |.rem=>cond (b == 0) none (f (.data (.int k) (a.tmod b)))
 |.and=>f (.data (.int k) (k.wrap (BitVec.ofInt k.bits a &&& BitVec.ofInt k.bits b).toNat))
 |.or=>f (.data (.int k) (k.wrap (BitVec.ofInt k.bits a ||| BitVec.ofInt k.bits b).toNat))
 |.xor=>f (.data (.int k) (k.wrap (BitVec.ofInt k.bits a ^^^ BitVec.ofInt k.bits b).toNat))
 |.andNot=>f (.data (.int k) (k.wrap (BitVec.ofInt k.bits a &&& ~~~BitVec.ofInt k.bits b).toNat))
 |.eql=>f (.data .bool (a == b))
 |.neq=>f (.data .bool (a != b))
 |.lss=>f (.data .bool (decide (a<b)))
 |.leq=>f (.data .bool (decide (a<=b)))
 |.gtr=>f (.data .bool (decide (a>b)))
 |.geq=>f (.data .bool (decide (a ≥ b)))
 |_=>none
def Qp(op:BinOp)(k:IntKind)(a b:Int)(f:z7->Option R):Option R:=
 match op with
 |.shl=>cond (decide (b<0)) none (f (.data (.int k) (k.wrap (a*2 ^ (min b.toNat k.bits)))))
 |.shr=>cond (decide (b<0)) none (f (.data (.int k) (a.fdiv (2 ^ (min b.toNat k.bits)))))
 |_=>none
def GW:BinOp->Bool
 |.shl |.shr=>true
 |_=>false
def Px(op:BinOp)(a b:Bool)(f:z7->Option R):Option R:=
 match op with
 |.eql=>f (.data .bool (a == b))
 |.neq=>f (.data .bool (!(a == b)))
 |_=>none
def jG:Ty->Bool
 |.int _ |.bool |.str=>true
 |_=>false
def ja:(t:Ty)->t.den->t.den->Bool
 |.int _,a,b=>decide (a=b)
 |.bool,a,b=>a == b
 |.str,a,b=>decide (a=b)
 |_,_,_=>false
def kF{I:Type}(f:I->I->Bool):List I->List I->Bool
 |[],[]=>true
 |x::l,y::m=>cond (f x y) (kF f l m) false
 |_,_=>false
def yF:Ty->Bool
 |.unit=>true
 |.pair a b=>jG a&&yF b
 |.arr _ a=>jG a
 |_=>false
def Ui:(t:Ty)->t.den->t.den->Bool
 |.unit,_,_=>true
 |.pair a b,(x,u),(y,v)=>ja a x y&&Ui b u v
 |.arr _ a,x,y=>kF (ja a) x y
 |_,_,_=>false
def kTy:Ty->Bool
 |.pair a b=>yF (.pair a b)
 |t=>jG t
def GJ(t:Ty):t.den->t.den->Bool:=cond (jG t) (ja t) (Ui t)
def C8(op:BinOp)(b:Bool)(f:z7->Option R):Option R:=
 match op with
 |.eql=>f (.data .bool b)
 |.neq=>f (.data .bool (!b))
 |_=>none
def UX(op:BinOp)(a b:List UInt8)(f:z7->Option R):Option R:=
 match op with
 |.add=>qV (decide (a.length+b.length<=room)) (f (.data .str (a++b)))
 |.eql=>f (.data .bool (decide (a=b)))
 |.neq=>f (.data .bool (!decide (a=b)))
 |_=>none
def HR(σ:St)(q:Bool)(t:Option Ty)(op:BinOp)(x y:z7)(f:z7->Option R):Option R:=
 match x,y with
 |.data (.int k) a,.data (.int j) b=>cond (GW op) (Qp op k a b f) (match decEq k j with
   |isTrue _=>UA op k a b f
   |isFalse _=>none)
 |.data .bool a,.data .bool b=>match t with
  |some .bool=>Px op a b f
  |_=>none
 |.data .str a,.data .str b=>UX op a b f
 |x,y=>match t with
  |some u=>cond (q&&yF u&&x.val&&y.val) (asData σ 20 x u λd=>asData σ 20 y u λe=>C8 op (Ui u d e) f) none
  |none=>none
def unK(op:UnOp)(x:z7)(f:z7->Option R):Option R:=
 match op,x with
 |.not,.data .bool a=>f (.data .bool (!a))
 |.neg,.data (.int k) a=>f (.data (.int k) (k.wrap (0-a)))
 |.xor,.data (.int k) a=>f (.data (.int k) (k.wrap (BitVec.ofInt k.bits (if k.signed then -1 else k.max) ^^^ BitVec.ofInt k.bits a).toNat))
 |_,_=>none
def z0v(σ:St)(x:z7)(f:Int->Option R):Option R:=
 match x with
 |.za=>f 0
 |.data (.sl _ _) l=>f (l.length:Int)
 |.ref id p ep=>p7 σ id p ep λ_ l=>f (l.length:Int)
 |.view id p ep a b=>p7 σ id p ep λ_ _=>f (b-a)
 |.nv false id p ep=>ZN σ id p ep λ_ l=>f (l.length:Int)
 |_=>none
def jF{I Z:Type}(eq:I->I->Bool):List (I×Z)->I->Option Z
 |[],_=>none
 |(k,v)::m,x=>cond (eq x k) (some v) (jF eq m x)
def ve{I Z:Type}(eq:I->I->Bool):List (I×Z)->I->Z->List (I×Z)
 |[],x,y=>[(x,y)]
 |(k,v)::m,x,y=>cond (eq x k) ((k,y)::m) ((k,v)::ve eq m x y)
def gG{I Z:Type}(eq:I->I->Bool):List (I×Z)->I->Nat
 |[],_=>0
 |(k,_)::m,x=>cond (eq x k) 0 (gG eq m x+1)
def B4{I Z:Type}:List (I×Z)->Nat->Z->List (I×Z)
 |[],_,_=>[]
 |(k,_)::m,0,y=>(k,y)::m
 |e::m,n+1,y=>e::B4 m n y
def Xj(σ:St)(mt:Option (Ty×Ty))(a:z7)(f:(id:Nat)->(kt vt:Ty)->List (kt.den×vt.den)->Option R):Option R:=
 match a,mt with
 |.qF id,some (Xv,X8)=>match σ.z6 id with
  |some (.map kt vt m)=>cond ((Ty.same kt Xv).isSome&&(Ty.same vt X8).isSome&&kTy kt&&vt.yV) (f id kt vt m) none
  |_=>none
 |_,_=>none
def z3v:Ty->Ty
 |.tree k=>.pair (xq k) (xz k)
 |t=>t
def PR(σ:St)(u:Ty)(x:z7)(lo:Int)(hi:Option Int)(f:z7->Option R):Option R:=
 match x with
 |.za=>qV (decide (lo=0)&&decide (hi.getD 0=0)) (f .za)
 |.data (.sl false t) l=>cond ((z3v t).sk.same u.sk) (qV (decide (0<=lo)&&decide (lo<=hi.getD (l.length:Int))&&decide (hi.getD (l.length:Int)<=(l.length:Int))) (f (.data (.sl false t) (sub l lo (hi.getD (l.length:Int)))))) none
 |.ref id [] ep=>p7 σ id [] ep λt l=>cond (t.sk.same u.sk) (qV (decide (0<=lo)&&decide (lo<=hi.getD (l.length:Int))&&decide (hi.getD (l.length:Int)<=(l.length:Int))) (f (.view id [] ep lo (hi.getD (l.length:Int))))) none
 |_=>none
def zQ(g:Int->Int->Int)(k:IntKind)(x:Int):z7->(Int->Option R)->Option R
 |.un,f=>f x
 |.pr (.data (.int j) y) c,f=>match decEq k j with
  |isTrue _=>zQ g k (g x y) c f
  |isFalse _=>none
 |_,_=>none
def JK(x y:Int):Int:=if y>x then y else x
def xI(x y:Int):Int:=if y<x then y else x
def xL(σ:St)(id:Nat):Nat:=match σ.z6 id with
 |some (.nest _ _ _ i _)=>i
 |_=>0
def Zj(σ:St)(id:Nat):Bool:=match σ.z6 id with
 |some (.nest _ _ _ _ (some _))=>true
 |_=>false
def LI(σ:St)(id:Nat)(ep:Nat)(u:Ty)(i:Int)(f:z7->Option R):Option R:=
 match σ.z6 id with
 |some (.nest t l e n (some _))=>cond (Nat.beq e ep&&t.sk.same u.sk) (qV (wY l i) (f (.nv true id [.idx i] n))) none
 |_=>none
def zcr:(t:Ty)->t.den->z7
 |.tree k,x=>.data (.ptr (.pair (xq k) (xz k))) (jR k x)
 |t,d=>.data (.ptr t) d
def ux(σ:St)(u:Ty)(x:z7)(i:Int)(f:z7->Option R):Option R:=
 match x,u with
 |.data (.sl _ t) l,.sl _ u=>cond ((z3v t).sk.same u.sk) ((idx l i).bind λd=>f (zcr t d)) none
 |.data (.ptr (.arr n t)) l,.arr m u=>cond (Nat.beq n m&&t.sk.same u.sk) ((zlk l i).bind λd=>f (.data (.ptr t) d)) none
 |.ref id p ep,.sl _ u=>p7 σ id p ep λt l=>cond (t.sk.same u.sk) (qV (wY l i) (f (.jV id (p++[.idx i]) ep))) none
 |.view id p ep a b,.sl _ u=>p7 σ id p ep λt _=>cond (t.sk.same u.sk) (qV (decide (0<=i)&&decide (i<b-a)) (f (.jV id (p++[.idx (a+i)]) ep))) none
 |.nv false id p ep,.sl _ u=>cond (noP p&&Zj σ id) (LI σ id ep u i f) (ZN σ id p ep λt l=>cond (t.sk.same u.sk) (qV (wY l i) (f (.nv true id (p++[.idx i]) (xL σ id)))) none)
 |.zw id p,.arr m u=>uD σ id p λa=>match a with
  |.data (.arr n t) l=>cond (Nat.beq n m&&t.sk.same u.sk) (qV (wY l i) (f (.zw id (p++[.idx i])))) none
  |_=>none
 |.jV id p ep,.arr m u=>match p with
  |[]=>none
  |s::q=>kZ σ id (s::q) ep λa l=>match a,l with
   |.arr n t,l=>cond (Nat.beq n m&&t.sk.same u.sk) (qV (wY l i) (f (.jV id (s::q++[.idx i]) ep))) none
   |_,_=>none
 |_,_=>none
def ZR(σ:St)(x:z7)(f:z7->Option R):Option R:=
 match x with
 |.data (.ptr t) d=>f (.data t d)
 |.jV id p ep=>match p with
  |[]=>none
  |s::q=>kZ σ id (s::q) ep λu d=>f (.data u d)
 |.zw id p=>uD σ id p f
 |.nv true id p ep=>pI σ true id p ep λu d=>cond u.zW (f (.data u d)) (match u with
  |.sl true _=>f (.nv false id p ep)
  |_=>none)
 |_=>none
def GQ:Path->Option (Path×Int×Path)
 |[]=>none
 |s::p=>match GQ p with
  |some (q,j,r)=>some (s::q,j,r)
  |none=>match s with
   |.idx j=>some ([],j,p)
   |_=>none
def Zm:Path->Path->Bool
 |[],[]=>true
 |.fst::p,.fst::q=>Zm p q
 |.snd::p,.snd::q=>Zm p q
 |.idx i::p,.idx j::q=>decide (i=j)&&Zm p q
 |_,_=>false
def vj:Ty->Path->Option Ty
 |.sl true v,[]=>some v
 |.pair a _,.fst::p=>vj a p
 |.pair _ b,.snd::p=>vj b p
 |.arr _ t,.idx _::p=>vj t p
 |.sl true t,.idx _::p=>vj t p
 |_,_=>none
def F0(t:Ty):Path->Option Ty
 |.idx _::p=>vj t p
 |_=>none
def wF(σ:St)(a:z7)(v:Ty)(k:List v.den->St->Option R):Option R:=match a with
 |.za=>k [] σ
 |.ref id [] ep=>match σ.z6 id with
  |some (.row t l e)=>cond (Nat.beq e ep) (wa (.sl true t) (.sl true v) l λl=>k l (σ.kill id)) none
  |_=>none
 |_=>none
def Vx(σ:St)(id:Nat)(t:Ty)(l:List t.den)(e i:Nat)(p:Path)(a:z7)(f:St->Option R):Option R:=
 match F0 t p with
 |some v=>cond v.zW (wF σ a v λd σ=>yT (.sl true t) l p (.sl true v) d λl=>f (σ.setObj id (.nest t l e (i+1) none))) none
 |none=>none
def xF(σ:St)(id:Nat)(p:Path)(ep:Nat)(a:z7)(f:St->Option R):Option R:=
 match σ.z6 id with
 |some (.nest t l e i none)=>cond (Nat.beq i ep)
  (cond ((F0 t p).isSome) (Vx σ id t l e i p a f)
   (match GQ p with
    |some (s::p,j,q)=>zR (.sl true t) l (s::p) λv l1=>match v,l1 with
     |.sl true v,l1=>cond v.zW (zR (.sl true v) l1 (.idx j::q) λu _=>qO 20 a u σ λd σ=>match σ.z6 id with
      |some (.nest _ _ _ _ none)=>yT (.sl true v) l1 (.idx j::q) u d λl1=>yT (.sl true t) l (s::p) (.sl true v) l1 λl=>f (σ.setObj id (.nest t l e i none))
      |_=>none) none
     |_,_=>none
    |_=>none)) none
 |some (.nest t l e i (some (.one h)))=>cond (Nat.beq i ep) (qV (Zm p h) (Vx σ id t l e i p a f)) none
 |_=>none
def JL(σ:St)(x a:z7)(f:St->Option R):Option R:=
 match x with
 |.jV id p ep=>match p with
  |[]=>none
  |s::q=>kZ σ id (s::q) ep λu _=>qO 20 a u σ λd σ=>
   match σ.z6 id with
   |some (.row t l e)=>cond (Nat.beq e ep) (yT (.sl true t) l (s::q) u d λl=>f (σ.setObj id (.row t l e))) none
   |_=>none
 |.zw id p=>match σ.z6 id with
  |some (.cell whole)=>cond whole.kI none (gD whole p λold=>cond (old.sk.same a.sk) (w6 a whole p λwhole=>f (σ.setObj id (.cell whole))) none)
  |_=>none
 |.nv true id p ep=>xF σ id p ep a f
 |_=>none
def z7.zli:z7->Bool
 |.nv _ _ _ _=>true
 |_=>false
def tailD(σ:St)(t:Ty)(x:z7)(f:List t.den->Option R):Option R:=match x with
 |.nv false id p ep=>ZN σ id p ep λv l=>cond v.zW (kO (Ty.ro (.sl false v)) (.sl false t) (Ty.kU (.sl false v) l) f) none
 |x=>asData σ 20 x (.sl false t) f
def Jp(σ:St)(t:Ty)(x:z7)(f:List t.den->Option R):Option R:=cond (t.zW&&x.val) (tailD σ t x f) none
def HE(σ:St):z7->Option Ty
 |.data (.sl _ t) _=>some t
 |.ref id p ep=>p7 σ id p ep λt _=>some t
 |.view id p ep _ _=>p7 σ id p ep λt _=>some t
 |.nv false id p ep=>ZN σ id p ep λt _=>some t
 |_=>none
def Ty.gY:Ty->Bool
 |.sl true t=>t.gY
 |.pair a b=>a.gY&&b.gY
 |.arr _ t=>t.gY
 |t=>t.yV
def Nr(σ:St)(x:z7)(f:(t:Ty)->(id e i:Nat)->t.den->Option R):Option R:=match x with
 |.nv false id [] ep=>match σ.z6 id with
  |some (.nest t [d] e i none)=>cond (Nat.beq e ep&&t.gY) (f t id e i d) none
  |_=>none
 |_=>none
def uE(σ:St)(u:Ty)(s x:z7)(f:z7->St->Option R):Option R:=
 match s with
 |.za=>Nr σ x λt id e i d=>cond (t.sk.same u.sk) (f (.nv false id [] (e+1)) (σ.setObj id (.nest t [d] (e+1) (i+1) none))) none
 |.nv false id [] ep=>match σ.z6 id with
  |some (.nest t l e i none)=>cond (Nat.beq e ep&&t.sk.same u.sk) (Nr σ x λt' vT _ _ d=>cond (Nat.beq id vT) none (wa t' t d λd=>qV (decide (l.length+1<=room)) (f (.nv false id [] (e+1)) ((σ.kill vT).setObj id (.nest t (l++[d]) (e+1) (i+1) none))))) none
  |_=>none
 |_=>none
def pT(σ:St)(n:Nat)(u:Ty)(s x:z7)(f:z7->St->Option R):Option R:=
 match s with
 |.za=>cond x.zli (uE σ u .za x f)<|match HE σ x with
  |some t=>cond (t.sk.same u.sk) (Jp σ t x λm=>qV (decide (m.length<=room)) (f (.ref n [] 1) (σ.setObj n (.row t m 1)))) none
  |none=>none
 |.ref id [] ep=>match σ.z6 id with
  |some (.row t l e)=>cond (Nat.beq e ep&&t.sk.same u.sk) (Jp σ t x λm=>qV (decide (l.length+m.length<=room)) (f (.ref id [] (e+1)) (σ.setObj id (.row t (l++m) (e+1))))) none
  |_=>none
 |.view id [] ep a b=>match σ.z6 id with
  |some (.row t l e)=>cond (Nat.beq e ep&&t.sk.same u.sk) (Jp σ t x λm=>qV (decide ((sub l a b).length+m.length<=room)) (f (.ref id [] (e+2)) (σ.setObj id (.row t (sub l a b++m) (e+2))))) none
  |_=>none
 |.nv false id [] ep=>uE σ u (.nv false id [] ep) x f
 |.nv false id (q::p) ep=>match σ.z6 id with
  |some (.nest t l e i none)=>cond (Nat.beq i ep) (zR (.sl true t) l (q::p) λv l1=>match v,l1 with
   |.sl true v,l1=>cond (v.sk.same u.sk) (Jp σ v x λm=>qV (decide (l1.length+m.length<=room)) (f (.ref n [] 1) ((σ.setObj id (.nest t l e i (some (.one (q::p))))).setObj n (.row v (l1++m) 1)))) none
   |_,_=>none) none
  |_=>none
 |_=>none
def parts(σ:St)(t:Ty):List (Nat×Operand)->(List t.den->St->Option R)->Option R
 |[],k=>k [] σ
 |(_,x)::l,k=>match ev σ x with
  |some a=>cond a.val (qO 20 a t σ λd σ=>parts σ t l λds σ=>k (d::ds) σ) none
  |none=>none
def V3:Ty->Bool
 |.pair t (.pair (.sl true v) .unit)=>t.zW&&v.zW
 |.sl true v=>v.zW
 |_=>false
def ZT(σ:St)(a:z7)(u:Ty)(k:u.den->St->Option R):Option R:=match a,u,k with
 |.agg (.pr x (.pr y .un)),.pair t (.pair (.sl true v) .unit),k=>cond (t.zW&&v.zW&&x.val) (qO 20 x t σ λd σ=>wF σ y v λl σ=>k (d,l,()) σ) none
 |a,.sl true v,k=>cond v.zW (wF σ a v k) none
 |_,_,_=>none
def gp(σ:St):Ty->Nat->List (Nat×Operand)->Option z7
 |.unit,_,[]=>some .un
 |.pair a b,i,[]=>match uF a,gp σ b (i+1) []with
  |some z,some c=>some (.pr z c)
  |_,_=>none
 |.pair a b,i,(j,x)::l=>cond (Nat.beq i j)
   (match ev σ x,gp σ b (i+1) l with
    |some v,some c=>cond v.val (some (.pr v c)) none
    |_,_=>none)
   (match uF a,gp σ b (i+1) ((j,x)::l) with
    |some z,some c=>some (.pr z c)
    |_,_=>none)
 |_,_,_=>none
def qg(t:Ty):z7->(List t.den->Option R)->Option R
 |.un,k=>k []
 |.pr (.data u d) c,k=>wa u t d λd=>qg t c λl=>k (d::l)
 |_,_=>none
def vL(σ:St)(u:Ty):Nat->Nat->List (Nat×Operand)->(List u.den->Option R)->Option R
 |0,_,[],k=>k []
 |n+1,i,[],k=>match u.zero with
  |some z=>vL σ u n (i+1) [] λl=>k (z::l)
  |none=>none
 |n+1,i,(j,x)::ps,k=>cond (Nat.beq i j)
   (match ev σ x with
    |some (.data t d)=>wa t u d λd=>vL σ u n (i+1) ps λl=>k (d::l)
    |_=>none)
   (match u.zero with
    |some z=>vL σ u n (i+1) ((j,x)::ps) λl=>k (z::l)
    |none=>none)
 |0,_,_::_,_=>none
def uA:Nat->List (Nat×Operand)->Bool
 |_,[]=>true
 |i,(j,_)::l=>Nat.beq i j&&uA (i+1) l
def qL:Nat->Path
 |0=>[.fst]
 |n+1=>.snd::qL n
def Sz(σ:St)(id:Nat)(p:Path)(ep:Nat)(u:Ty)(i:Nat)(f:z7->Option R):Option R:=match p,σ.z6 id with
 |[.idx j],some (.nest t _ _ n (some _))=>cond (Nat.beq n ep&&t.sk.same u.sk&&(vP u (qL i)).isSome) (f (.nv true id ([.idx j]++qL i) ep)) none
 |_,_=>none
def Q4(σ:St)(u:Ty)(x:z7)(i:Nat)(f:z7->Option R):Option R:=
 match x with
 |.data (.ptr t) d=>cond (t.sk.same u.sk) (zR t d (qL i) λu e=>f (.data (.ptr u) e)) none
 |.zw id p=>uD σ id p λa=>cond (a.sk.same u.sk&&(vP u (qL i)).isSome) (f (.zw id (p++qL i))) none
 |.jV id p ep=>match p with
  |[]=>none
  |s::q=>kZ σ id (s::q) ep λt _=>cond (t.sk.same u.sk&&(vP u (qL i)).isSome) (f (.jV id (s::q++qL i) ep)) none
 |.nv true id p ep=>cond (Zj σ id) (Sz σ id p ep u i f) (pI σ true id p ep λt _=>cond (t.sk.same u.sk&&(vP u (qL i)).isSome) (f (.nv true id (p++qL i) ep)) none)
 |_=>none
def Ty.flat:Ty->Bool
 |.sl true t=>t.yV
 |.pair a b=>a.flat&&b.flat
 |t=>t.yV
def ud:List Ty->Bool
 |[]=>true
 |t::ts=>t.flat&&ud ts
def wR:z7->Bool
 |.ref _ _ _ |.view _ _ _ _ _ |.zw _ _ |.jV _ _ _ |.qF _ |.nv _ _ _ _=>false
 |.qW _ c | .ZU _ c |.agg c |.jD c=>wR c
 |.pr a b=>wR a&&wR b
 |_=>true
def vG:z7->Bool
 |.pr a c=>a.val&&vG c
 |.un=>true
 |_=>false
def wZ:kG->Bool
 |.pr (.val _) q=>wZ q
 |.un=>true
 |_=>false
def gk:z7->Bool
 |.pr a c=>a.val && !a.sk.isAgg&&gk c
 |.un=>true
 |_=>false
def gF(g args:z7):Option (Nat×z7):=match g with
 |.qW fid cap=>cond (gk cap) (some (fid,kJ args cap)) none
 |.data (.fn fid t) d=>cond (gk (jy t d)&&(jy t d).sk.same t.sk) (some (fid,kJ args (jy t d))) none
 |_=>none
def ur(σ:St)(n:Nat)(all:z7)(p:kG)(res:List Ty)(F:p.den->Option (jY res))(f:z7->St->Option R):Option R:=
 cond (wZ p&&vG all&&(ud res||wR all)) (jE σ p all [] λd _=>(F d).bind λr=>
   let x:=zK res r n
   cond (Nat.ble x.2.length 8) (f x.1 (σ.gz n x.2)) none) none
def vO:(p:kG)->(all:z7)->St->(z7->St->Option R)->Option R
 |.pr (.val t) q,.pr a c,σ,k=>cond (a.val&&t.zW&&a.sk.same t.sk) (qO 20 a t σ λd σ=>vO q c σ λc σ=>k (.pr (.data t d) c) σ) none
 |.un,.un,σ,k=>k .un σ
 |_,_,_,_=>none
def kS(σ:St)(n:Nat)(all:z7)(p:kG)(res:List Ty)(F:p.den->Option (jY res))(f:z7->St->Option R):Option R:=
 cond (ud res||wR all) (ur σ n all p res F f) (vO p all σ λall σ=>ur σ n all p res F f)
def jX:z7->Nat->Option z7
 |.pr a _,0=>some a
 |.pr _ b,n+1=>jX b n
 |_,_=>none
def uX(σr:St)(z6:Nat->Option Obj)(Y:Nat->Option Nat):(l:List (Nat×zC))->z7->(Qg l->Option R)->Option R
 |[],.un,k=>k ()
 |(_,.val t)::l,.pr a c,k=>asData σr 20 a t λd=>uX σr z6 Y l c λe=>k (d,e)
 |(_,p)::l,.pr a c,k=>match a.wG z6 Y with
  |some a'=>p.take a' λd=>uX σr z6 Y l c λe=>k (d,e)
  |none=>none
 |_,_,_=>none
def zC.isVal:zC->Bool
 |.val _=>true
 |_=>false
def uB:List (Nat×zC)->z7->List Nat
 |(_,p)::l,.pr a c=>cond p.isVal (uB l c) (a.ids++uB l c)
 |_,_=>[]
def YA:List (Nat×zC)->z7->Bool
 |(_,p)::l,.pr a c=>(!p.isVal||wR a)&&YA l c
 |_,_=>true
def CW(l:List (Nat×zC)):List Nat->Bool
 |[]=>true
 |i::a=>(match zT l i with
  |some (_,p)=>!p.isVal
  |none=>false)&&CW l a
def BQ:List (Nat×zC)->Nat->Bool
 |[],_=>true
 |(i,_)::l,n=>Nat.beq i n&&BQ l (n+1)
def zC.flat:zC->Bool
 |.val t=>t.yV
 |.qW _ c | .ZU _ c |.agg c=>c.flat
 |.pr a b=>a.flat&&b.flat
 |_=>true
def yX.flat:yX->Bool
 |.row t=>t.yV
 |.cell p=>p.flat
 |.nest t=>t.gY
 |.map kt vt=>kt.yV&&vt.yV
 |.iter _=>false
 | .W7 _ |.low _=>false
def xw:List (Nat×zC)->Bool
 |[]=>true
 |(_,p)::l=>p.flat&&xw l
def YO:List yX->Bool
 |[]=>true
 |o::l=>o.flat&&YO l
def JV(z6:Nat->Option Obj)(a:z7)(p:zC)(b:Y2):Option Y2:=match a,p with
 |.ref id [] _,.ref j=>Uo b j id some
 |.zw id [],.zw j []=>match z6 id with
  |some (.cell _)=>Uo b j id some
  |_=>none
 |.qF id,.qF j=>match z6 id with
  |some (.map _ _ _)=>Uo b j id some
  |_=>none
 |.nv false id [] _,.nv j=>Uo b j id some
 |_,_=>none
def JJ(z6:Nat->Option Obj):z7->zC->Y2->Option Y2
 |.un,.un,b=>some b
 |.pr (.data t _) c,.pr (.val u) q,b=>cond (Ty.same t u).isSome (JJ z6 c q b) none
 |.pr a c,.pr p q,b=>match JV z6 a p b with
  |some b=>JJ z6 c q b
  |none=>none
 |_,_,_=>none
def zac(z6:Nat->Option Obj)(a:z7)(p:zC)(b:Y2):Option Y2:=match a,p with
 | .ZU _ a,.ZU _ p=>JV z6 a p b
 |.qW f c,.qW g q=>cond (Nat.beq f g) (JJ z6 c q b) none
 |a,p=>JV z6 a p b
def CK(z6:Nat->Option Obj)(all:z7):List Nat->List (Nat×zC)->Y2->Option Y2
 |[],_,b=>some b
 |i::l,(_,p)::out,b=>match jX all i with
  |some a=>match zac z6 a p b with
   |some b=>CK z6 all l out b
   |none=>none
  |none=>none
 |_::_,[],_=>none
def Zf(b:Y2)(n:Nat):Nat->Nat->List Nat
 |0,_=>[]
 |m+1,j=>(match yN b j with
  |some id=>id
  |none=>n+j)::Zf b n m (j+1)
def PZ(σ:St)(b:Y2)(j:Nat):Nat×Nat:=match yN b j with
 |some id=>match σ.z6 id with
  |some (.row _ _ e)=>(e,0)
  |some (.nest _ _ e i _)=>(e,i+1)
  |_=>(0,0)
 |none=>(0,0)
def zC.inst(M:List Nat)(E:Nat->Nat×Nat):(p:zC)->p.den->Option z7
 |.val t,d=>some (.data t d)
 |.za,_=>some .za
 |.ref j,_=>(zT M j).map λid=>.ref id [] (E j).1
 |.view j,d=>(zT M j).map λid=>.view id [] (E j).1 d.1 d.2
 |.zw j p,_=>(zT M j).map λid=>.zw id p
 |.qF j,_=>(zT M j).map λid=>.qF id
 |.nv j,_=>(zT M j).map λid=>.nv false id [] (E j).1
 |.nvi j,d=>(zT M j).map λid=>.nv false id [.idx d] (E j).2
 |.qW f c,d=>(c.inst M E d).map λa=>.qW f a
 | .ZU f c,d=>(c.inst M E d).map λa=>.ZU f a
 |.agg c,d=>(c.inst M E d).map λa=>.agg a
 |.pr a b,d=>match a.inst M E d.1,b.inst M E d.2 with
  |some x,some y=>some (.pr x y)
  |_,_=>none
 |.un,_=>some .un
def yX.inst(M:List Nat)(E:Nat->Nat×Nat)(j:Nat):(o:yX)->o.den->Option Obj
 |.row t,l=>some (.row t l (E j).1)
 |.cell p,d=>(p.inst M E d).map λa=>.cell a
 |.map kt vt,m=>some (.map kt vt m)
 |.nest t,l=>some (.nest t l (E j).1 (E j).2 none)
 |.iter _,_ |.low _,_=>none
 | .W7 p,d=>cond (z7.jD (p.mk d)).kp ((p.inst M E d).map λa=>.cell (.jD a)) none
def Po(M:List Nat)(E:Nat->Nat×Nat):(l:List yX)->WD l->Nat->Option (List Obj)
 |[],_,_=>some []
 |o::l,d,j=>match o.inst M E j d.1,Po M E l d.2 (j+1) with
  |some x,some y=>some (x::y)
  |_,_=>none
def pD(M:List Nat)(E:Nat->Nat×Nat):(l:List (Nat×zC))->Qg l->Option (List z7)
 |[],_=>some []
 |(_,p)::l,d=>match p.inst M E d.1,pD M E l d.2 with
  |some x,some y=>some (x::y)
  |_,_=>none
def sameKind:Option Obj->Obj->Bool
 |some (.row t _ _),.row u _ _=>(Ty.same t u).isSome
 |some (.cell a),.cell x=>x.sk.same a.sk
 |some (.map kt vt _),.map Xv X8 _=>(Ty.same kt Xv).isSome&&(Ty.same vt X8).isSome
 |some (.nest t _ _ _ none),.nest u _ _ _ none=>(Ty.same t u).isSome
 |_,_=>false
def Ah(σ:St)(ids:List Nat)(b:Y2):List Obj->Nat->Bool
 |[],_=>true
 |o::l,j=>(match yN b j with
  |some id=>qs id ids&&sameKind (σ.z6 id) o
  |none=>true)&&Ah σ ids b l (j+1)
def V1:List Nat->Bool
 |[]=>true
 |x::l=>!qs x l&&V1 l
def za5(σ:St)(ids M:List Nat)(os:List Obj):St:={ σ with z6:=λi=>match qI i M 0 with
 |some j=>zT os j
 |none=>cond (qs i ids) none (σ.z6 i) }
def vZ:List z7->z7
 |[]=>.un
 |a::l=>.pr a (vZ l)
def gd:List z7->z7
 |[a]=>a
 |l=>.jD (vZ l)
def pQ{I:Type}:Nat->List I->List I
 |0,l=>l
 |_+1,[]=>[]
 |n+1,_::l=>pQ n l
def O4(σ:St)(n:Nat)(ids:List Nat)(b:Y2)(jf:List Nat)(qv:wQ)(r:qv.den)(f:z7->St->Option R):Option R:=
 match Po (Zf b n qv.z6.length 0) (PZ σ b) qv.z6 r.2 0,pD (Zf b n qv.z6.length 0) (PZ σ b) qv.zy r.1 with
 |some os,some vs=>cond (V1 (Zf b n qv.z6.length 0)&&Ah σ ids b os 0) (f (gd (pQ jf.length vs)) (za5 σ ids (Zf b n qv.z6.length 0) os)) none
 |_,_=>none
def z6d(σ:St)(all:z7)(fin:wQ)(ids:List Nat)(k:fin.den->Option R):Option R:=
 match VR (λi=>qI i ids 0) σ.z6 ids with
 |some os=>uX (σ.only λi=>!qs i ids) σ.z6 (λi=>qI i ids 0) fin.zy all λd=>K5 fin.z6 os λe=>k (d,e)
 |none=>none
def Dw:List yX->List Nat->St->(St->Option R)->Option R
 | .W7 _::os,i::is,σ,k=>match σ.z6 i with
  |some (.cell a)=>cond (z7.jD a).kp (Dw os is (σ.setObj i (.cell (.jD a))) k) (Dw os is σ k)
  |_=>Dw os is σ k
 |_::os,_::is,σ,k=>Dw os is σ k
 |_,_,σ,k=>k σ
def zaa(z6:Nat->Option Obj)(a:z7)(p:zC)(b:Y2):Option Y2:=match a,p with
 |.agg c,.agg q=>JJ z6 c q b
 |.qF i,.qF j=>JV z6 (.qF i) (.qF j) b
 |_,_=>none
def Mx(z6:Nat->Option Obj)(ids:List Nat)(fo:List yX):Y2->Y2->Option Y2
 |[],b=>some b
 |(j,_)::l,b=>match yN b j with
  |some id=>match zT fo j,z6 id with
   |some (.W7 p),some (.cell (.jD a))=>cond (qs id ids&&(z7.jD a).kp) (match zaa z6 a p b with
    |some b=>Mx z6 ids fo l b
    |none=>none) none
   |_,_=>Mx z6 ids fo l b
  |none=>Mx z6 ids fo l b
def zdy(σ:St)(n:Nat)(all:z7)(fin:wQ)(jf:List Nat)(qv:wQ)(F:fin.den->Option qv.den)(f:z7->St->Option R):Option R:=
 Dw fin.z6 (wc σ.z6 100 (uB fin.zy all) []) σ λσ=>
 cond (vG all&&BQ fin.zy 0&&CW fin.zy jf&&(YA fin.zy all||(xw qv.zy&&YO qv.z6))&&Nat.ble qv.z6.length 8)
  (match (CK σ.z6 all jf qv.zy []).bind λb=>Mx σ.z6 (wc σ.z6 100 (uB fin.zy all) []) qv.z6 b b with
   |some b=>z6d σ all fin (wc σ.z6 100 (uB fin.zy all) []) λd=>(F d).bind λr=>O4 σ n (wc σ.z6 100 (uB fin.zy all) []) b jf qv r f
   |none=>none) none
def We(c:Ctx)(σ:St)(n:Nat)(g:z7)(args:z7)(f:z7->St->Option R):Option R:=
 match gF g args with
 |some (fid,all)=>match WC all (c.env fid) with
  |some (.pure p res F)=>kS σ n all p res F f
  |_=>none
 |none=>none
def EO(c:Ctx)(σ:St)(n:Nat)(g:z7)(args:z7)(f:z7->St->Option R):Option R:=
 match gF g args with
 |some (fid,all)=>match WC all (c.env fid) with
  |some (.pure p res F)=>kS σ n all p res F f
  |some (.mut fin jf qv F)=>zdy σ n all fin jf qv F f
  |none=>none
 |none=>none
def ED{I:Type}(m:List I)(a b:Int):Int:=(Nat.min m.length (b-a).toNat:Nat)
def uo{I:Type}(l:List I)(a b:Int)(m:List I):List I:=l.take a.toNat++m.take (Nat.min m.length (b-a).toNat)++l.drop (a.toNat+Nat.min m.length (b-a).toNat)
def HI(σ:St)(u:Ty)(id:Nat)(ep:Nat)(a b:Int)(y:z7)(f:Int->St->Option R):Option R:=match σ.z6 id with
 |some (.row t l e)=>cond (Nat.beq e ep&&(Ty.same t u).isSome) (Jp σ t y λm=>f (ED m a b) (σ.setObj id (.row t (uo l a b m) e))) none
 |_=>none
def zih(σ:St)(u:Ty)(x y:z7)(f:Int->St->Option R):Option R:=match x with
 |.view id [] ep a b=>HI σ u id ep a b y f
 |.ref id [] ep=>match σ.z6 id with
  |some (.row _ l _)=>HI σ u id ep 0 (l.length:Int) y f
  |_=>none
 |_=>none
def zhi(c:Ctx)(σ:St)(t:Nat)(nm:String)(v:z7)(f:Nat->z7->Option R):Option R:=match c.ms t nm with
 |some (m,none)=>f m v
 |some (m,some E)=>match c.tt E with
  |some u=>ZR σ v λv=>cond (v.val&&u.sk.same v.sk) (f m v) none
  |none=>none
 |none=>none
def zea(c:Ctx)(σ:St)(nm:String)(x args:z7)(f:z7->z7->Option R):Option R:=match x with
 | .ZU t v=>cond v.val (zhi c σ t nm v λm v=>f (.qW m .un) (.pr v args)) none
 |_=>none
open Classical in
def zad{I:Type}(f:I->Option R):List I->Option R
 |[]=>none
 |a::l=>if ∀b∈l,f b=f a then f a else none
def An(left:List Int)(done:Option R)(f:Int->List Int->Option R):Option R:=match left with
 |[]=>done
 |j::l=>zad (λj'=>f j' ((j::l).filter λi=>!decide (i=j'))) (j::l)
def upto:Nat->List Int
 |0=>[]
 |n+1=>upto n++[(n:Int)]
def NR(c:Ctx)(σ:St)(n:Nat)(dst:Option Nat)(t:Nat)(x:z7)(k:St->Option R):Option R:=
 match x,c.mt t with
 |.qF id,some _=>match σ.z6 id with
  |some (.map _ _ m)=>σ.qM c dst (.zw n []) λσ=>k (σ.setObj n (.cell (xZ id (m.length:Int) (upto m.length) (-1))))
  |_=>none
 |_,_=>none
def z69(c:Ctx)(σ:St)(dst:Option Nat)(x:z7)(k:St->Option R):Option R:=match x with
 |.zw id []=>match σ.z6 id with
  |some (.cell (.jD (.pr (.qF PC) (.pr (.data (.int .i64) n) (.pr (.data (.sl false (.int .i64)) left) (.pr (.data (.int .i64) _) .un))))))=>match σ.z6 PC with
   |some (.map kt vt m)=>qV (decide (n=(m.length:Int))) (An left (σ.qM c dst (.jD (.pr (.data .bool false) .un)) k) λj rest=>(idx m j).bind λe=>
     (σ.setObj id (.cell (xZ PC n rest j))).qM c dst (.jD (.pr (.data .bool true) (.pr (.data kt e.1) (.pr (.data vt e.2) .un)))) k)
   |_=>none
  |_=>none
 |_=>none
def Rh:Option PB->Option Int
 |none=>some 0
 |some (.low d)=>some d
 |some (.one _)=>none
def ZC(σ:St)(m:Nat)(a:z7)(k:z7->St->Option R):Option R:=match a with
 |.nv false id [.idx j] ep=>match σ.z6 id with
  |some (.nest (.sl true v) l e i h)=>match Rh h with
   |some d=>cond (Nat.beq i ep&&v.zW) (qV (decide (d<=j)) ((idx l j).bind λx=>k (.ref m [] 0) ((σ.setObj id (.nest (.sl true v) l e i (some (.low (j+1))))).setObj m (.row v x 0)))) none
   |none=>none
  |_=>none
 |a=>k a σ
def Ar(c:Ctx)(σ:St)(n:Nat)(dst:Option Nat)(u:Ty)(len:Nat)(ps:List (Nat×Operand))(k:St->Option R):Option R:=match len,ps with
 |0,[]=>(σ.setObj n (.nest u [] 0 0 none)).qM c dst (.nv false n [] 0) k
 |1,[(0,x)]=>match ev σ x with
  |some a=>ZC σ (n+1) a λa σ=>ZT σ a u λd σ=>(σ.setObj n (.nest u [d] 0 0 none)).qM c dst (.nv false n [] 0) k
  |none=>none
 |_,_=>none
def OE(c:Ctx)(σ:St)(dst:Option Nat)(x:z7)(k:St->Option R):Option R:=match x with
 |.zw id []=>match σ.z6 id with
  |some (.cell (.jD (.pr (.qF PC) (.pr (.data (.int .i64) n) (.pr (.data (.sl false (.int .i64)) left) (.pr (.data (.int .i64) cur) .un))))))=>match σ.z6 PC with
   |some (.map kt vt m)=>qV (decide (n=(m.length:Int))) ((idx m cur).bind λe=>σ.qM c dst (.jD (.pr (.data kt e.1) (.pr (.data vt e.2) .un))) k)
   |_=>none
  |_=>none
 |_=>none
def evI(σ:St):Option Operand->Option (Option Int)
 |none=>some none
 |some x=>match ev σ x with
  |some (.data (.int _) n)=>some (some n)
  |_=>none
def RK:Ty->Bool
 |.sl true v=>v.zW
 |_=>false
def uW{I:Type}(z:I)(l:List I)(a b:Int):List I:=(List.range l.length).map λ(i:Nat)=>if a<=(i:Int)/\(i:Int)<b then z else l.getD i z
def Rj(n:Nat):Ty->Option z7
 |.fn _ _ |.ptr _=>some (.qF n)
 |u=>uF u
def qq(c:Ctx)(σ:St)(n:Nat)(o:Oper)(k:St->Option R):Option R:=
 match o.op with
 |.move x |.assign x=>match ev σ x with
  |some a=>σ.qM c o.dst a k
  |none=>none
 |.pick t x y=>match ev σ t with
  |some (.data .bool b)=>cond b
    (match ev σ x with
     |some a=>σ.qM c o.dst a k
     |none=>none)
    (match ev σ y with
     |some a=>σ.qM c o.dst a k
     |none=>none)
  |_=>none
 |.binOp op t x y _=>match ev σ x,ev σ y with
  |some a,some b=>HR σ (c.eqs t) (c.tt t) op a b λv=>σ.qM c o.dst v k
  |_,_=>none
 |.unOp op _ x=>match ev σ x with
  |some a=>unK op a λv=>σ.qM c o.dst v k
  |none=>none
 |.convert t t' x=>match ev σ x,c.tt t,c.tt t' with
  |some (.data (.int _) j),some (.int _),some (.int kd)=>σ.qM c o.dst (.data (.int kd) (kd.wrap j)) k
  |_,_,_=>none
 |.indexAddr t x i=>match ev σ x,ev σ i,c.tt t with
  |some a,some (.data (.int _) j),some u=>ux σ u a j λv=>σ.qM c o.dst v k
  |_,_,_=>none
 |.fieldAddr t x i=>match ev σ x,c.tt t with
  |some a,some u=>Q4 σ u a i λv=>σ.qM c o.dst v k
  |_,_=>none
 |.index t x i=>match ev σ x,ev σ i,c.tt t with
  |some (.data (.arr n t') l),some (.data (.int _) j),some (.arr m u)=>cond (Nat.beq n m&&t'.sk.same u.sk) ((idx l j).bind λd=>σ.qM c o.dst (.data t' d) k) none
  |some (.data .str l),some (.data (.int _) j),some .str=>(idx l j).bind λd=>σ.qM c o.dst (.data (.int .u8) (d.toNat:Int)) k
  |_,_,_=>none
 |.field t x i=>match ev σ x,c.tt t with
  |some a,some u=>cond (a.val&&a.sk.same u.sk&&(vP u (qL i)).isSome) (gD a (qL i) λv=>cond v.val (σ.qM c o.dst v k) none) none
  |_,_=>none
 |.nilCheck x=>match ev σ x with
  |some a=>cond (holds σ a) (σ.qM c o.dst a k) none
  |none=>none
 |.load t x=>match ev σ x,c.tt t with
  |some a,some u=>ZR σ a λv=>cond (v.val&&u.sk.same v.sk) (σ.qM c o.dst v k) none
  |_,_=>none
 |.store t x y=>match ev σ x,ev σ y,c.tt t,o.dst with
  |some a,some b,some u,none=>cond (b.val&&u.sk.same b.sk) (JL σ a b k) none
  |_,_,_,_=>none
 |.extract x i=>match ev σ x with
  |some (.jD a)=>match jX a i with
   |some v=>σ.qM c o.dst v k
   |none=>none
  |_=>none
 |.alloc t=>match (c.tt t).bind (Rj n) with
  |some z=>σ.qM c o.dst (.zw n []) λσ=>k (σ.setObj n (.cell z))
  |none=>none
 |.box _ x=>match ev σ x with
  |some a=>cond a.val (σ.qM c o.dst (.zw n []) λσ=>k (σ.setObj n (.cell a))) none
  |none=>none
 |.makeFunc (.func f) first cap=>match first.toList with
  |[]=>match I2 σ cap.toList with
   |some a=>cond (yK a) (σ.qM c o.dst (.qW f a) k) none
   |none=>none
  |_=>none
 |.makeSlice t len cap=>match DG c o.dst t with
  |some (.sl _ u)=>match u.zero,ev σ len,ev σ cap with
   |some z,some (.data (.int _) l),some (.data (.int _) m)=>
    cond u.zW (qV (decide (0<=l)&&decide (l<=m)&&decide (m<=(room:Int))) (σ.qM c o.dst (.ref n [] 0) λσ=>k (σ.setObj n (.row u (List.replicate l.toNat z) 0))))
     (cond (RK u) (qV (decide (0<=l)&&decide (l<=m)&&decide (m<=(room:Int))) (σ.qM c o.dst (.nv false n [] 0) λσ=>k (σ.setObj n (.nest u (List.replicate l.toNat z) 0 0 none)))) none)
   |_,_,_=>none
  |_=>none
 |.build t ps=>match c.tt t with
  |some (.pair x y)=>match gp σ (.pair x y) 0 ps.toList with
   |some a=>cond (a.sk.same (Ty.pair x y).sk) (σ.qM c o.dst (.agg a) k) none
   |none=>none
  |some (.arr n u)=>match I2 σ (ps.toList.map (·.2)) with
   |some a=>cond (uA 0 ps.toList&&Nat.beq ps.toList.length n&&jG u) (qg u a λl=>σ.qM c o.dst (.data (.arr n u) l) k) (cond (u.zW && !u.sk.isAgg) (vL σ u n 0 ps.toList λl=>σ.qM c o.dst (.data (.arr n u) l) k) none)
   |none=>none
  |_=>none
 |.buildSlice t len ps=>match DG c o.dst t with
  |some (.sl _ u)=>cond (u.zW&&uA 0 ps.toList&&Nat.beq ps.toList.length len&&Nat.ble (len*u.size) 100000) (parts σ u ps.toList λds σ=>cond (zmw c o.dst) (σ.qM c o.dst (.data (.sl false u) ds) k) (σ.qM c o.dst (.ref n [] 0) λσ=>k (σ.setObj n (.row u ds 0))))
    (cond (V3 u&&Nat.ble (len*u.size) 100000) (Ar c σ n o.dst u len ps.toList k) none)
  |_=>none
 |.makeMap t none=>match c.mt t with
  |some (kt,vt)=>cond (kTy kt&&vt.yV) (σ.qM c o.dst (.qF n) λσ=>k (σ.setObj n (.map kt vt []))) none
  |none=>none
 |.lookup t x i ok=>match ev σ x,ev σ i with
  |some a,some b=>Xj σ (c.mt t) a λ_ kt vt m=>cond b.val (asData σ 20 b kt λkey=>match vt.zero with
   |some z=>cond ok (σ.qM c o.dst (.jD (.pr (.data vt ((jF (GJ kt) m key).getD z)) (.pr (.data .bool (jF (GJ kt) m key).isSome) .un))) k)
    (σ.qM c o.dst (.data vt ((jF (GJ kt) m key).getD z)) k)
   |none=>none) none
  |_,_=>none
 |.mapUpdate t x i y=>match ev σ x,ev σ i,ev σ y,o.dst with
  |some a,some b,some v,none=>Xj σ (c.mt t) a λid kt vt m=>cond (b.val&&v.val) (asData σ 20 b kt λkey=>asData σ 20 v vt λd=>k (σ.setObj id (.map kt vt (ve (GJ kt) m key d)))) none
  |_,_,_,_=>none
 |.mapEntry t x i=>match ev σ x,ev σ i with
  |some a,some b=>Xj σ (c.mt t) a λid kt vt m=>cond b.val (asData σ 20 b kt λkey=>match vt.zero with
   |some z=>qV (decide (m.length<=room)) ((σ.setObj id (.map kt vt (ve (GJ kt) m key ((jF (GJ kt) m key).getD z)))).qM c o.dst (.jD (.pr (.data vt ((jF (GJ kt) m key).getD z)) (.pr (.data (.int .i64) (gG (GJ kt) m key:Int)) .un))) k)
   |none=>none) none
  |_,_=>none
 |.entryStore t x i y=>match ev σ x,ev σ i,ev σ y,o.dst with
  |some a,some (.data (.int _) p),some v,none=>Xj σ (c.mt t) a λid kt vt m=>cond v.val (asData σ 20 v vt λd=>qV (decide (0<=p)&&decide (p<(m.length:Int))) (k (σ.setObj id (.map kt vt (B4 m p.toNat d))))) none
  |_,_,_,_=>none
 |.slice t x lo hi none=>match ev σ x,c.tt t,evI σ lo,evI σ hi with
  |some a,some (.sl _ u),some lo,some hi=>PR σ u a (lo.getD 0) hi λv=>σ.qM c o.dst v k
  |some (.data .str l),some .str,some lo,some hi=>qV (decide (0<=lo.getD 0)&&decide (lo.getD 0<=hi.getD (l.length:Int))&&decide (hi.getD (l.length:Int)<=(l.length:Int))) (σ.qM c o.dst (.data .str (sub l (lo.getD 0) (hi.getD (l.length:Int)))) k)
  |_,_,_,_=>none
 |.slice t x none (some hi) (some mx)=>match ev σ x,ev σ hi,ev σ mx,c.tt t with
  |some (.ref id [] ep),some (.data (.int _) h),some (.data (.int _) m),some (.sl _ u)=>match σ.z6 id with
   |some (.row t' l e)=>cond (Nat.beq e ep&&t'.sk.same u.sk) (qV (decide (0<=h)&&decide (h<=m)&&decide (m<=(l.length:Int))) ((σ.setObj id (.row t' (sub l 0 h) (e+1))).qM c o.dst (.ref id [] (e+1)) k)) none
   |_=>none
  |_,_,_,_=>none
 |.call { callee:=.builtin .len,args:=args,argTypes:=ts }=>match args.toList,ts.toList with
  |[x],[t]=>match ev σ x,c.tt t with
   |some a,some (.sl _ _)=>z0v σ a λv=>σ.qM c o.dst (.data (.int .i64) v) k
   |some (.data .str l),some .str=>σ.qM c o.dst (.data (.int .i64) (l.length:Int)) k
   |some a,_=>Xj σ (c.mt t) a λ_ _ _ m=>qV (decide (m.length<=room)) (σ.qM c o.dst (.data (.int .i64) (m.length:Int)) k)
   |_,_=>none
  |_,_=>none
 |.call { callee:=.builtin .max,args:=args,.. }=>match I2 σ args.toList with
  |some (.pr (.data (.int i) x) r)=>zQ JK i x r λv=>σ.qM c o.dst (.data (.int i) v) k
  |_=>none
 |.call { callee:=.builtin .min,args:=args,.. }=>match I2 σ args.toList with
  |some (.pr (.data (.int i) x) r)=>zQ xI i x r λv=>σ.qM c o.dst (.data (.int i) v) k
  |_=>none
 |.call { callee:=.builtin .append,args:=args,argTypes:=ts }=>match args.toList,ts.toList with
  |[x,y],[t,t']=>match ev σ x,ev σ y,c.tt t with
   |some a,some b,some (.sl _ u)=>cond (Nat.beq t t') (pT σ n u a b λv σ=>σ.qM c o.dst v k) none
   |_,_,_=>none
  |_,_=>none
 |.call { callee:=.builtin .clear,args:=args,argTypes:=ts }=>match args.toList,ts.toList with
  |[x],[t]=>match ev σ x,c.tt t with
   |some (.view id [] ep a b),some (.sl _ u)=>match σ.z6 id with
    |some (.row t' l e)=>cond (Nat.beq e ep&&(Ty.same t' u).isSome) (match t'.zero with
     |some z=>(σ.setObj id (.row t' (uW z l a b) e)).qM c o.dst (.jD .un) k
     |none=>none) none
    |_=>none
   |_,_=>none
  |_,_=>none
 |.call { callee:=.builtin .copy,args:=args,argTypes:=ts }=>match args.toList,ts.toList with
  |[x,y],[t,_]=>match ev σ x,ev σ y,c.tt t with
   |some a,some b,some (.sl _ u)=>zih σ u a b λn σ=>σ.qM c o.dst (.data (.int .i64) n) k
   |_,_,_=>none
  |_,_=>none
 |.call { callee:=.value g,args:=args,.. }=>match ev σ g,I2 σ args.toList with
  |some g,some a=>We c σ n g a λv σ=>σ.qM c o.dst v k
  |_,_=>none
 |.call { callee:=.invoke x nm,args:=args,.. }=>match ev σ x,I2 σ args.toList with
  |some x,some a=>zea c σ nm x a λg a=>We c σ n g a λv σ=>σ.qM c o.dst v k
  |_,_=>none
 |.makeInterface t x=>match ev σ x with
  |some a=>cond (a.val&&c.ct t) (σ.qM c o.dst (.ZU t a) k) none
  |none=>none
 |.typeAssert x _ t ok=>match ev σ x with
  |some (.ZU u a)=>cond (Nat.beq u t&&c.ct t&&a.val) (cond ok (σ.qM c o.dst (.jD (.pr a (.pr (.data .bool true) .un))) k) (σ.qM c o.dst a k)) none
  |_=>none
 |_=>none
def N0(o:Oper):Bool:=match o.op with
 |.store _ _ _=>true
 |.mapUpdate _ _ _ _ |.mapEntry _ _ _ |.entryStore _ _ _ _=>true
 |.call cl=>match cl.callee with
  |.builtin .append |.builtin .clear |.builtin .copy=>true
  |_=>false
 |_=>false
def BW(o:Oper):Bool:=match o.op with
 |.call cl=>match cl.callee with
  |.value _ |.invoke _ _=>true
  |_=>false
 |.range _ _ |.next _ _ |.entry _=>true
 |_=>false
def YE(q:Bool)(o:Oper):Bool:=cond q (N0 o||BW o) (N0 o)
def Kg(o:Oper):Bool:=match o.op with
 |.assign (.const .nilFunc) |.assign (.const .nilIface) |.assign (.const (.pointer none))=>true
 |_=>false
def No(c:Ctx)(σ:St)(n:Nat)(o:Oper)(k:St->Option R):Option R:=cond (Kg o) (k (σ.gj o.dst)) (qq c σ n o k)
open Classical in
def wK:List (Option R)->Option R
 |[]=>none
 |x::l=>if ∀y∈l,y=x then x else none
def views(σ:St)(id e:Nat)(n:Int):St:={ σ with zy:=λi=>match σ.zy i with
 |some (.ref j p e')=>match p with
  |[]=>cond (Nat.beq j id&&Nat.beq e' e) (some (.view id [] (e+1) 0 n)) (some (.ref j [] e'))
  |p=>some (.ref j p e')
 |x=>x }
def HT(σ:St)(n:Nat)(u:Ty)(s x:z7)(f:z7->St->Option R):Option R:=match s with
 |.ref id [] ep=>match σ.z6 id with
  |some (.row t l e)=>cond (Nat.beq e ep&&t.sk.same u.sk) (Jp σ t x λm=>qV (decide (l.length+m.length<=room))
    (wK [f (.ref id [] (e+1)) ((views σ id e (l.length:Int)).setObj id (.row t (l++m) (e+1))),f (.ref n [] 1) (σ.setObj n (.row t (l++m) 1))])) none
  |_=>none
 |_=>none
def zie(c:Ctx)(d:Option Nat):Bool:=match d.bind c.own with
 |some .unit=>true
 |_=>false
def opM(q:Bool)(c:Ctx)(σ:St)(n:Nat)(o:Oper)(k:St->Option R):Option R:=match o.op with
 |.call { callee:=.value g,args:=args,.. }=>cond q (match ev σ g,I2 σ args.toList with
   |some g,some a=>EO c σ n g a λv σ=>σ.qM c o.dst v k
   |_,_=>none) (No c σ n o k)
 |.call { callee:=.invoke x nm,args:=args,.. }=>cond q (match ev σ x,I2 σ args.toList with
   |some x,some a=>zea c σ nm x a λg a=>EO c σ n g a λv σ=>σ.qM c o.dst v k
   |_,_=>none) (No c σ n o k)
 |.range t x=>cond q (match ev σ x with
   |some a=>NR c σ n o.dst t a k
   |none=>none) (No c σ n o k)
 |.next x false=>cond q (match ev σ x with
   |some a=>z69 c σ o.dst a k
   |none=>none) (No c σ n o k)
 |.entry x=>cond q (match ev σ x with
   |some a=>OE c σ o.dst a k
   |none=>none) (No c σ n o k)
 |.call { callee:=.builtin .append,args:=args,argTypes:=ts,.. }=>cond (q&&zie c o.dst) (match args.toList,ts.toList with
   |[x,y],[t,t']=>match ev σ x,ev σ y,c.tt t with
    |some a,some b,some (.sl _ u)=>cond (Nat.beq t t') (HT σ n u a b λv σ=>σ.qM c o.dst v k) none
    |_,_,_=>none
   |_,_=>none) (No c σ n o k)
 |_=>No c σ n o k
def gP(o:Oper):Bool:=match o.op with
 |.move _ |.assign _ |.pick _ _ _ |.binOp _ _ _ _ _ |.unOp _ _ _ |.convert _ _ _ |.indexAddr _ _ _ |.fieldAddr _ _ _ |.nilCheck _ |.load _ _ |.extract _ _ |.makeFunc _ _ _ |.lookup _ _ _ _ |.slice _ _ _ _ none |.build _ _ |.index _ _ _ |.field _ _ _ |.makeInterface _ _ |.typeAssert _ _ _ _=>true
 |.call cl=>match cl.callee with
  |.builtin .len |.builtin .max |.builtin .min=>true
  |_=>false
 |_=>false
def Mt(o:Oper):Bool:=!Kg o&&gP o
def isP(o:Oper):Bool:=match o.op with
 |.load _ _ |.lookup _ _ _ _=>false
 |.call cl=>match cl.callee with
  |.builtin .max |.builtin .min=>true
  |_=>false
 |_=>true
def noM:List (Nat×Oper)->Bool
 |[]=>true
 |(_,o)::l=>!N0 o&&noM l
def z6z(t:Nat)(o:Oper):Bool:=match o.op with
 |.pick (.tmp u) _ _=>Nat.beq t u
 |_=>false
def splitAt(p:Oper->Bool):List (Nat×Oper)->List (Nat×Oper)->Option (List (Nat×Oper)×Option Nat×List (Nat×Oper))
 |[],_=>none
 |(i,o)::l,acc=>cond (p o) (some (acc++[(i,o)],o.dst,l)) (splitAt p l (acc++[(i,o)]))
def CQ(σ:St)(d:Nat):Option Bool:=match σ.zy d with
 |some (.data .bool b)=>some b
 |_=>none
def wN:List (Nat×Oper)->St->St
 |[],σ=>σ
 |(_,o)::l,σ=>wN l (σ.gj o.dst)
def rmN(d:Nat):List Nat->List Nat
 |[]=>[]
 |x::l=>cond (Nat.beq x d) (rmN d l) (x::rmN d l)
def JQ:Option Nat->List Nat->List Nat
 |none,u=>u
 |some d,u=>rmN d u
def Ha:Option Nat->List Nat->List Nat
 |none,u=>u
 |some d,u=>d::u
def Cq:List (Nat×Oper)->List Nat->List Nat
 |[],u=>u
 |(_,o)::l,u=>Cq l (JQ o.dst u)
def IL:List Callee->Bool
 |[]=>true
 |.pure _ _ _::l=>IL l
 |_=>false
def VG(σ:St)(x:Operand):Option Nat:=match ev σ x with
 |some (.qW f _)=>some f
 |some (.data (.fn f _) _)=>some f
 |_=>none
def FD:List (Nat×Oper)->Operand->Operand
 |(_,o)::l,.tmp s=>match o.dst,o.op with
  |some t,.move y=>cond (Nat.beq t s) y (FD l (.tmp s))
  |_,_=>FD l (.tmp s)
 |_,x=>x
def Sx(c:Ctx)(σ:St)(all:List (Nat×Oper)):List (Nat×Oper)->Bool
 |[]=>false
 |(_,o)::l=>(match o.op with
  |.call cl=>match cl.callee with
   |.value g=>match VG σ (FD all g) with
    |some f=>!IL (c.env f)
    |none=>true
   |_=>false
  |_=>false)||Sx c σ all l
def Ux(c:Ctx)(σ:St)(l:List (Nat×Oper)):Bool:=Sx c σ l l
def Zo(c:Ctx)(base:Nat)(dst:Nat->Option Nat):(q:Bool)->(fuel:Nat)->(R:Type)->(opened uz:List Nat)->List (Nat×Oper)->St->(St->Option R)->Option R
 |_,0,_,_,_,_,_,_=>none
 |_,_+1,_,_,_,[],σ,k=>k σ
 |q,n+1,R,opened,uz,(i,o)::l,σ,k=>
  match o.guard with
  |none=>opM q c σ (base+8*i) o λσ=>Zo c base dst q n R opened (JQ o.dst uz) l σ k
  |some (j,want)=>
   match dst j with
   |none=>none
   |some t=>
    match σ.zy t with
    |some (.data .bool b)=>
     cond (qs j opened)
      (cond (b == want) (opM q c σ (base+8*i) o λσ=>Zo c base dst q n R opened (JQ o.dst uz) l σ k) (Zo c base dst q n R opened (Ha o.dst uz) l (σ.gj o.dst) k))
      (match splitAt (z6z t) ((i,o)::l) []with
       |some (Ue,some d,rest)=>cond (q&&Ux c σ Ue)
        (cond b (Zo c base dst q n R (j::opened) uz ((i,o)::l) (σ.set t (.data .bool true)) k)
            (Zo c base dst q n R (j::opened) uz ((i,o)::l) (σ.set t (.data .bool false)) k))<|cond (noM Ue) (
        (cond b (Zo c base dst false n Bool (j::opened) uz Ue (σ.set t (.data .bool true)) λσ=>CQ σ d)
            (Zo c base dst false n Bool (j::opened) uz Ue (σ.set t (.data .bool false)) λσ=>CQ σ d)).bind λv=>
        cond (Nat.blt d c.ntmps) (Zo c base dst q n R opened (Cq Ue uz) rest ((wN Ue σ).set d (.data .bool v)) k) none) none
       |_=>none)
    |none=>cond (qs t uz) (Zo c base dst q n R opened (Ha o.dst uz) l (σ.gj o.dst) k) none
    |_=>none
def zV{I:Type}:Nat->List I->List (Nat×I)
 |_,[]=>[]
 |i,x::l=>(i,x)::zV (i+1) l
def gu(ops:List Oper)(j:Nat):Option Nat:=(zT ops j).bind (·.dst)
def w9:List Edge->List Nat
 |[]=>[]
 |e::l=>cond (Region.binds .any e) (e.on::w9 l) (w9 l)
def MC:List Nat->List Nat->Bool
 |[],_=>true
 |x::l,d=>qs x d&&MC l d
def CJ:List Nat->List Nat->Bool
 |[],_=>false
 |x::l,d=>qs x d||CJ l d
def Zl(done:List Nat)(o:Oper):Bool:=MC (w9 o.after.toList) done
def DX:List Operand->List Nat
 |[]=>[]
 |.tmp t::l=>t::DX l
 |_::l=>DX l
def z8j(dst:Nat->Option Nat)(o:Oper):List Nat:=match o.guard with
 |some (j,_)=>match dst j with
  |some t=>[t]
  |none=>[]
 |none=>[]
def Kw(dst:Nat->Option Nat)(o:Oper)(t:Nat):Bool:=qs t (DX o.op.operands.toList)||qs t (z8j dst o)
def VX(dst:Nat->Option Nat)(x y:Oper):Bool:=
 (match x.dst with
  |some d=>!Kw dst y d&&(match y.dst with
   |some e=>!Nat.beq d e
   |none=>true)
  |none=>true) &&
 (match y.dst with
  |some d=>!Kw dst x d
  |none=>true)
def jT(i:Nat):List (Nat×Oper)->List Nat->List Nat
 |[],acc=>acc
 |(j,o)::l,acc=>jT i l (cond (qs i (w9 o.after.toList)||CJ (w9 o.after.toList) acc) (j::acc) acc)
def SG(q:Bool)(dst:Nat->Option Nat)(done later:List Nat)(i:Nat)(o:Oper):List (Nat×Oper)->Bool
 |[]=>true
 |(j,oj)::l=>(Nat.beq j i||qs j done||((qs i (w9 oj.after.toList)||VX dst o oj)&&(isP o || !YE q oj||qs j later)))&&SG q dst done later i o l
def CG(done:List Nat)(i:Nat):List (Nat×Oper)->Bool
 |[]=>true
 |(j,oj)::l=>(Nat.beq j i||qs j done || !Zl done oj)&&CG done i l
def Kj:List Nat->List Nat->Bool
 |[],_=>true
 |x::l,d=>!qs x d&&Kj l d
def Cs(q:Bool)(dst:Nat->Option Nat)(all:List (Nat×Oper))(done:List Nat)(i:Nat)(o:Oper):Bool:=
 Zl done o&&((Mt o&&SG q dst done (jT i all []) i o all&&Kj (jT i all []) done)||CG done i all)
def YG(q:Bool)(dst:Nat->Option Nat)(all:List (Nat×Oper)):List (Nat×Oper)->List Nat->Bool
 |[],done=>CG done all.length all
 |(i,o)::l,done=>!qs i done&&Cs q dst all done i o&&YG q dst all l (i::done)
def K4:List (Nat×Oper)->Bool
 |[]=>true
 |(_,o)::l=>(match o.op with
  |.select _ _=>false
  |_=>true)&&K4 l
def Gk(q:Bool)(dst:Nat->Option Nat)(all:List (Nat×Oper))(done:List Nat):List (Nat×Oper)->Option (Nat×Oper)
 |[]=>none
 |(i,o)::l=>cond (!qs i done&&Cs q dst all done i o) (some (i,o)) (Gk q dst all done l)
def Jo(q:Bool)(dst:Nat->Option Nat)(all:List (Nat×Oper)):Nat->List Nat->List (Nat×Oper)
 |0,_=>[]
 |n+1,done=>match Gk q dst all done all with
  |some (i,o)=>(i,o)::Jo q dst all n (i::done)
  |none=>[]
def Rm(q:Bool)(c:Ctx)(ops:List Oper)(l:List (Nat×Oper))(σ:St)(k:St->Option R):Option R:=
 Zo c σ.next (gu ops) q (ops.length+ops.length+2) R [] [] l σ λσ'=>k { σ' with next:=σ.next+8*ops.length }
def kQ(q:Bool)(ops:List Oper):List (Nat×Oper):=Jo q (gu ops) (zV 0 ops) ops.length []
def UG(q:Bool)(ops:List Oper):Bool:=K4 (zV 0 ops)&&YG q (gu ops) (zV 0 ops) (kQ q ops) []
def E0(dst:Nat->Option Nat)(all:List (Nat×Oper)):List (Nat×Oper)->List Nat->Bool
 |[],_=>true
 |(i,o)::l,done=>!qs i done&&Cs false dst all done i o&&E0 dst all l (i::done)
def jn:List (Nat×Oper)->List Nat->List Nat
 |[],d=>d
 |(i,_)::l,d=>jn l (i::d)
def Jx(c:Ctx)(σ:St)(o:Oper):Bool:=match o.op with
 |.call cl=>match cl.callee with
  |.value g=>match VG σ g with
   |some f=>IL (c.env f)
   |none=>false
  |.invoke _ _ |.builtin .copy=>false
  |_=>true
 |.mapUpdate _ _ _ _ |.mapEntry _ _ _ |.entryStore _ _ _ _=>false
 |.makeMap _ _=>false
 |_=>true
def LP(σ:St)(x:Operand):List Nat:=match ev σ x with
 |some a=>a.ids
 |none=>[]
def zlj:Option z7->Bool
 |some (.zw _ _)=>true
 |_=>false
def Lo(σ:St)(o:Oper):List Nat:=match o.op with
 |.move _ |.assign _ |.pick _ _ _ |.extract _ _ |.makeFunc _ _ _ |.box _ _ |.build _ _ |.alloc _ |.unOp _ _ _=>[]
 |.load _ x |.nilCheck x |.fieldAddr _ x _ |.indexAddr _ x _ |.slice _ x _ _ _=>LP σ x
 |.store _ x y=>cond (zlj (ev σ x)) (LP σ x) (wc σ.z6 100 (LP σ x++LP σ y) [])
 |op=>wc σ.z6 100 (op.operands.toList.flatMap (LP σ)) []
def N1(base i:Nat)(F:List Nat)(id:Nat):Bool:=qs id F||(Nat.ble (base+8*i) id&&Nat.blt id (base+8*i+8))
def St.over(σ σ':St)(p:Nat->Bool):St:={ zy:=σ'.zy,z6:=λi=>cond (p i) (σ'.z6 i) (σ.z6 i),next:=σ.next }
def z5d(base i:Nat):List Nat->Bool
 |[]=>true
 |x::l=>!(Nat.ble (base+8*i) x&&Nat.blt x (base+8*i+8))&&z5d base i l
def indep(base:Nat)(dst:Nat->Option Nat)(i:Nat)(o:Oper)(F:List Nat)(j:Nat)(p:Oper)(G:List Nat):Bool:=
 !Nat.beq i j&&VX dst o p&&((gP o&&gP p)||Kj F G)&&z5d base i G&&z5d base j F
abbrev zgp:=List ((Nat×Oper)×List Nat×List Nat)
def RH(base:Nat)(dst:Nat->Option Nat)(j:Nat)(p:Oper)(G:List Nat):zgp->Bool
 |[]=>true
 |((i,o),F,lat)::l=>(qs j lat||indep base dst i o F j p G)&&RH base dst j p G l
def zf5(c:Ctx)(base:Nat)(dst:Nat->Option Nat)(all:List (Nat×Oper)):List (Nat×Oper)->zgp->St->(St->Option R)->Option R
 |[],_,σ,k=>k σ
 |(i,o)::l,acc,σ,k=>
  cond (Jx c σ o&&RH base dst i o (Lo σ o) acc)
   (qq c (σ.only (N1 base i (Lo σ o))) (base+8*i) o λσ'=>zf5 c base dst all l (((i,o),Lo σ o,jT i all [])::acc) (σ.over σ' (N1 base i (Lo σ o))) k) none
def Z2(done:List Nat):List (Nat×Oper)->List (Nat×Oper)
 |[]=>[]
 |(i,o)::l=>cond (qs i done) (Z2 done l) ((i,o)::Z2 done l)
def FW:List (Nat×Oper)->Bool
 |[]=>true
 |(_,o)::l=>(match o.guard with
  |none=>true
  |some _=>false) && !Kg o&&FW l
def ze2(all:List (Nat×Oper))(done:List Nat):List Nat->List (Nat×Oper)->Bool
 |_,[]=>true
 |d,(i,o)::l=>Zl d o&&Kj (jT i all []) done&&ze2 all done (i::d) l
def z6n:List (Nat×Oper)->Nat
 |[]=>0
 |_::l=>z6n l+1
def z62:List Oper->Bool
 |[]=>true
 |o::l=>(match o.op with
  |.makeMap _ _ |.mapUpdate _ _ _ _ |.mapEntry _ _ _ |.entryStore _ _ _ _=>false
  |_=>true)&&z62 l
def z8n(ops:List Oper):Bool:=K4 (zV 0 ops)&&E0 (gu ops) (zV 0 ops) (kQ false ops) []&&FW (Z2 (jn (kQ false ops) []) (zV 0 ops))&&ze2 (zV 0 ops) (jn (kQ false ops) []) (jn (kQ false ops) []) (Z2 (jn (kQ false ops) []) (zV 0 ops))&&Nat.beq (z6n (kQ false ops)+z6n (Z2 (jn (kQ false ops) []) (zV 0 ops))) ops.length
def z8o(ops:List Oper):Bool:=z62 ops&&z8n ops
def SJ(c:Ctx)(ops:List Oper)(L B:List (Nat×Oper))(σ:St)(k:St->Option R):Option R:=
 Zo c σ.next (gu ops) false (ops.length+ops.length+2) R [] [] L σ λσ'=>zf5 c σ.next (gu ops) (zV 0 ops) B [] σ' λσ'=>k { σ' with next:=σ.next+8*ops.length }
def pH(done:List Nat):List (Nat×Oper)->List (Nat×Oper)
 |[]=>[]
 |(i,o)::l=>cond (!qs i done&&Zl done o) ((i,o)::pH done l) (pH done l)
def Ig(c:Ctx)(dst:Nat->Option Nat)(b0:Nat)(o:Oper)(opened uz:List Nat)(σ:St)(kk:List Nat->List Nat->St->Option R):Option R:=
 match o.guard with
 |none=>opM true c σ b0 o λσ=>kk opened (JQ o.dst uz) σ
 |some (j,want)=>match dst j with
  |none=>none
  |some t=>match σ.zy t with
   |some (.data .bool b)=>
    cond (qs j opened)
     (cond (b == want) (opM true c σ b0 o λσ=>kk opened (JQ o.dst uz) σ) (kk opened (Ha o.dst uz) (σ.gj o.dst)))
     (cond b
      (cond want (opM true c (σ.set t (.data .bool true)) b0 o λσ=>kk (j::opened) (JQ o.dst uz) σ) (kk (j::opened) (Ha o.dst uz) ((σ.set t (.data .bool true)).gj o.dst)))
      (cond want (kk (j::opened) (Ha o.dst uz) ((σ.set t (.data .bool false)).gj o.dst)) (opM true c (σ.set t (.data .bool false)) b0 o λσ=>kk (j::opened) (JQ o.dst uz) σ)))
   |none=>cond (qs t uz) (kk opened (Ha o.dst uz) (σ.gj o.dst)) none
   |_=>none
def Of(c:Ctx)(base:Nat)(dst:Nat->Option Nat)(all:List (Nat×Oper)):Nat->List Nat->(opened uz:List Nat)->St->(St->Option R)->Option R
 |0,_,_,_,_,_=>none
 |n+1,done,opened,uz,σ,k=>match Gk true dst all done all with
  |some (i,o)=>Ig c dst (base+8*i) o opened uz σ λopened uz σ=>Of c base dst all n (i::done) opened uz σ k
  |none=>match pH done all with
   |[]=>k σ
   |x::l=>wK ((x::l).map λx=>Ig c dst (base+8*x.1) x.2 opened uz σ λopened uz σ=>Of c base dst all n (x.1::done) opened uz σ k)
def FZ(c:Ctx)(ops:Array Oper)(draw:Bool)(σ:St)(k:St->Option R):Option R:=
 cond draw (cond (UG true ops.toList) (Rm true c ops.toList (kQ true ops.toList) σ k)
   (cond (UG false ops.toList && !Ux c σ (zV 0 ops.toList)) (Rm false c ops.toList (kQ false ops.toList) σ k)
   (cond (z8o ops.toList && !Ux c σ (zV 0 ops.toList)) (SJ c ops.toList (kQ false ops.toList) (Z2 (jn (kQ false ops.toList) []) (zV 0 ops.toList)) σ k)
    (cond (K4 (zV 0 ops.toList)) (Of c σ.next (gu ops.toList) (zV 0 ops.toList) (ops.toList.length+1) [] [] [] σ λσ'=>k { σ' with next:=σ.next+8*ops.toList.length }) none))))
  (Rm true c ops.toList (zV 0 ops.toList) σ k)
def jz:Code->Option Nat
 |.region id _ _=>some id
 |.seq a b=>(jz a).orElse λ_=>jz b
 |.block _ b=>jz b
 |.loop b=>jz b
 |.cond _ a b=>(jz a).orElse λ_=>jz b
 |_=>none
def V4(step:St->(vS->St->Option R)->Option R)(lv:Cut):Nat->List (Nat×z7)->List Obj->(vS->St->Option R)->Option R
 |0,_,_,_=>none
 |n+1,sl,os,k=>step (St.of sl os) λe σ=>match e with
  |.normal=>UN lv σ λsl os=>V4 step lv n sl os k
  |e=>k e σ
def V8(c:Ctx)(r:Nat)(k:vS->St->Option R):vS->St->Option R
 |.exit id,σ=>match c.EX r id with
  |some lv=>norm lv σ (k (.exit id))
  |none=>none
 |.ret,σ=>norm c.res σ (k .ret)
 |.normal,_=>none
def ze7(next:St->(vS->St->Option R)->Option R)(k:vS->St->Option R):vS->St->Option R
 |.normal,σ=>next σ k
 |e,σ=>k e σ
def z6w(id:Nat)(k:vS->St->Option R):vS->St->Option R
 |.exit j,σ=>cond (Nat.beq j id) (k .normal σ) (k (.exit j) σ)
 |e,σ=>k e σ
def ze9(cut:Option Cut)(next:St->(vS->St->Option R)->Option R)(σ:St)(k:vS->St->Option R):Option R:=
 match cut with
 |some lv=>norm lv σ λσ=>next σ k
 |none=>next σ k
def cutAt(c:Ctx)(b:Code):Option Cut:=match b with
 |.loop _=>none
 |b=>(jz b).bind c.cut
def vA(c:Ctx):Code->St->(vS->St->Option R)->Option R
 |.skip,σ,k=>k .normal σ
 |.region _ ops draw,σ,k=>FZ c ops draw σ (k .normal)
 |.seq a b,σ,k=>vA c a σ (ze7 (ze9 (cutAt c b) (vA c b)) k)
 |.cond x a b,σ,k=>match ev σ x with
  |some (.data .bool t)=>cond t (vA c a σ k) (vA c b σ k)
  |_=>none
 |.block id b,σ,k=>vA c b σ (z6w id k)
 |.loop b,σ,k=>match jz b with
  |some r=>match c.cut r with
   |some lv=>match c.lp r with
    |some L=>UN lv σ λsl os=>L R sl os k
    |none=>none
   |none=>none
  |none=>none
 |.exit id,σ,k=>k (.exit id) σ
 |.ret,σ,k=>k .ret σ
 |_,_,_=>none
def j4:Code->List Code
 |.seq a b=>j4 a++j4 b
 |.cond _ a b=>j4 a++j4 b
 |.block _ b=>j4 b
 |.loop b=>b::j4 b
 |_=>[]
def Jy(c:Ctx)(b:Code):Prop:=∀r lv L,jz b=some r->c.cut r=some lv->c.lp r=some L->
 ∀(R:Type) (sl:List (Nat×z7)) (os:List Obj) (k:vS->St->Option R) (x:R),L R sl os k=some x->V4 (vA c b) lv c.fuel sl os (V8 c r k)=some x
def Z8(r:Nat):List Code->Code
 |[]=>.skip
 |b::l=>match jz b with
  |some r'=>cond (Nat.beq r r') b (Z8 r l)
  |none=>Z8 r l
def rvK(tt:Nat->Option Ty)(σ:St):ResultVar->(z7->Option R)->Option R
 |.tmp s,k=>match σ.zy s with
  |some a=>k a
  |none=>none
 |.cell s T,k=>match σ.zy s,tt T with
  |some x,some u=>ZR σ x λa=>cond (u.sk.same a.sk) (k a) none
  |_,_=>none
def G7(tt:Nat->Option Ty)(σ:St):(ts:List Ty)->List ResultVar->(jY ts->St->Option R)->Option R
 |[],[],k=>k () σ
 |[t],[s],k=>rvK tt σ s λa=>cond (a.val&&a.sk.same t.sk) (qO 20 a t σ k) none
 |t::u::ts,s::l,k=>rvK tt σ s λa=>cond (a.val&&a.sk.same t.sk) (qO 20 a t σ λd σ=>G7 tt σ (u::ts) l λds σ=>k (d,ds) σ) none
 |_,_,_=>none
def jP:(p:kG)->p.den->Nat->Nat->Option z7
 |.pr (.val t) q,(x,y),i=>Y4 (jP q y (i+1)) i (some (.data t x))
 |_,_,_=>λ_=>none
def entry(p:kG)(d:p.den):St:=⟨jP p d 0,λ_=>none,0⟩
def z9y(c:Ctx)(ts:List Ty)(rs:List ResultVar)(body:Code)(σ:St):Option (jY ts):=
 vA c body σ λe σ=>match e with
  |.exit _=>none
  |_=>norm c.res σ λσ=>G7 c.tt σ ts rs λr _=>some r
def z9x(c:Ctx)(qv:wQ)(body:Code)(σ:St):Option qv.den:=
 vA c body σ λe σ=>match e with
  |.exit _=>none
  |_=>UN c.res σ λsl os=>qv.take sl os some
end
end Go.Kz
namespace Go.Kz
inductive Tag where
 |qw|ro|row (id:Nat) (p:Path)|box (id:Nat)
structure z8 where
 tag:Nat->Tag
 sv:Nat->Path->Value
 qY:Nat->Nat
abbrev Ee:=Option (Nat×Path)
def stp(o:Ee)(s:Step):Ee:=o.map λx=>(x.1,x.2++[s])
def qi(l:List Value)(off n:Nat):List Value:=(l.drop off).take n
def WW(F:(k:Nat)->Rec k->List Value->Prop)(w:World)(g:z8):(t:Ty)->t.den->List Value->Prop
 |.int k,n,cs=>cs=[.int k n]/\k.min<=n/\n<=k.max
 |.bool,b,cs=>cs=[.bool b]
 |.str,l,cs=>∃s:ByteArray,cs=[.string s]/\s.data.toList=l/\s.size<=maxLen
 |.unit,_,cs=>cs=[]
 |.pair a b,(x,y),cs=>∃c1 c2,cs=c1++c2/\WW F w g a x c1/\WW F w g b y c2
 |.arr n t,l,cs=>List.length l=n/\cs.length=n*t.size/\
   ∀(i:Nat)(h:i<List.length l),WW F w g t (List.get l ⟨i,h⟩) (qi cs (i*t.size) t.size)
 |.sl false t,l,cs=>∃a cap,cs=[.slice a (List.length l) cap]/\List.length l<=cap/\cap<=maxLen/\
   (l≠[]->∃b off c e fz,a=some ⟨b,off,none⟩/\g.tag b=.ro/\w.heap[b]? = some (.cells c e fz)/\off+List.length l*t.size<=c.size/\
    ∀(i:Nat)(h:i<List.length l),WW F w g t (List.get l ⟨i,h⟩) (qi c.toList (off+i*t.size) t.size))
 |.tree k,x,cs=>F k x cs
 |_,_,_=>False
def pJ(w:World)(g:z8):Nat->(k:Nat)->Rec k->List Value->Prop
 |0=>λ_ _ _=>False
 |n+1=>λk x cs=>WW (pJ w g n) w g (.pair (xq k) (xz k)) (jR k x) cs
def zM(w:World)(g:z8):Ee->(t:Ty)->t.den->List Value->Prop
 |_,.int k,n,cs=>cs=[.int k n]/\k.min<=n/\n<=k.max
 |_,.bool,b,cs=>cs=[.bool b]
 |_,.str,l,cs=>∃s:ByteArray,cs=[.string s]/\s.data.toList=l/\s.size<=maxLen
 |_,.unit,_,cs=>cs=[]
 |o,.pair a b,(x,y),cs=>∃c1 c2,cs=c1++c2/\zM w g (stp o .fst) a x c1/\zM w g (stp o .snd) b y c2
 |o,.arr n t,l,cs=>List.length l=n/\cs.length=n*t.size/\
   ∀(i:Nat)(h:i<List.length l),zM w g (stp o (.idx i)) t (List.get l ⟨i,h⟩) (qi cs (i*t.size) t.size)
 |_,.sl false t,l,cs=>∃a cap,cs=[.slice a (List.length l) cap]/\List.length l<=cap/\cap<=maxLen/\
   (l≠[]->∃b off c e fz,a=some ⟨b,off,none⟩/\g.tag b=.ro/\w.heap[b]? = some (.cells c e fz)/\off+List.length l*t.size<=c.size/\
    ∀(i:Nat)(h:i<List.length l),zM w g none t (List.get l ⟨i,h⟩) (qi c.toList (off+i*t.size) t.size))
 |some (id,p),.sl true t,l,cs=>∃a cap,cs=[.slice a (List.length l) cap]/\g.sv id p=.slice a (List.length l) cap/\List.length l<=cap/\cap<=maxLen/\
   ((a=none/\l=[]/\cap=0)\/∃b off c e,a=some ⟨b,off,none⟩/\g.tag b=.row id p/\w.heap[b]? = some (.cells c e (0,0))/\off+cap*t.size<=c.size/\
    ∀(i:Nat)(h:i<List.length l),zM w g (some (id,p++[.idx i])) t (List.get l ⟨i,h⟩) (qi c.toList (off+i*t.size) t.size))
 |none,.sl true _,_,_=>False
 |_,.ptr t,d,cs=>∃b off c e fz,cs=[.pointer (some ⟨b,off,none⟩)]/\g.tag b=.ro/\w.heap[b]? = some (.cells c e fz)/\off+t.size<=c.size/\
   zM w g none t d (qi c.toList off t.size)
 |_,.fn f t,d,cs=>∃vs,cs=[.func (.func f) #[] vs.toArray]/\zM w g none t d vs
 |_,.tree k,x,cs=>∃n,pJ w g n k x cs
theorem yO{l:List Value}{off n:Nat}(h:off+n<=l.length):(qi l off n).length=n:=by
 grind[qi]
theorem WW.len{F:(k:Nat)->Rec k->List Value->Prop}{w:World}{g:z8}(hF:∀k x cs,F k x cs->cs.length=Da k):{t:Ty}->{d:t.den}->{cs:List Value}->WW F w g t d cs->cs.length=t.size
 |.int _,_,_,h=>by obtain⟨rfl,_⟩:=h;rfl
 |.bool,_,_,h=>by cases h;rfl
 |.str,_,_,h=>by obtain⟨s,rfl,_⟩:=h;rfl
 |.unit,_,_,h=>by cases h;rfl
 |.pair a b,(x,y),_,h=>by
  obtain⟨c1,c2,rfl,h1,h2⟩:=h
  simp only[Jz,Ty.size,WW.len hF h1,WW.len hF h2]
 |.arr n t,_,_,h=>h.2.1
 |.sl false t,_,_,h=>by obtain⟨a,cap,rfl,_⟩:=h;rfl
 |.tree k,_,_,h=>hF _ _ _ h
theorem pJ.len{w:World}{g:z8}:{n k:Nat}->{x:Rec k}->{cs:List Value}->pJ w g n k x cs->cs.length=Da k
 |n+1,k,_,_,h=>(WW.len (λ_ _ _ h=>pJ.len h) h).trans (AF k).symm
theorem zM.len{w:World}{g:z8}:{o:Ee}->{t:Ty}->{d:t.den}->{cs:List Value}->zM w g o t d cs->cs.length=t.size
 |_,.int _,_,_,h=>by obtain⟨rfl,_⟩:=h;rfl
 |_,.bool,_,_,h=>by cases h;rfl
 |_,.str,_,_,h=>by obtain⟨s,rfl,_⟩:=h;rfl
 |_,.unit,_,_,h=>by cases h;rfl
 |_,.pair a b,(x,y),_,h=>by
  obtain⟨c1,c2,rfl,h1,h2⟩:=h
  simp only[Jz,Ty.size,zM.len h1,zM.len h2]
 |_,.arr n t,_,_,h=>h.2.1
 |_,.sl false t,_,_,h=>by obtain⟨a,cap,rfl,_⟩:=h;rfl
 |some (_,_),.sl true t,_,_,h=>by obtain⟨a,cap,rfl,_⟩:=h;rfl
 |none,.sl true t,_,_,h=>h.elim
 |_,.ptr t,_,_,h=>by obtain⟨b,off,c,e,fz,rfl,_⟩:=h;rfl
 |_,.fn f t,_,_,h=>by obtain⟨vs,rfl,_⟩:=h;rfl
 |_,.tree k,_,_,h=>by obtain⟨n,h⟩:=h;exact h.len
structure zS (w:World) (g:z8) (w':World) (g':z8):Prop where
 qY:∀b,g.tag b=.ro->g'.tag b=.ro/\w'.heap[b]? = w.heap[b]?
structure Zi (w:World) (g:z8) (w':World) (g':z8) (id:Nat) (p:Path) (vT:Nat) (p':Path):Prop where
 sv:∀q,g'.sv vT (p'++q)=g.sv id (p++q)
 qY:∀q b,g.tag b=.row id (p++q)->g'.tag b=.row vT (p'++q)/\w'.heap[b]? = w.heap[b]?
def UD(w:World)(g:z8)(w':World)(g':z8):Ee->Ee->Prop
 |some (id,p),some (vT,p')=>Zi w g w' g' id p vT p'
 |none,none=>True
 |_,_=>False
theorem Zi.step{w w':World}{g g':z8}{id vT:Nat}{p p':Path}(h:Zi w g w' g' id p vT p')(s:Step):
  Zi w g w' g' id (p++[s]) vT (p'++[s]):=by
 refine⟨λq=>?_,λq b hb=>?_⟩
 ·have:=h.sv ([s]++q);grind
 ·have:=h.qY ([s]++q) b (by grind);grind
theorem UD.step{w w':World}{g g':z8}:{o o':Ee}->(h:UD w g w' g' o o')->(s:Step)->UD w g w' g' (stp o s) (stp o' s)
 |some _,some _,h,s=>Zi.step h s
 |none,none,_,_=>trivial
 |some _,none,h,_=>h.elim
 |none,some _,h,_=>h.elim
theorem WW.move{F F':(k:Nat)->Rec k->List Value->Prop}{w w':World}{g g':z8}(hr:zS w g w' g')(hF:∀k x cs,F k x cs->F' k x cs):{t:Ty}->{d:t.den}->{cs:List Value}->WW F w g t d cs->WW F' w' g' t d cs
 |.int _,_,_,h=>h
 |.bool,_,_,h=>h
 |.str,_,_,h=>h
 |.unit,_,_,h=>h
 |.pair a b,(x,y),_,h=>by
  obtain⟨c1,c2,rfl,h1,h2⟩:=h
  exact⟨c1,c2,rfl,WW.move hr hF h1,WW.move hr hF h2⟩
 |.arr n t,_,_,h=>⟨h.1,h.2.1,λi hi=>WW.move hr hF (h.2.2 i hi)⟩
 |.sl false t,l,_,h=>by
  obtain⟨a,cap,rfl,h1,h2,h3⟩:=h;refine⟨a,cap,rfl,h1,h2,λhn=>?_⟩;obtain⟨b,off,c,e,fz,ha,ht,hb,hs,he⟩:=h3 hn;have hk:=hr.qY b ht
  exact⟨b,off,c,e,fz,ha,hk.1,hk.2.trans hb,hs,λi hi=>WW.move hr hF (he i hi)⟩
 |.tree k,_,_,h=>hF _ _ _ h
theorem pJ.move{w w':World}{g g':z8}(hr:zS w g w' g'):{n k:Nat}->{x:Rec k}->{cs:List Value}->pJ w g n k x cs->pJ w' g' n k x cs
 |n+1,_,_,_,h=>WW.move hr (λ_ _ _ h=>pJ.move hr h) h
theorem zS.rfl{w:World}{g:z8}:zS w g w g:=⟨λ_ h=>⟨h,_root_.rfl⟩⟩
theorem pJ.mono{w:World}{g:z8}:{n m k:Nat}->{x:Rec k}->{cs:List Value}->n<=m->pJ w g n k x cs->pJ w g m k x cs
 |n+1,m+1,_,_,_,YL,h=>WW.move .rfl (λ_ _ _ h=>pJ.mono (by omega) h) h
theorem zM.move{w w':World}{g g':z8}(hr:zS w g w' g'):{o o':Ee}->{t:Ty}->{d:t.den}->{cs:List Value}->
  (hm:UD w g w' g' o o')->zM w g o t d cs->zM w' g' o' t d cs
 |_,_,.int _,_,_,_,h=>h
 |_,_,.bool,_,_,_,h=>h
 |_,_,.str,_,_,_,h=>h
 |_,_,.unit,_,_,_,h=>h
 |_,_,.pair a b,(x,y),_,hm,h=>by
  obtain⟨c1,c2,rfl,h1,h2⟩:=h
  exact⟨c1,c2,rfl,zM.move hr (hm.step _) h1,zM.move hr (hm.step _) h2⟩
 |_,_,.arr n t,_,_,hm,h=>⟨h.1,h.2.1,λi hi=>zM.move hr (hm.step _) (h.2.2 i hi)⟩
 |_,_,.sl false t,l,_,_,h=>by
  obtain⟨a,cap,rfl,h1,h2,h3⟩:=h;refine⟨a,cap,rfl,h1,h2,λhn=>?_⟩;obtain⟨b,off,c,e,fz,ha,ht,hb,hs,he⟩:=h3 hn;have hk:=hr.qY b ht
  exact⟨b,off,c,e,fz,ha,hk.1,hk.2.trans hb,hs,λi hi=>zM.move hr (o:=none) (o':=none) trivial (he i hi)⟩
 |some (id,p),some (vT,p'),.sl true t,l,_,hm,h=>by
  obtain⟨a,cap,rfl,h0,h1,h2,h3⟩:=h;have Ub:Zi w g w' g' id p vT p':=hm;refine⟨a,cap,rfl,?_,h1,h2,?_⟩
  ·have:=Ub.sv [];grind
  ·rcases h3 with h3|⟨b,off,c,e,ha,ht,hb,hs,he⟩
   ·grind
   ·have hk:=Ub.qY [] b (by grind);simp only[Hc]at hk
    exact .inr ⟨b,off,c,e,ha,hk.1,hk.2.trans hb,hs,λi hi=>zM.move hr (o:=some (id,p++[Step.idx (i:Int)])) (o':=some (vT,p'++[Step.idx (i:Int)])) (Ub.step _) (he i hi)⟩
 |some _,none,.sl true _,_,_,hm,_=>hm.elim
 |none,_,.sl true _,_,_,_,h=>h.elim
 |_,_,.ptr t,_,_,_,h=>by
  obtain⟨b,off,c,e,fz,rfl,ht,hb,hs,he⟩:=h;have hk:=hr.qY b ht
  exact⟨b,off,c,e,fz,rfl,hk.1,hk.2.trans hb,hs,zM.move hr (o:=none) (o':=none) trivial he⟩
 |_,_,.fn f t,_,_,_,h=>by
  obtain⟨vs,rfl,he⟩:=h
  exact⟨vs,rfl,zM.move hr (o:=none) (o':=none) trivial he⟩
 |_,_,.tree k,_,_,_,h=>by obtain⟨n,h⟩:=h;exact⟨n,h.move hr⟩
theorem zM.kept{w w':World}{g g':z8}(hr:zS w g w' g'){t:Ty}{d:t.den}{cs:List Value}(h:zM w g none t d cs):zM w' g' none t d cs:=
 zM.move hr (o:=none) (o':=none) trivial h
structure Jw (w:World) (g:z8) (w':World) (g':z8) (id:Nat) (p:Path):Prop where
 qY:∀q b,g.tag b=.row id (p++q)->g'.tag b=.ro/\w'.heap[b]? = w.heap[b]?
def A5(w:World)(g:z8)(w':World)(g':z8):Ee->Prop
 |some (id,p)=>Jw w g w' g' id p
 |none=>True
theorem Jw.step{w w':World}{g g':z8}{id:Nat}{p:Path}(h:Jw w g w' g' id p)(s:Step):Jw w g w' g' id (p++[s]):=
 ⟨λq b hb=>h.qY ([s]++q) b (by grind)⟩
theorem A5.step{w w':World}{g g':z8}:{o:Ee}->(h:A5 w g w' g' o)->(s:Step)->A5 w g w' g' (stp o s)
 |some _,h,s=>Jw.step h s
 |none,_,_=>trivial
theorem Ty.qo:(t:Ty)->t.ro.size=t.size
 |.int _=>rfl
 |.bool=>rfl
 |.str=>rfl
 |.unit=>rfl
 |.pair a b=>by simp only[Ty.ro,Ty.size,Ty.qo a,Ty.qo b]
 |.arr n t=>by simp only[Ty.ro,Ty.size,Ty.qo t]
 |.sl _ t=>rfl
 |.ptr _=>rfl
 |.fn _ _=>rfl
 |.tree _=>rfl
theorem To(a b:Ty)(x:a.den)(y:b.den):Ty.kU (.pair a b) (x,y)=(Ty.kU a x,Ty.kU b y):=by
 grind[Ty.kU]
theorem DU(t:Ty)(l:List t.den)(h:List t.ro.den=List t.den):cast h.symm l=l.map (Ty.kU t):=by
 unfold Ty.kU;have key:∀(A A':Type)(h1:A'=A)(h3:List A'=List A)(l:List A),cast h3.symm l=l.map (cast h1.symm):=by
  intro A A' h1 h3 l;subst h1;exact(List.map_id l).symm
 simp_all[Ty.Q6]
theorem VF(o:Bool)(t:Ty)(l:List t.den):Ty.kU (.sl o t) l=(l.map (Ty.kU t):List t.ro.den):=DU t l (Ty.Q6 (.sl o t))
theorem z4a(n:Nat)(t:Ty)(l:List t.den):Ty.kU (.arr n t) l=(l.map (Ty.kU t):List t.ro.den):=DU t l (Ty.Q6 (.arr n t))
theorem z48(t:Ty)(d:t.den):Ty.kU (.ptr t) d=Ty.kU t d:=rfl
theorem zcy(f:Nat)(t:Ty)(d:t.den):Ty.kU (.fn f t) d=Ty.kU t d:=rfl
theorem zM.freeze{w w':World}{g g':z8}(hr:zS w g w' g'):{o:Ee}->{t:Ty}->{d:t.den}->{cs:List Value}->
  (hm:A5 w g w' g' o)->zM w g o t d cs->zM w' g' none t.ro (Ty.kU t d) cs
 |_,.int _,_,_,_,h=>h
 |_,.bool,_,_,_,h=>h
 |_,.str,_,_,_,h=>h
 |_,.unit,_,_,_,h=>h
 |_,.pair a b,(x,y),_,hm,h=>by
  obtain⟨c1,c2,rfl,h1,h2⟩:=h;rw[To]
  exact⟨c1,c2,rfl,zM.freeze hr (hm.step _) h1,zM.freeze hr (hm.step _) h2⟩
 |_,.arr n t,l,_,hm,h=>by
  rw[z4a];refine⟨by simpa using h.1,by rw[Ty.qo];exact h.2.1,λi hi=>?_⟩;have wu:i<List.length l:=by grind
  have:=zM.freeze hr (hm.step _) (h.2.2 i wu);simp only[R3,R0,Ty.qo]at this⊢
  exact this
 |_,.sl false t,l,_,_,h=>by
  obtain⟨a,cap,rfl,h1,h2,h3⟩:=h;rw[VF];refine⟨a,cap,by simp,by grind,h2,λhn=>?_⟩;obtain⟨b,off,c,e,fz,ha,ht,hb,hs,he⟩:=h3 (by grind);have hk:=hr.qY b ht;refine⟨b,off,c,e,fz,ha,hk.1,hk.2.trans hb,by grind[Ty.qo],λi hi=>?_⟩;have wu:i<List.length l:=by grind
  have:=zM.freeze hr (o:=none) trivial (he i wu)
  grind[Ty.qo]
 |some (id,p),.sl true t,l,_,hm,h=>by
  obtain⟨a,cap,rfl,h0,h1,h2,h3⟩:=h;have Ub:Jw w g w' g' id p:=hm;rw[VF];refine⟨a,cap,by simp,by grind,h2,λhn=>?_⟩;have Ff:l≠[]:=by grind
  rcases h3 with h3|⟨b,off,c,e,ha,ht,hb,hs,he⟩
  ·grind
  ·have hk:=Ub.qY [] b (by grind);refine⟨b,off,c,e,(0,0),ha,hk.1,hk.2.trans hb,?_,λi hi=>?_⟩
   ·have:List.length l*t.size<=cap*t.size:=wI _ h1
    grind[Ty.qo]
   ·have wu:i<List.length l:=by grind
    have:=zM.freeze hr (o:=some (id,p++[Step.idx (i:Int)])) (Ub.step _) (he i wu)
    grind[Ty.qo]
 |none,.sl true _,_,_,_,h=>h.elim
 |_,.ptr t,_,_,_,h=>by
  obtain⟨b,off,c,e,fz,rfl,ht,hb,hs,he⟩:=h;have hk:=hr.qY b ht;rw[z48];refine⟨b,off,c,e,fz,rfl,hk.1,hk.2.trans hb,by grind[Ty.qo],?_⟩;rw[Ty.qo]
  exact zM.freeze hr (o:=none) trivial he
 |_,.fn f t,_,_,_,h=>by
  obtain⟨vs,rfl,he⟩:=h;rw[zcy]
  exact⟨vs,rfl,zM.freeze hr (o:=none) trivial he⟩
 |_,.tree k,x,_,_,h=>by obtain⟨n,h⟩:=h;exact⟨n,h.move hr⟩
def Ty.plain:Ty->Bool
 |.int _ |.bool |.str |.unit=>true
 |.pair a b=>a.plain&&b.plain
 |.arr _ t=>t.plain
 |.sl false t=>t.plain
 |.tree _=>true
 |_=>false
theorem Ty.QV:{t:Ty}->t.plain=true->t.zW=true
 |.int _,_=>rfl
 |.bool,_=>rfl
 |.str,_=>rfl
 |.unit,_=>rfl
 |.pair a b,h=>by simp only[Ty.plain,zA]at h;simp[Ty.zW,Ty.QV h.1,Ty.QV h.2]
 |.arr _ t,h=>by simp only[Ty.plain]at h;simp only[Ty.zW];exact Ty.QV h
 |.sl false t,h=>by simp only[Ty.plain]at h;simp only[Ty.zW];simpa using Ty.QV h
 |.sl true _,h=>by simp[Ty.plain]at h
 |.ptr _,h=>by simp[Ty.plain]at h
 |.fn _ _,h=>by simp[Ty.plain]at h
 |.tree _,_=>rfl
theorem DT:(k:Nat)->(Ty.pair (xq k) (xz k)).plain=true
 |0=>rfl
 |1=>rfl
 |_+2=>rfl
theorem zM.Ir{w:World}{g:z8}{n:Nat}:{t:Ty}->{d:t.den}->{cs:List Value}->WW (pJ w g n) w g t d cs->zM w g none t d cs
 |.int _,_,_,h=>h
 |.bool,_,_,h=>h
 |.str,_,_,h=>h
 |.unit,_,_,h=>h
 |.pair a b,(x,y),_,h=>by
  obtain⟨c1,c2,rfl,h1,h2⟩:=h
  exact⟨c1,c2,rfl,zM.Ir h1,zM.Ir h2⟩
 |.arr n t,_,_,h=>⟨h.1,h.2.1,λi hi=>zM.Ir (h.2.2 i hi)⟩
 |.sl false t,l,_,h=>by
  obtain⟨a,cap,rfl,h1,h2,h3⟩:=h;refine⟨a,cap,rfl,h1,h2,λhn=>?_⟩;obtain⟨b,off,c,e,fz,ha,ht,hb,hs,he⟩:=h3 hn
  exact⟨b,off,c,e,fz,ha,ht,hb,hs,λi hi=>zM.Ir (he i hi)⟩
 |.tree k,_,_,h=>⟨n,h⟩
theorem UP{p:Nat->Nat->Prop}(hp:∀n m i,n<=m->p n i->p m i):(l:Nat)->(∀i,i<l->∃n,p n i)->∃n,∀i,i<l->p n i
 |0,_=>⟨0,λi hi=>by omega⟩
 |l+1,h=>by
  obtain⟨n,hn⟩:=UP hp l λi hi=>h i (by omega)
  obtain⟨m,hm⟩:=h l (by omega);refine⟨max n m,λi hi=>?_⟩;by_cases he:i=l
  ·grind
  ·exact hp _ _ _ (by omega) (hn i (by omega))
theorem zM.Iv{w:World}{g:z8}:{t:Ty}->{d:t.den}->{cs:List Value}->t.plain=true->zM w g none t d cs->∃n,WW (pJ w g n) w g t d cs
 |.int _,_,_,_,h=>⟨0,h⟩
 |.bool,_,_,_,h=>⟨0,h⟩
 |.str,_,_,_,h=>⟨0,h⟩
 |.unit,_,_,_,h=>⟨0,h⟩
 |.pair a b,(x,y),_,hp,h=>by
  simp only[Ty.plain,zA]at hp;obtain⟨c1,c2,rfl,h1,h2⟩:=h;obtain⟨n,h1⟩:=zM.Iv hp.1 h1;obtain⟨m,h2⟩:=zM.Iv hp.2 h2
  exact⟨max n m,c1,c2,rfl,WW.move .rfl (λ_ _ _ h=>h.mono (by omega)) h1,WW.move .rfl (λ_ _ _ h=>h.mono (by omega)) h2⟩
 |.arr k t,l,cs,hp,h=>by
  obtain⟨n,hn⟩:=UP (p:=λn i=>∀hi:i<List.length l,WW (pJ w g n) w g t (List.get l ⟨i,hi⟩) (qi cs (i*t.size) t.size))
   (λn m i YL h hi=>WW.move .rfl (λ_ _ _ h=>h.mono YL) (h hi)) (List.length l) λi hi=>by
    obtain⟨n,hn⟩:=zM.Iv (by grind[Ty.plain]) (h.2.2 i hi);exact⟨n,λ_=>hn⟩
  exact⟨n,h.1,h.2.1,λi hi=>hn i hi hi⟩
 |.sl false t,l,cs,hp,h=>by
  obtain⟨a,cap,rfl,h1,h2,h3⟩:=h;by_cases hl:l=[]
  ·exact⟨0,a,cap,rfl,h1,h2,λhn=>absurd hl hn⟩
  obtain⟨b,off,c,e,fz,ha,ht,hb,hs,he⟩:=h3 hl;obtain⟨n,hn⟩:=UP (p:=λn i=>∀hi:i<List.length l,WW (pJ w g n) w g t (List.get l ⟨i,hi⟩) (qi c.toList (off+i*t.size) t.size))
   (λn m i YL h hi=>WW.move .rfl (λ_ _ _ h=>h.mono YL) (h hi)) (List.length l) λi hi=>by
    obtain⟨n,hn⟩:=zM.Iv (by grind[Ty.plain]) (he i hi);exact⟨n,λ_=>hn⟩
  exact⟨n,a,cap,rfl,h1,h2,λ_=>⟨b,off,c,e,fz,ha,ht,hb,hs,λi hi=>hn i hi hi⟩⟩
 |.tree k,_,_,_,h=>h
 |.sl true _,_,_,hp,_=>by grind[Ty.plain]
 |.ptr _,_,_,hp,_=>by grind[Ty.plain]
 |.fn _ _,_,_,hp,_=>by grind[Ty.plain]
theorem zM.Ks{w:World}{g:z8}{o:Ee}{k:Nat}{x:Rec k}{cs:List Value}:zM w g o (.tree k) x cs↔zM w g none (.pair (xq k) (xz k)) (jR k x) cs:=by
 refine⟨λh=>?_,λh=>?_⟩
 ·obtain⟨n,h⟩:=h
  cases n with
  |zero=>exact h.elim
  |succ n=>exact zM.Ir h
 ·obtain⟨n,h⟩:=zM.Iv (DT k) h;exact⟨n+1,h⟩
end Go.Kz
namespace Go.Kz
def zB(l:List Value)(off:Nat)(x:List Value):List Value:=l.take off++x++l.drop (off+x.length)
theorem uP(l:List Value)(a n b m:Nat)(h:b+m<=n):qi (qi l a n) b m=qi l (a+b) m:=by
 simp only[qi,Z4n,Z1t,Z2t];congr 1;omega
theorem gM(l:List Value):qi l 0 l.length=l:=by simp[qi]
theorem yJ(a b:List Value)(off n:Nat)(h:off+n<=a.length):qi (a++b) off n=qi a off n:=by
 simp only[qi];rw[Z2y (by omega),Z39 (by simp;omega)]
theorem Pa(a b:List Value)(off n:Nat):qi (a++b) (a.length+off) n=qi b off n:=by
 simp only[qi,Z3a,I4 (show a.length<=a.length+off by omega),JD];congr 2;omega
theorem yB(a b:List Value)(k off n:Nat)(h:k=a.length):qi (a++b) (k+off) n=qi b off n:=by
 subst h;exact Pa a b off n
theorem yS(l:List Value)(off:Nat)(x:List Value)(h:off+x.length<=l.length):(zB l off x).length=l.length:=by
 simp only[zB,Jz,CB,Z20];omega
theorem wE(a b:List Value)(off:Nat)(x:List Value)(h:off+x.length<=a.length):zB (a++b) off x=zB a off x++b:=by
 simp only[zB,Z39 (show off<=a.length by omega),Z2y h,XQ]
theorem w7(a b:List Value)(k off:Nat)(x:List Value)(h:k=a.length):zB (a++b) (k+off) x=a++zB b off x:=by
 subst h;simp only[zB,List.take_append,Z21 (show a.length<=a.length+off by omega),XQ];congr 1;congr 1
 ·congr 1;omega
 ·congr 1;rw[Z3a,I4 (by omega),JD];congr 1;omega
theorem x5(l:List Value)(off:Nat)(x:List Value)(h:off+x.length<=l.length):qi (zB l off x) off x.length=x:=by
 simp only[qi,zB,XQ];rw[Z2y (by simp;omega),I4 (by simp;omega),JD,List.take_left'];rfl
theorem j9(l:List Value)(off:Nat)(x:List Value)(a n:Nat)(h:a+n<=off)(hl:off<=l.length):qi (zB l off x) a n=qi l a n:=by
 simp only[zB,XQ];rw[yJ _ _ _ _ (by simp;omega)];simp only[qi,Z4n,Z2t];congr 1;omega
theorem vJ(l:List Value)(off:Nat)(x:List Value)(a n:Nat)(h:off+x.length<=a)(hl:off+x.length<=l.length):qi (zB l off x) a n=qi l a n:=by
 obtain⟨k,rfl⟩:∃k,a=off+x.length+k:=⟨a-(off+x.length),by omega⟩;simp only[zB];rw[yB _ _ _ _ _ (by simp;omega)];simp only[qi,Z1t]
theorem uj(l:List Value)(a n off:Nat)(x:List Value)(h:off+x.length<=n)(hl:a+n<=l.length):
  qi (zB l (a+off) x) a n=zB (qi l a n) off x:=by
 have e:l=l.take a++(qi l a n++l.drop (a+n)):=by
  simp only[qi];rw[<-Z1t,Z1v,Z1v]
 have hs:(qi l a n).length=n:=yO hl;have ha:(l.take a).length=a:=by simp;omega
 have e2:zB l (a+off) x=l.take a++(zB (qi l a n) off x++l.drop (a+n)):=by
  conv=>lhs;rw[e]
  rw[w7 _ _ _ _ _ ha.symm,wE _ _ _ _ (by omega)]
 rw[e2];have hsp:(zB (qi l a n) off x).length=n:=by rw[yS _ _ _ (by omega),hs]
 have:=yB (l.take a) (zB (qi l a n) off x++l.drop (a+n)) a 0 n ha.symm;simp only[Ot]at this;rw[this,yJ _ _ _ _ (by omega)];have h2:=gM (zB (qi l a n) off x);rw[hsp]at h2;exact h2
def Sk.off:Sk->Path->Option (Nat×Sk)
 |s,[]=>some (0,s)
 |.pair a _,.fst::p=>a.off p
 |.pair a b,.snd::p=>(b.off p).map λx=>(a.size+x.1,x.2)
 |.arr n t,.idx i::p=>if 0<=i/\i<n then (t.off p).map λx=>(i.toNat*t.size+x.1,x.2) else none
 |_,_=>none
theorem Ty.zX:(t:Ty)->t.sk.size=t.size
 |.int _=>rfl
 |.bool=>rfl
 |.str=>rfl
 |.unit=>rfl
 |.pair a b=>by simp only[Ty.sk,Sk.size,Ty.size,Ty.zX a,Ty.zX b]
 |.arr n t=>by simp only[Ty.sk,Sk.size,Ty.size,Ty.zX t]
 |.sl _ t=>rfl
 |.ptr _=>rfl
 |.fn _ _=>rfl
 |.tree _=>rfl
theorem Sk.qJ:{a b:Sk}->a.same b=true->a=b
 |.leaf,.leaf,_=>rfl
 |.unit,.unit,_=>rfl
 |.pair a b,.pair c d,h=>by
  simp only[Sk.same,zA]at h
  rw[Sk.qJ h.1,Sk.qJ h.2]
 |.arr n t,.arr m u,h=>by
  simp only[Sk.same,zA]at h
  rw[zE h.1,Sk.qJ h.2]
 |.leaf,.unit,h |.leaf,.pair _ _,h |.leaf,.arr _ _,h |.unit,.leaf,h |.unit,.pair _ _,h |.unit,.arr _ _,h
 |.pair _ _,.leaf,h |.pair _ _,.unit,h |.pair _ _,.arr _ _,h |.arr _ _,.leaf,h |.arr _ _,.unit,h |.arr _ _,.pair _ _,h=>by simp[Sk.same]at h
 |.tree _,.tree _,h=>by simp only[Sk.same]at h;rw[zE h]
 |.leaf,.tree _,h |.unit,.tree _,h |.pair _ _,.tree _,h |.arr _ _,.tree _,h |.tree _,.leaf,h |.tree _,.unit,h |.tree _,.pair _ _,h |.tree _,.arr _ _,h=>by simp[Sk.same]at h
theorem Sk.we:{s:Sk}->{p:Path}->{o:Nat}->{s':Sk}->s.off p=some (o,s')->o+s'.size<=s.size
 |s,[],o,s',h=>by simp only[Sk.off,zI,p8]at h;obtain⟨rfl,rfl⟩:=h;omega
 |.pair a b,.fst::p,o,s',h=>by
  simp only[Sk.off]at h
  have:=Sk.we h;simp only[Sk.size];omega
 |.pair a b,.snd::p,o,s',h=>by
  simp only[Sk.off,kT,p8]at h;obtain⟨x,hx,rfl,rfl⟩:=h
  have:=Sk.we (s:=b) (p:=p) (o:=x.1) (s':=x.2) hx;simp only[Sk.size];omega
 |.arr n t,.idx i::p,o,s',h=>by
  simp only[Sk.off]at h;split at h
  ·rename_i hi;simp only[kT,p8]at h;obtain⟨x,hx,rfl,rfl⟩:=h;have:=Sk.we (s:=t) (p:=p) (o:=x.1) (s':=x.2) hx;have h2:(i.toNat+1)*t.size<=n*t.size:=wI _ (by omega);simp only[Sk.size];rw[kK]at h2;omega
  ·simp at h
 |.leaf,_::_,_,_,h |.unit,_::_,_,_,h |.tree _,_::_,_,_,h |.pair _ _,.idx _::_,_,_,h |.arr _ _,.fst::_,_,_,h |.arr _ _,.snd::_,_,_,h=>by simp[Sk.off]at h
theorem Sk.Z3:{s:Sk}->{p:Path}->{o:Nat}->{s':Sk}->(q:Path)->s.off p=some (o,s')->s.off (p++q)=(s'.off q).map λx=>(o+x.1,x.2)
 |s,[],o,s',q,h=>by simp only[Sk.off,zI,p8]at h;obtain⟨rfl,rfl⟩:=h;simp
 |.pair a b,.fst::p,o,s',q,h=>by
  simp only[Sk.off,Qm]at h⊢
  exact Sk.Z3 q h
 |.pair a b,.snd::p,o,s',q,h=>by
  simp only[Sk.off,kT,p8,Qm]at h⊢;obtain⟨x,hx,rfl,rfl⟩:=h;rw[Sk.Z3 (s:=b) (p:=p) (o:=x.1) (s':=x.2) q hx,Option.map_map]
  congr 1;funext y;simp[Z2e]
 |.arr n t,.idx i::p,o,s',q,h=>by
  simp only[Sk.off,Qm]at h⊢;split at h
  ·simp only[kT,p8]at h;obtain⟨x,hx,rfl,rfl⟩:=h;rw[Sk.Z3 (s:=t) (p:=p) (o:=x.1) (s':=x.2) q hx,Option.map_map];rename_i hi;rw[qn hi];congr 1;funext y;simp[Z2e]
  ·simp at h
 |.leaf,_::_,_,_,_,h |.unit,_::_,_,_,_,h |.pair _ _,.idx _::_,_,_,_,h |.arr _ _,.fst::_,_,_,_,h |.arr _ _,.snd::_,_,_,_,h=>by simp[Sk.off]at h
theorem jt{I:Type}{l:List I}{i:Int}{x:I}(h:idx l i=some x):0<=i/\∃hi:i.toNat<l.length,l.get ⟨i.toNat,hi⟩=x/\i<l.length:=by
 cases i with
 |ofNat n=>
  simp only[idx]at h;obtain⟨hn,hx⟩:=Z3u.1 h
  exact⟨Int.natCast_nonneg n,by simpa using hn,by simpa using hx,by show((n:Nat):Int)<_;omega⟩
 |negSucc n=>simp[idx]at h
variable {R:Type}
theorem QS{w:World}{g:z8}:{t:Ty}->{d:t.den}->{p:Path}->{k:(u:Ty)->u.den->Option R}->{r:R}->{cs:List Value}->
  t.zW=true->zM w g none t d cs->zR t d p k=some r->
  ∃u e off,k u e=some r/\u.zW=true/\t.sk.off p=some (off,u.sk)/\zM w g none u e (qi cs off u.size)
 |t,d,[],k,r,cs,ht,zN,h=>by
  have hk:k t d=some r:=by cases t<;>simpa[zR]using h
  refine⟨t,d,0,hk,ht,?_,?_⟩
  ·simp[Sk.off]
  ·rw[<-zN.len,gM];exact zN
 |.pair a b,(x,y),.fst::p,k,r,cs,ht,zN,h=>by
  simp only[zR]at h;obtain⟨c1,c2,rfl,h1,h2⟩:=zN;simp only[Ty.zW,zA]at ht;obtain⟨u,e,off,hk,hu,ho,hr⟩:=QS ht.1 h1 h;refine⟨u,e,off,hk,hu,by simpa[Ty.sk,Sk.off]using ho,?_⟩;have:=Sk.we ho;rw[Ty.zX,Ty.zX]at this
  rw[yJ _ _ _ _ (by rw[h1.len];exact this)];exact hr
 |.pair a b,(x,y),.snd::p,k,r,cs,ht,zN,h=>by
  simp only[zR]at h;obtain⟨c1,c2,rfl,h1,h2⟩:=zN;simp only[Ty.zW,zA]at ht;obtain⟨u,e,off,hk,hu,ho,hr⟩:=QS ht.2 h2 h;refine⟨u,e,a.sk.size+off,hk,hu,by simp[Ty.sk,Sk.off,ho],?_⟩
  rw[yB _ _ _ _ _ (by rw[h1.len,Ty.zX])];exact hr
 |.arr n t,l,.idx i::p,k,r,cs,ht,zN,h=>by
  simp only[zR,Zh]at h;obtain⟨x,hx,h⟩:=h;obtain⟨h0,hi,rfl,yP⟩:=jt hx;have ht':t.zW=true:=by simpa[Ty.zW]using ht
  have hl:=zN.1;have hn:i.toNat<n:=by rw[<-hl];exact hi
  obtain⟨u,e,off,hk,hu,ho,hr⟩:=QS ht' (zN.2.2 _ hi) h;refine⟨u,e,i.toNat*t.sk.size+off,hk,hu,?_,?_⟩
  ·simp only[Ty.sk,Sk.off];rw[qn ⟨h0,by omega⟩,ho];rfl
  ·have:=Sk.we ho;rw[Ty.zX,Ty.zX]at this;rw[uP _ _ _ _ _ this]at hr
   rw[Ty.zX];exact hr
 |.sl true t,l,.idx i::p,k,r,cs,ht,zN,h=>by simp[Ty.zW]at ht
 |.sl false t,l,s::p,k,r,cs,ht,zN,h=>by cases s<;>simp[zR]at h
 |.sl true t,l,.fst::p,k,r,cs,ht,zN,h=>by simp[zR]at h
 |.sl true t,l,.snd::p,k,r,cs,ht,zN,h=>by simp[zR]at h
 |.int _,_,s::_,_,_,_,_,_,h=>by cases s<;>simp[zR]at h
 |.bool,_,s::_,_,_,_,_,_,h=>by cases s<;>simp[zR]at h
 |.str,_,s::_,_,_,_,_,_,h=>by cases s<;>simp[zR]at h
 |.unit,_,s::_,_,_,_,_,_,h=>by cases s<;>simp[zR]at h
 |.ptr _,_,s::_,_,_,_,_,_,h=>by cases s<;>simp[zR]at h
 |.fn _ _,_,s::_,_,_,_,_,_,h=>by cases s<;>simp[zR]at h
 |.tree _,_,s::_,_,_,_,_,_,h=>by cases s<;>simp[zR]at h
 |.pair _ _,_,.idx _::_,_,_,_,_,_,h=>by simp[zR]at h
 |.arr _ _,_,.fst::_,_,_,_,_,_,h=>by simp[zR]at h
 |.arr _ _,_,.snd::_,_,_,_,_,_,h=>by simp[zR]at h
end Go.Kz
