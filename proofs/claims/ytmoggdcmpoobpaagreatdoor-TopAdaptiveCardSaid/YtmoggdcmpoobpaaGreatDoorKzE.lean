/-
  Type codes, and layouts.
-/
import Derived.WalkKit
import Derived.ProofKit
set_option linter.unusedVariables false
set_option linter.unusedSimpArgs false
set_option linter.defProp false
namespace Go.Kz
def zP:=@Option.bind_some
def zU:=@cond_false
def zB:=@cond_true
def qZ:=@if_neg
def qO:=@decide_eq_false
def yQ:=@if_pos
def yN:=@Nat.le_refl
def yR:=@decide_eq_true_eq
def jY:=@decide_eq_true
def jt:=@Nat.zero_le
def vf:=@Array.length_toList
def wU:=@Option.map_eq_some_iff
def wP:=@List.getElem?_eq_getElem
def wB:=@Nat.add_mul
def ku:=@List.getElem_mem
def kn:=@Nat.mul_le_mul_right
def gP:=@Prod.mk.injEq
def pK:=@List.mem_cons
def Fo:=@congrArg
def u7:=@decide_eq_false_iff_not
def xU:=@Bool.not_true
def xA:=@List.cons_append
def Zf:=@Nat.zero_add
def QP:=@List.nil_append
def Qi:=@List.take_length
def JY:=@Bool.or_eq_false_iff
def VH:=@List.length_append
def Jo:=@List.mem_iff_getElem
def Vy:=@List.length_cons
def Vq:=@true_and
def WY:=@List.map_cons
def VF:=@List.getD_eq_getElem?_getD
def Vz:=@decide_true
def WQ:=@if_true
def Gj:=@List.append_assoc
def WB:=@Option.bind_eq_some_iff
def Gy:=@List.length_map
def Gq:=@List.mem_map
def P9:=@List.length_take
def PO:=@Bool.not_eq_true'
def U6:=@and_true
def U5:=@List.mem_append
def BL:=@List.cons.injEq
def BI:=@of_decide_eq_true
def BH:=@List.all_eq_true
def Bm:=@Nat.lt_succ_self
def Bl:=@Bool.not_eq_false'
def Di:=@List.append_nil
def Dh:=@if_false
def Df:=@Bool.or_eq_true
def Fm:=@Array.toList_inj
def Fl:=@List.length_nil
def Hw:=@List.length_drop
def LN:=@List.get_eq_getElem
def LM:=@Bool.true_and
def LL:=@Int.toNat_natCast
def MZ:=@List.drop_eq_nil_of_le
def Mx:=@List.take_append_drop
def Mu:=@Bool.false_eq_true
def Mp:=@List.mem_singleton
def Nd:=@List.drop_drop
def Nc:=@Nat.beq_refl
def S1:=@Nat.add_zero
def S0:=@Nat.add_assoc
def Z1s:=@Nat.le_succ
def Rt:=@Bool.eq_iff_iff
def Rs:=@of_decide_eq_false
def Rr:=@Bool.and_eq_false_iff
def Ti:=@List.take_zero
def Th:=@List.mem_cons_of_mem
def Tf:=@List.range_succ
def Te:=@Int.mul_nonneg
def Z20:=@List.mem_cons_self
def Z21:=@List.mem_range
def Z22:=@Nat.le_trans
def Z23:=@Option.map_some
def Z24:=@Array.getElem?_eq_some_iff
def Z25:=@Nat.mul_comm
def Z26:=@List.foldl_cons
def Z27:=@List.eq_nil_of_length_eq_zero
def Z28:=@List.map_nil
def Z29:=@List.getElem_map
def Z2a:=@List.size_toArray
def Z2b:=@Array.getElem?_toList
def Z2c:=@List.getElem?_drop
def Z2d:=@Nat.zero_mul
def Z2e:=@List.map_append
def Z2f:=@Bool.and_true
def Z2g:=@List.getElem?_eq_none
def Z2h:=@Option.getD_some
def Z2i:=@List.length_eq_one_iff
def Z2j:=@Nat.mul_one
def Z2k:=@List.headD_cons
def Z2l:=@decide_false
def Z2m:=@List.foldl_nil
def Z2n:=@List.take_of_length_le
def Z2o:=@Nat.lt_of_lt_of_le
def Z2p:=@Array.getD_eq_getD_getElem?
def Z2q:=@List.drop_eq_getElem_cons
def Z2r:=@Nat.mod_lt
def Z2s:=@List.take_succ_cons
def Z2t:=@Bool.not_false
def Z2u:=@List.nodup_cons
def Z2v:=@Int.toNat_of_nonneg
def Z2w:=@List.getElem_take
def Z2x:=@Array.toList_map
def Z2y:=@List.getElem?_take
def Z2z:=@List.flatten_cons
def Z30:=@Int.le_refl
def Z31:=@List.Perm.refl
def Z32:=@Nat.blt_eq
def Z33:=@List.take_take
def Z34:=@List.drop_append_of_le_length
def Z35:=@eq_of_heq
def Z36:=@List.length_singleton
def Z37:=@List.getElem_drop
def Z38:=@Option.isSome_iff_exists
def Z39:=@Nat.add_comm
def Z3a:=@List.ext_getElem
def Z3b:=@Nat.sub_self
def Z3c:=@List.drop_zero
def Z3d:=@Array.getElem?_eq_getElem
def Z3e:=@List.getElem?_map
def Z3f:=@Array.getElem?_eq_none
def Z3g:=@List.all_append
def Z3h:=@getElem!_pos
def Z3i:=@List.getElem_cons_succ
def Z3j:=@Nat.pow_le_pow_right
def Z3k:=@Int.mul_le_mul
def Z3l:=@List.take_append_of_le_length
def Z3m:=@List.drop_append
def Z3n:=@Nat.lt_or_gt_of_ne
def Z3o:=@List.append_inj
def Z3p:=@Nat.eq_zero_or_pos
def Z3q:=@Nat.div_lt_of_lt_mul
def Z3r:=@Nat.div_add_mod
def Z3s:=@Int.mul_le_mul_of_nonneg_right
def Z3t:=@Bool.and_self
def Z3u:=@Option.map_none
def Z3v:=@List.ext_getElem?
def Z3w:=@List.getElem?_append_left
def Z3x:=@List.mem_of_mem_take
def Z3y:=@Nat.lt_or_ge
def Z3z:=@Array.getElem?_append_left
def Z40:=@List.mem_of_getElem?
def Z41:=@List.all_eq_false
def Z42:=@Nat.succ_mul
def Z43:=@Int.add_mul
def Z44:=@List.mem_of_mem_drop
def Z45:=@List.foldl_append
def Z46:=@List.drop_take
def Z47:=@List.getElem?_eq_some_iff
def Z48:=@Int.ediv_nonneg
def Z49:=@Int.ediv_le_self
def Z4a:=@List.prefix_refl
def Z4b:=@List.prefix_append_right_inj
def Z4c:=@List.append_cancel_left
def Z4d:=@List.map_map
def Z4e:=@List.map_congr_left
def Z4f:=@List.length_pos_iff
def Z4g:=@Nat.le_of_eq
def Z4h:=@List.replicate_succ
def Z4i:=@Nat.min_eq_left
def Z4j:=@Sigma.mk.injEq
def Z4k:=@Nat.min_le_left
def Z4l:=@Nat.sub_zero
def Z4m:=@List.mem_filterMap
def Z4n:=@Int.eq_ofNat_of_zero_le
def Z4o:=@Nat.mod_eq_of_lt
def Z4p:=@Nat.pow_succ
def Z4q:=@Option.isSome_some
def Z4r:=@List.all_cons
def Z4s:=@Nat.add_sub_cancel
def Z4t:=@Int.natCast_nonneg
def Z4u:=@List.getElem_set
def Z4v:=@Array.eq_empty_of_size_eq_zero
def Z4w:=@List.prefix_append
def Z4x:=@List.map_toArray
def Z4y:=@List.take_succ_eq_append_getElem
def Z4z:=@Array.getElem_toList
def Z50:=@List.getElem_append_left
def Z51:=@List.getElem_append_right
def Z52:=@Array.size_append
def Z53:=@Array.toList_append
def Z54:=@Nat.add_sub_cancel_left
def Z55:=@List.getElem?_cons_zero
def Z56:=@List.mem_filter
def Z57:=@List.eq_nil_iff_forall_not_mem
def Z58:=@List.nodup_append
def Z59:=@List.pairwise_cons
def Z5a:=@List.flatMap_cons
def Z5b:=@Option.isSome_none
def Z5c:=@List.getElem_cons_zero
def Z5d:=@Nat.testBit_lt_two_pow
def Z5e:=@List.foldr_cons
def Z5f:=@Classical.byContradiction
def Z5g:=@List.isEmpty_nil
def Z5h:=@Int.natCast_add
def Z5i:=@List.getElem_cons_drop
def Z5j:=@Int.emod_nonneg
def Z5k:=@Int.emod_lt_of_pos
def Z5l:=@Array.getElem?_setIfInBounds
def Z5m:=@Int.fdiv_eq_ediv_of_nonneg
def Z5n:=@Array.getElem?_setIfInBounds_ne
def Z5o:=@List.getElem?_append_right
def Z5p:=@Go.WideShapes.okWide_struct
def Z5q:=@Int.tdiv_eq_ediv_of_nonneg
def Z5r:=@Int.tmod_eq_emod_of_nonneg
theorem zI.{u} {I:Type u} (a b:I):(some a=some b)=(a=b):=Option.some.injEq a b
theorem zA (a b:Bool):((a&&b)=true)=(a=true/\b=true):=Bool.and_eq_true a b
theorem zE {n m:Nat} (h:Nat.beq n m=true):n=m:=Nat.eq_of_beq_eq_true h
theorem zL {n m:Nat} (h:Nat.ble n m=true):n<=m:=Nat.le_of_ble_eq_true h
inductive Ty where
 | int (k:IntKind) | bool | str | unit
 | pair (a b:Ty) | arr (n:Nat) (t:Ty) | sl (own:Bool) (t:Ty) | ptr (t:Ty) | fn (f:Nat) (c:Ty)
 | tree (k:Nat)
inductive Sk where
 | leaf | unit | pair (a b:Sk) | arr (n:Nat) (t:Sk) | tree (k:Nat)
def Sk.same:Sk->Sk->Bool
 | .leaf,.leaf=>true
 | .unit,.unit=>true
 | .pair a b,.pair c d=>a.same c && b.same d
 | .arr n t,.arr m u=>Nat.beq n m && t.same u
 | .tree k,.tree j=>Nat.beq k j
 | _,_=>false
def Sk.isAgg:Sk->Bool
 | .leaf=>false
 | _=>true
end Go.Kz
namespace Go.Kz
structure Tm where
 op:Int
 n:Int
 kids:List Tm
structure Sp where
 act:Int
 cost:Int
 var:Int
 n:Int
 term:Tm
 j4:List Sp
 uQ:List Sp
 bounds:List Int
@[reducible] def Rec:Nat->Type
 | 0=>Tm
 | 1=>Sp
 | _=>Unit
def uF:Nat->Ty
 | 0 | 1=>.int .i64
 | _=>.unit
def uE:Nat->Ty
 | 0=>.pair (.int .i64) (.pair (.sl false (.tree 0)) .unit)
 | 1=>.pair (.int .i64) (.pair (.int .i64) (.pair (.int .i64) (.pair (.pair (.int .i64) (.pair (.int .i64) (.pair (.sl false (.tree 0)) .unit))) (.pair (.sl false (.tree 1)) (.pair (.sl false (.tree 1)) (.pair (.sl false (.int .i64)) .unit))))))
 | _=>.unit
def Cr:Nat->Nat
 | 0=>3
 | 1=>10
 | _=>0
def zow:Nat->List Value
 | 0=>[.int .i64 0,.int .i64 0,.slice none 0 0]
 | 1=>[.int .i64 0,.int .i64 0,.int .i64 0,.int .i64 0,.int .i64 0,.int .i64 0,.slice none 0 0,.slice none 0 0,.slice none 0 0,.slice none 0 0]
 | _=>[]
def recOn:Nat->Bool
 | 0 | 1=>true
 | _=>false
def zbf:Nat->Nat
 | 0=>109
 | 1=>111
 | _=>0
@[reducible] def Ty.den:Ty->Type
 | .int _=>Int
 | .bool=>Bool
 | .str=>List UInt8
 | .unit=>Unit
 | .pair a b=>a.den×b.den
 | .arr _ t=>List t.den
 | .sl _ t=>List t.den
 | .ptr t=>t.den
 | .fn _ c=>c.den
 | .tree k=>Rec k
def vz:(k:Nat)->Rec k->(uF k).den×(uE k).den
 | 0,x=>(x.op,x.n,x.kids,())
 | 1,x=>(x.act,x.cost,x.var,x.n,(x.term.op,x.term.n,x.term.kids,()),x.j4,x.uQ,x.bounds,())
 | _+2,_=>((),())
def OQ:(k:Nat)->(uF k).den×(uE k).den->Rec k
 | 0,y=>⟨y.1,y.2.1,y.2.2.1⟩
 | 1,y=>⟨y.1,y.2.1,y.2.2.1,y.2.2.2.1,⟨y.2.2.2.2.1.1,y.2.2.2.2.1.2.1,y.2.2.2.2.1.2.2.1⟩,y.2.2.2.2.2.1,y.2.2.2.2.2.2.1,y.2.2.2.2.2.2.2.1⟩
 | _+2,_=>()
theorem Cs:(k:Nat)->(y:(uF k).den×(uE k).den)->vz k (OQ k y)=y
 | 0,_=>rfl
 | 1,_=>rfl
 | _+2,_=>rfl
end Go.Kz
namespace Go.Kz
def Ty.same:(a b:Ty)->Option (PLift (a=b))
 | .int k,.int j=>if h:k=j then some ⟨by rw [h]⟩ else none
 | .bool,.bool=>some ⟨rfl⟩
 | .str,.str=>some ⟨rfl⟩
 | .unit,.unit=>some ⟨rfl⟩
 | .pair a b,.pair c d=>
  match Ty.same a c with
  | some h=>match Ty.same b d with
   | some h'=>some ⟨by rw [h.down,h'.down]⟩
   | none=>none
  | none=>none
 | .arr n t,.arr m u=>if h:n=m then match Ty.same t u with
   | some h'=>some ⟨by rw [h,h'.down]⟩
   | none=>none
  else none
 | .sl o t,.sl p u=>if h:o=p then match Ty.same t u with
   | some h'=>some ⟨by rw [h,h'.down]⟩
   | none=>none
  else none
 | .ptr t,.ptr u=>match Ty.same t u with
   | some h'=>some ⟨by rw [h'.down]⟩
   | none=>none
 | .fn f c,.fn g d=>if h:f=g then match Ty.same c d with
   | some h'=>some ⟨by rw [h,h'.down]⟩
   | none=>none
  else none
 | .tree k,.tree j=>if h:k=j then some ⟨by rw [h]⟩ else none
 | _,_=>none
def Ty.size:Ty->Nat
 | .unit=>0
 | .pair a b=>a.size+b.size
 | .arr n t=>n*t.size
 | .tree k=>Cr k
 | _=>1
def Ty.ro:Ty->Ty
 | .sl _ t=>.sl false t.ro
 | .pair a b=>.pair a.ro b.ro
 | .arr n t=>.arr n t.ro
 | .ptr t=>.ptr t.ro
 | .fn f c=>.fn f c.ro
 | t=>t
theorem Ty.pW:(t:Ty)->t.ro.den=t.den
 | .int _=>rfl
 | .bool=>rfl
 | .str=>rfl
 | .unit=>rfl
 | .pair a b=>by simp only [Ty.ro,Ty.den,Ty.pW a,Ty.pW b]
 | .arr _ t=>by simp only [Ty.ro,Ty.den,Ty.pW t]
 | .sl _ t=>by simp only [Ty.ro,Ty.den,Ty.pW t]
 | .ptr t=>by simp only [Ty.ro,Ty.den,Ty.pW t]
 | .fn _ c=>by simp only [Ty.ro,Ty.den,Ty.pW c]
 | .tree _=>rfl
def Ty.kR (t:Ty) (d:t.den):t.ro.den:=cast (Ty.pW t).symm d
def Ty.zW:Ty->Bool
 | .sl o t=>!o && t.zW
 | .pair a b=>a.zW && b.zW
 | .arr _ t=>t.zW
 | .ptr t=>t.zW
 | .fn _ c=>c.zW
 | _=>true
def Ty.zero:(t:Ty)->Option t.den
 | .int _=>some (0:Int)
 | .bool=>some false
 | .str=>some ([]:List UInt8)
 | .unit=>some ()
 | .pair a b=>match a.zero,b.zero with
  | some x,some y=>some (x,y)
  | _,_=>none
 | .arr n t=>match t.zero with
  | some x=>some (List.replicate n x)
  | none=>none
 | .sl _ t=>some ([]:List t.den)
 | _=>none
def Sk.size:Sk->Nat
 | .leaf=>1
 | .unit=>0
 | .pair a b=>a.size+b.size
 | .arr n t=>n*t.size
 | .tree k=>Cr k
def Ty.sk:Ty->Sk
 | .unit=>.unit
 | .pair a b=>.pair a.sk b.sk
 | .arr n t=>.arr n t.sk
 | .tree k=>.tree k
 | _=>.leaf
theorem XF:(k:Nat)->Cr k=(Ty.pair (uF k) (uE k)).size
 | 0=>rfl
 | 1=>rfl
 | _+2=>rfl
theorem z1w:(k:Nat)->(Ty.pair (uF k) (uE k)).zW=true
 | 0=>rfl
 | 1=>rfl
 | _+2=>rfl
def Ty.qJ:Ty->Bool
 | .sl _ _=>false
 | .pair a b=>a.qJ && b.qJ
 | .arr _ t=>t.qJ
 | .ptr _ | .fn _ _ | .tree _=>false
 | _=>true
inductive Step where
 | fst | snd | idx (i:Int)
abbrev Path:=List Step
def idx {I:Type} (l:List I):Int->Option I
 | .ofNat n=>l[n]?
 | .negSucc _=>none
def wZ {I:Type} (l:List I) (i:Int) (x:I):List I:=l.set i.toNat x
def vU {I:Type} (l:List I) (i:Int):Bool:=decide (0<=i) && decide (i < (l.length:Int))
def qW {R:Type} (b:Bool) (x:Option R):Option R:=cond b x none
def room:Nat:=4294967296
def sub {I:Type} (l:List I) (a b:Int):List I:=(l.drop a.toNat).take (b.toNat-a.toNat)
variable {R:Type}
def u4 (a b:Ty) (d:a.den) (k:b.den->Option R):Option R:=
 match Ty.same a b with
 | some h=>k (cast (Fo Ty.den h.down) d)
 | none=>none
def zb:(t:Ty)->t.den->Path->((u:Ty)->u.den->Option R)->Option R
 | .pair a _,(x,_),.fst :: p,k=>zb a x p k
 | .pair _ b,(_,y),.snd :: p,k=>zb b y p k
 | .arr _ t,l,.idx i :: p,k=>(idx l i).bind fun x=>zb t x p k
 | .sl true t,l,.idx i :: p,k=>(idx l i).bind fun x=>zb t x p k
 | t,d,[],k=>k t d
 | _,_,_ :: _,_=>none
def jM:(t:Ty)->t.den->Path->(u:Ty)->u.den->(t.den->Option R)->Option R
 | .pair a _,(x,y),.fst :: p,u,e,k=>jM a x p u e fun x'=>k (x',y)
 | .pair _ b,(x,y),.snd :: p,u,e,k=>jM b y p u e fun y'=>k (x,y')
 | .arr _ t,l,.idx i :: p,u,e,k=>(idx l i).bind fun x=>jM t x p u e fun x'=>k (wZ l i x')
 | .sl true t,l,.idx i :: p,u,e,k=>(idx l i).bind fun x=>jM t x p u e fun x'=>k (wZ l i x')
 | t,_,[],u,e,k=>u4 u t e k
 | _,_,_ :: _,_,_,_=>none
inductive z7 where
 | data (t:Ty) (d:t.den)
 | qD
 | ref (id:Nat) (p:Path) (ep:Nat)
 | view (id:Nat) (p:Path) (ep:Nat) (a b:Int)
 | zq (id:Nat) (p:Path)
 | vA (id:Nat) (p:Path) (ep:Nat)
 | qz (id:Nat)
 | nv (pt:Bool) (id:Nat) (p:Path) (ep:Nat)
 | qd (f:Nat) (c:z7)
 | V7 (t:Nat) (c:z7)
 | agg (c:z7)
 | jV (c:z7)
 | pr (a b:z7)
 | un
def z7.sk:z7->Sk
 | .data t _=>t.sk
 | .agg c=>c.sk
 | .jV c=>c.sk
 | .pr a b=>.pair a.sk b.sk
 | .un=>.unit
 | _=>.leaf
inductive Obj where
 | row (t:Ty) (l:List t.den) (ep:Nat)
 | cell (a:z7)
 | map (kt vt:Ty) (m:List (kt.den×vt.den))
 | nest (t:Ty) (l:List t.den) (e i:Nat) (hole:Option Path)
structure St where
 zk:Nat->Option z7
 z6:Nat->Option Obj
 next:Nat
def GJ {I:Type} (f:Nat->Option I) (i:Nat) (v:Option I):Nat->Option I:=fun j=>cond (Nat.beq j i) v (f j)
def St.set (J:St) (i:Nat) (v:z7):St:={ J with zk:=GJ J.zk i (some v) }
def St.kB (J:St):Option Nat->St
 | some i=>{ J with zk:=GJ J.zk i none }
 | none=>J
def St.setObj (J:St) (i:Nat) (o:Obj):St:={ J with z6:=GJ J.z6 i (some o) }
def St.kill (J:St) (i:Nat):St:={ J with z6:=GJ J.z6 i none }
def j5:(t:Ty)->t.den->z7
 | .pair a b,(x,y)=>.pr (.data a x) (j5 b y)
 | _,_=>.un
def xg:z7->Path->(z7->Option R)->Option R
 | a,[],k=>k a
 | .agg c,s :: p,k=>xg c (s :: p) k
 | .pr a _,.fst :: p,k=>xg a p k
 | .pr _ b,.snd :: p,k=>xg b p k
 | .data t d,s :: p,k=>zb t d (s :: p) fun u e=>k (.data u e)
 | _,_,_=>none
def v8:Ty->Path->Option Ty
 | t,[]=>some t
 | .pair a _,.fst :: p=>v8 a p
 | .pair _ b,.snd :: p=>v8 b p
 | .arr _ t,.idx _ :: p=>v8 t p
 | _,_=>none
def Nk (t:Ty) (p:Path):z7->Bool
 | .data u _=>match v8 t p with
  | some v=>(Ty.same v u).isSome
  | none=>false
 | _=>false
def jy (new:z7):(t:Ty)->t.den->Path->(z7->Option R)->Option R
 | .pair a b,(x,y),[.fst],k=>k (.pr new (j5 b y))
 | .pair a b,(x,y),.fst :: s :: p,k=>jy new a x (s :: p) fun u=>k (.pr (.agg u) (j5 b y))
 | .pair a b,(x,y),.snd :: p,k=>jy new b y p fun u=>k (.pr (.data a x) u)
 | _,_,_,_=>none
def MD (new:z7) (t:Ty) (d:t.den) (p:Path) (k:z7->Option R):Option R:=match new with
 | .data u e=>jM t d p u e fun d=>k (.data t d)
 | _=>none
def x4 (new:z7):z7->Path->(z7->Option R)->Option R
 | _,[],k=>k new
 | .agg c,s :: p,k=>x4 new c (s :: p) fun c=>k (.agg c)
 | .pr a b,.fst :: p,k=>x4 new a p fun a=>k (.pr a b)
 | .pr a b,.snd :: p,k=>x4 new b p fun b=>k (.pr a b)
 | .data t d,s :: p,k=>cond (Nk t (s :: p) new) (MD new t d (s :: p) k)
   (jy new t d (s :: p) fun u=>cond (u.sk.same t.sk) (k (.agg u)) none)
 | _,_,_=>none
def z1r (t:Ty) (l:List t.den) (p:Path) (k:(u:Ty)->u.den->Option R):Option R:=zb (.sl true t) l p k
def xu (J:St) (id:Nat) (p:Path) (ep:Nat) (k:(u:Ty)->List u.den->Option R):Option R:=
 match J.z6 id with
 | some (.row t l e)=>cond (Nat.beq e ep) (z1r t l p fun u d=>match u,d with
  | .sl true v,l=>k v l
  | _,_=>none) none
 | _=>none
def pC (J:St) (id:Nat) (p:Path) (ep:Nat) (k:(u:Ty)->u.den->Option R):Option R:=
 match J.z6 id with
 | some (.row t l e)=>cond (Nat.beq e ep) (z1r t l p k) none
 | _=>none
def z7.wI:z7->Bool
 | .jV _=>true
 | _=>false
def z7.wL:z7->Bool
 | .jV (.agg _)=>true
 | .jV (.qz _)=>true
 | _=>false
def z7.cont:z7->Option z7
 | .jV (.agg c)=>some (.agg c)
 | .jV (.qz i)=>some (.qz i)
 | .jV _=>none
 | a=>some a
def Jm (J:St) (id:Nat) (p:Path) (k:z7->Option R):Option R:=
 match J.z6 id with
 | some (.cell a)=>match a.cont with
  | some x=>xg x p k
  | none=>none
 | _=>none
def JG (J:St) (id:Nat) (p:Path) (k:z7->Option R):Option R:=
 match J.z6 id with
 | some (.cell a)=>cond a.wI none (xg a p k)
 | _=>none
def Iy:Bool->Path->Nat->Nat->Nat
 | false,[],e,_=>e
 | _,_,_,i=>i
def K4 (J:St) (pt:Bool) (id:Nat) (p:Path) (ep:Nat) (k:(u:Ty)->u.den->Option R):Option R:=
 match J.z6 id with
 | some (.nest t l e i none)=>cond (Nat.beq (Iy pt p e i) ep) (z1r t l p k) none
 | _=>none
def Xm (J:St) (id:Nat) (p:Path) (ep:Nat) (k:(v:Ty)->List v.den->Option R):Option R:=
 K4 J false id p ep fun u d=>match u,d with
  | .sl true v,l=>k v l
  | _,_=>none
def ZM (a b:Ty) (d:a.den) (k:b.den->Option R):Option R:=
 match a,b,d,k with
 | .sl false (.tree j),.sl false (.pair x y),l,k=>u4 (.sl false (.pair (uF j) (uE j))) (.sl false (.pair x y)) (List.map (vz j) l) k
 | .sl false (.pair x y),.sl false (.tree j),l,k=>u4 (.sl false (.pair x y)) (.sl false (.pair (uF j) (uE j))) l fun l=>k (List.map (OQ j) l)
 | a,b,d,k=>u4 a b d k
def z2x:(t:Ty)->(t.den->Option R)->Option R
 | .sl _ _,k=>k []
 | _,_=>none
def asData (J:St):Nat->(a:z7)->(t:Ty)->(t.den->Option R)->Option R
 | 0,_,_,_=>none
 | _+1,.data t' d,t,k=>ZM t' t d k
 | _+1,.qD,t,k=>cond t.zW (z2x t k) none
 | _+1,.ref id p ep,t,k=>xu J id p ep fun v l=>ZM (Ty.ro (.sl false v)) t (Ty.kR (.sl false v) l) k
 | _+1,.view id p ep a b,t,k=>xu J id p ep fun v l=>ZM (Ty.ro (.sl false v)) t (Ty.kR (.sl false v) (sub l a b)) k
 | _+1,.nv false id p ep,t,k=>Xm J id p ep fun v l=>ZM (Ty.ro (.sl false v)) t (Ty.kR (.sl false v) l) k
 | n+1,.zq id p,.ptr t,k=>Jm J id p fun a=>asData J n a t k
 | _+1,.vA id p ep,.ptr t,k=>pC J id p ep fun u d=>u4 u.ro t (Ty.kR u d) k
 | n+1,.qd f c,.fn g t,k=>cond (Nat.beq f g) (asData J n c t k) none
 | n+1,.agg c,t,k=>asData J n c t k
 | n+1,.pr a b,.pair t u,k=>asData J n a t fun x=>asData J n b u fun y=>k (x,y)
 | _+1,.un,.unit,k=>k ()
 | _+1,_,_,_=>none
def j6:Nat->(a:z7)->(u:Ty)->St->(u.den->St->Option R)->Option R
 | 0,_,_,_,_=>none
 | _+1,.data t d,u,J,k=>ZM t u d fun d=>k d J
 | _+1,.qD,u,J,k=>z2x u fun d=>k d J
 | _+1,.ref id [] ep,u,J,k=>
  match J.z6 id with
  | some (.row t l e)=>cond (Nat.beq e ep)
   (match u,k with
    | .sl true v,k=>u4 (.sl true t) (.sl true v) l fun d=>k d (J.kill id)
    | .sl false v,k=>ZM (Ty.ro (.sl false t)) (.sl false v) (Ty.kR (.sl false t) l) fun d=>k d (J.kill id)
    | _,_=>none) none
  | _=>none
 | _+1,.nv false id [] ep,u,J,k=>
  match J.z6 id with
  | some (.nest t l e _ none)=>cond (Nat.beq e ep)
   (match u,k with
    | .sl false v,k=>ZM (Ty.ro (.sl false t)) (.sl false v) (Ty.kR (.sl false t) l) fun d=>k d (J.kill id)
    | _,_=>none) none
  | _=>none
 | n+1,.zq id [],.ptr u,J,k=>
  match J.z6 id with
  | some (.cell a)=>cond a.wI none (j6 n a u (J.kill id) k)
  | _=>none
 | n+1,.qd f c,.fn g t,J,k=>cond (Nat.beq f g) (j6 n c t J k) none
 | n+1,.agg c,u,J,k=>j6 n c u J k
 | n+1,.pr a b,.pair t u,J,k=>j6 n a t J fun x J=>j6 n b u J fun y J=>k (x,y) J
 | _+1,.un,.unit,J,k=>k () J
 | _+1,_,_,_,_=>none
def v7:Ty->Option z7×Option z7
 | .sl _ _=>(some .qD,none)
 | .unit=>(match (Ty.unit).zero,(Ty.unit).qJ with
  | some z,true=>some (.data .unit z)
  | _,_=>none,some .un)
 | .pair a b=>
  let c:=match (v7 a).1,(v7 b).2 with
   | some x,some y=>some (.pr x y)
   | _,_=>none
  (match Ty.zero (.pair a b),(Ty.pair a b).qJ with
  | some z,true=>some (.data (.pair a b) z)
  | _,_=>c.map .agg,c)
 | .arr n t=>(match (Ty.arr n t).zero,(Ty.arr n t).zW with
  | some z,true=>some (.data (.arr n t) z)
  | _,_=>none,none)
 | t=>(match t.zero,t.qJ with
  | some z,true=>some (.data t z)
  | _,_=>none,none)
def pD (t:Ty):Option z7:=(v7 t).1
def Zj (t:Ty):Option z7:=(v7 t).2
def zj:(t:Ty)->t.den->Nat->z7×List Obj
 | .sl true t,l,n=>(.ref n [] 0,[.row t l 0])
 | .pair a b,(x,y),n=>
  cond (Ty.zW (.pair a b)) (.data (.pair a b) (x,y),[])
   (let u:=zj a x n
    let v:=ze b y (n+u.2.length)
    (.agg (.pr u.1 v.1),u.2++v.2))
 | t,d,_=>(.data t d,[])
where ze:(t:Ty)->t.den->Nat->z7×List Obj
 | .pair a b,(x,y),n=>
   (let u:=zj a x n
    let v:=ze b y (n+u.2.length)
    (.pr u.1 v.1,u.2++v.2))
 | _,_,_=>(.un,[])
end Go.Kz
namespace Go.Kz
structure zn8 where
 n:Nat
 t:Ty
 l:List t.den
def tab0:List Int:=[0,1,56,2,57,49,28,3,61,58,42,50,38,29,17,4,62,47,59,36,45,43,51,22,53,39,33,30,24,18,12,5,63,55,48,27,60,41,37,16,46,35,44,21,52,32,23,11,54,26,40,15,34,20,31,10,25,14,19,9,13,8,7,6]
def tab1:List Int:=[1,10,100,1000,10000,100000,1000000,10000000,100000000,1000000000,10000000000,100000000000,1000000000000,10000000000000,100000000000000,1000000000000000,10000000000000000,100000000000000000,1000000000000000000,10000000000000000000]
def tab:Nat->Option zn8
 | 0=>some ⟨64,.int .u8,tab0⟩
 | 1=>some ⟨20,.int .u64,tab1⟩
 | _=>none
theorem HK (b:Nat) (e:zn8) (h:tab b=some e):e.t.qJ=true:=by
 unfold tab at h;split at h <;> simp only [zI,reduceCtorEq] at h <;> subst h <;> rfl
theorem OM {I:Type}:∃ f:List I->Int->Option I,f=idx:=⟨_,rfl⟩
noncomputable def zkg {I:Type}:List I->Int->Option I:=Classical.choose OM
theorem zce {I:Type} (l:List I) (i:Int):zkg l i=idx l i:=by
 have:(zkg:List I->Int->Option I)=idx:=Classical.choose_spec OM;rw [this]
end Go.Kz
namespace Go.Kz
noncomputable section
variable {R:Type}
inductive gx where
 | val (t:Ty) | ref (i:Nat) | zq (i:Nat) | qd (f:Nat) (c:gx) | agg (c:gx) | pr (a b:gx) | un
@[reducible] def gx.den:gx->Type
 | .val t=>t.den
 | .ref _=>Unit
 | .zq _=>Unit
 | .qd _ c=>c.den
 | .agg c=>c.den
 | .pr a b=>a.den×b.den
 | .un=>Unit
@[reducible] def jw:List Ty->Type
 | []=>Unit
 | [t]=>t.den
 | t :: u :: ts=>t.den×jw (u :: ts)
inductive zX where
 | val (t:Ty) | qD | ref (id:Nat) | view (id:Nat) | zq (id:Nat) (p:Path) | qz (id:Nat) | nv (id:Nat) | nvi (id:Nat) | qd (f:Nat) (c:zX) | V7 (t:Nat) (c:zX) | agg (c:zX) | pr (a b:zX) | un
@[reducible] def zX.den:zX->Type
 | .val t=>t.den
 | .view _=>Int×Int
 | .nvi _=>Int
 | .qd _ c=>c.den
 | .V7 _ c=>c.den
 | .agg c=>c.den
 | .pr a b=>a.den×b.den
 | _=>Unit
def zX.mk:(p:zX)->p.den->z7
 | .val t,d=>.data t d
 | .qD,_=>.qD
 | .ref id,_=>.ref id [] 0
 | .view id,d=>.view id [] 0 d.1 d.2
 | .zq id p,_=>.zq id p
 | .qz id,_=>.qz id
 | .nv id,_=>.nv false id [] 0
 | .nvi id,d=>.nv false id [.idx d] 0
 | .qd f c,d=>.qd f (c.mk d)
 | .V7 t c,d=>.V7 t (c.mk d)
 | .agg c,d=>.agg (c.mk d)
 | .pr a b,d=>.pr (a.mk d.1) (b.mk d.2)
 | .un,_=>.un
def z1e:Step->Step->Bool
 | .fst,.fst=>true
 | .snd,.snd=>true
 | _,_=>false
def D4:Path->Path->Bool
 | [],[]=>true
 | a :: p,b :: q=>z1e a b && D4 p q
 | _,_=>false
def zX.take:(p:zX)->z7->(p.den->Option R)->Option R
 | .val t,.data u d,k=>u4 u t d k
 | .qD,.qD,k=>k ()
 | .ref id,.ref vY [] ep,k=>cond (Nat.beq id vY && Nat.beq ep 0) (k ()) none
 | .view id,.view vY [] ep a b,k=>cond (Nat.beq id vY && Nat.beq ep 0) (k (a,b)) none
 | .zq id p,.zq vY p',k=>cond (Nat.beq id vY && D4 p p') (k ()) none
 | .qz id,.qz vY,k=>cond (Nat.beq id vY) (k ()) none
 | .nv id,.nv false vY [] ep,k=>cond (Nat.beq id vY && Nat.beq ep 0) (k ()) none
 | .nvi id,.nv false vY [.idx i] ep,k=>cond (Nat.beq id vY && Nat.beq ep 0) (k i) none
 | .qd f c,.qd g d,k=>cond (Nat.beq f g) (c.take d k) none
 | .V7 f c,.V7 g d,k=>cond (Nat.beq f g) (c.take d k) none
 | .agg c,.agg d,k=>c.take d k
 | .pr a b,.pr x y,k=>a.take x fun d=>b.take y fun e=>k (d,e)
 | .un,.un,k=>k ()
 | _,_,_=>none
inductive yK where
 | row (t:Ty) | cell (p:zX) | map (kt vt:Ty) | nest (t:Ty) | iter (id:Nat) | p5 (p:zX)
@[reducible] def yK.den:yK->Type
 | .row t=>List t.den
 | .cell p=>p.den
 | .map kt vt=>List (kt.den×vt.den)
 | .nest t=>List t.den
 | .iter _=>Int×List Int×Int
 | .p5 p=>p.den
def uV (id:Nat) (n:Int) (left:List Int) (cur:Int):z7:=.jV (.pr (.qz id) (.pr (.data (.int .i64) n) (.pr (.data (.sl false (.int .i64)) left) (.pr (.data (.int .i64) cur) .un))))
def yK.mk:(o:yK)->o.den->Obj
 | .row t,l=>.row t l 0
 | .cell p,d=>.cell (p.mk d)
 | .map kt vt,m=>.map kt vt m
 | .nest t,l=>.nest t l 0 0 none
 | .iter id,d=>.cell (uV id d.1 d.2.1 d.2.2)
 | .p5 p,d=>.cell (.jV (p.mk d))
def zhe (kt vt Aj X9:Ty) (m:List (kt.den×vt.den)) (k:List (Aj.den×X9.den)->Option R):Option R:=
 match Ty.same kt Aj,Ty.same vt X9 with
 | some h,some h'=>k (cast (by rw [h.down,h'.down]) m)
 | _,_=>none
def yK.take:(o:yK)->Obj->(o.den->Option R)->Option R
 | .row t,.row u l ep,k=>cond (Nat.beq ep 0) (u4 (.sl true u) (.sl true t) l k) none
 | .cell p,.cell a,k=>p.take a k
 | .map kt vt,.map Aj X9 m,k=>zhe Aj X9 kt vt m k
 | .nest t,.nest u l e i none,k=>cond (Nat.beq e 0 && Nat.beq i 0) (u4 (.sl true u) (.sl true t) l k) none
 | .iter id,.cell (.jV (.pr (.qz vY) (.pr (.data (.int .i64) n) (.pr (.data (.sl false (.int .i64)) left) (.pr (.data (.int .i64) cur) .un))))),k=>cond (Nat.beq id vY) (k (n,left,cur)) none
 | .p5 p,.cell (.jV a),k=>p.take a k
 | _,_,_=>none
structure vp where
 zk:List (Nat×zX)
 z6:List yK
@[reducible] def Zp:List (Nat×zX)->Type
 | []=>Unit
 | (_,p) :: l=>p.den×Zp l
@[reducible] def VZ:List yK->Type
 | []=>Unit
 | o :: l=>o.den×VZ l
@[reducible] def vp.den (f:vp):Type:=Zp f.zk×VZ f.z6
def vW:(l:List (Nat×zX))->Zp l->List (Nat×z7)
 | [],_=>[]
 | (i,p) :: l,d=>(i,p.mk d.1) :: vW l d.2
def wQ:(l:List yK)->VZ l->List Obj
 | [],_=>[]
 | o :: l,d=>o.mk d.1 :: wQ l d.2
def GG:(l:List (Nat×zX))->List (Nat×z7)->(Zp l->Option R)->Option R
 | [],[],k=>k ()
 | (i,p) :: l,(j,a) :: m,k=>cond (Nat.beq i j) (p.take a fun d=>GG l m fun e=>k (d,e)) none
 | _,_,_=>none
def Vc:(l:List yK)->List Obj->(VZ l->Option R)->Option R
 | [],[],k=>k ()
 | o :: l,x :: m,k=>o.take x fun d=>Vc l m fun e=>k (d,e)
 | _,_,_=>none
def vp.take (f:vp) (sl:List (Nat×z7)) (os:List Obj) (k:f.den->Option R):Option R:=
 GG f.zk sl fun d=>Vc f.z6 os fun e=>k (d,e)
inductive Callee where
 | pure (args:gx) (res:List Ty) (F:args.den->Option (jw res))
 | mut (fin:vp) (jC:List Nat) (zm:vp) (F:fin.den->Option zm.den)
def fits:gx->z7->Bool
 | .val (.fn f _),.qd g _=>Nat.beq f g
 | .val (.fn f _),.data (.fn g _) _=>Nat.beq f g
 | .val t,.data u _=>(Ty.same t u).isSome
 | .qd f c,.qd g d=>Nat.beq f g && fits c d
 | .agg c,.agg d=>fits c d
 | .pr p q,.pr x y=>fits p x && fits q y
 | _,_=>true
def TH:zX->z7->Bool
 | .val (.fn f _),.qd g _=>Nat.beq f g
 | .val (.fn f _),.data (.fn g _) _=>Nat.beq f g
 | .val t,.data u _=>(Ty.same t u).isSome
 | .val _,.qd _ _=>false
 | .val _,_=>true
 | .qD,.qD=>true
 | .ref _,.ref _ _ _=>true
 | .view _,.view _ _ _ _ _=>true
 | .zq _ _,.zq _ _=>true
 | .qz _,.qz _=>true
 | .nv _,.nv false _ [] _=>true
 | .nvi _,.nv false _ (_ :: _) _=>true
 | .qd f c,.qd g d=>Nat.beq f g && TH c d
 | .V7 f c,.V7 g d=>Nat.beq f g && TH c d
 | .agg c,.agg d=>TH c d
 | .pr p q,.pr x y=>TH p x && TH q y
 | .un,.un=>true
 | _,_=>false
def zsw:List (Nat×zX)->z7->Bool
 | [],.un=>true
 | (_,p) :: l,.pr a c=>TH p a && zsw l c
 | _,_=>false
def Callee.fits:Callee->z7->Bool
 | .pure p _ _,a=>Go.Kz.fits p a
 | .mut fin _ _ _,a=>zsw fin.zk a
def PY (a:z7):List Callee->Option Callee
 | []=>none
 | c :: l=>cond (c.fits a) (some c) (PY a l)
abbrev Qd:=List (Nat×Nat)
def yO {I:Type}:List (Nat×I)->Nat->Option I
 | [],_=>none
 | (i,v) :: l,j=>cond (Nat.beq i j) (some v) (yO l j)
def zF {I:Type}:List I->Nat->Option I
 | [],_=>none
 | x :: _,0=>some x
 | _ :: l,n+1=>zF l n
def Nj:Qd->Nat->Bool
 | [],_=>false
 | (_,v) :: l,x=>cond (Nat.beq v x) true (Nj l x)
def PM (b:Qd) (i id:Nat) (k:Qd->Option R):Option R:=
 match yO b i with
 | some j=>cond (Nat.beq j id) (k b) none
 | none=>cond (Nj b id) none (k ((i,id) :: b))
def vO (J:St):(p:gx)->(a:z7)->Qd->(p.den->Qd->Option R)->Option R
 | .val t,a,b,k=>asData J 20 a t fun d=>k d b
 | .ref i,.ref id [] ep,b,k=>
  match J.z6 id with
  | some (.row _ _ e)=>cond (Nat.beq e ep) (PM b i id fun b=>k () b) none
  | _=>none
 | .zq i,.zq id [],b,k=>PM b i id fun b=>k () b
 | .qd f c,.qd g d,b,k=>cond (Nat.beq f g) (vO J c d b k) none
 | .agg c,.agg d,b,k=>vO J c d b k
 | .pr p q,.pr x y,b,k=>vO J p x b fun dx b=>vO J q y b fun dy b=>k (dx,dy) b
 | .un,.un,b,k=>k () b
 | _,_,_,_=>none
def St.only (J:St) (p:Nat->Bool):St:={ J with z6:=fun i=>cond (p i) (J.z6 i) none }
def St.gm (J:St) (n:Nat):List Obj->St
 | []=>J
 | o :: os=>(J.setObj n o).gm (n+1) os
def zZ:(ts:List Ty)->jw ts->Nat->z7×List Obj
 | [],_,_=>(.jV .un,[])
 | [t],d,n=>zj t d n
 | t :: u :: ts,(d,ds),n=>
  let x:=zj t d n;let y:=chain (u :: ts) ds (n+x.2.length)
  (.jV (.pr x.1 y.1),x.2++y.2)
where chain:(ts:List Ty)->jw ts->Nat->z7×List Obj
 | [],_,_=>(.un,[])
 | [t],d,n=>let x:=zj t d n;(.pr x.1 .un,x.2)
 | t :: u :: ts,(d,ds),n=>
  let x:=zj t d n;let y:=chain (u :: ts) ds (n+x.2.length)
  (.pr x.1 y.1,x.2++y.2)
inductive Conv where
 | row (t:Ty) | dat (t:Ty) | p5
structure Cut where
 live:List Nat
 conv:List (Nat×Option Path×Conv)
def z7.ids:z7->List Nat
 | .ref i _ _ | .view i _ _ _ _ | .zq i _ | .vA i _ _ | .qz i | .nv _ i _ _=>[i]
 | .qd _ c | .V7 _ c | .agg c | .jV c=>c.ids
 | .pr a b=>a.ids++b.ids
 | _=>[]
def z7.vF (z6:Nat->Option Obj) (Y:Nat->Option Nat):z7->Option z7
 | .ref i p ep=>match p,z6 i with
  | [],some (.row _ _ e)=>cond (Nat.beq e ep) ((Y i).map fun j=>.ref j [] 0) none
  | _,_=>none
 | .view i p ep a b=>match p,z6 i with
  | [],some (.row _ _ e)=>cond (Nat.beq e ep) ((Y i).map fun j=>.view j [] 0 a b) none
  | _,_=>none
 | .zq i p=>(Y i).map fun j=>.zq j p
 | .qz i=>(Y i).map fun j=>.qz j
 | .nv pt i p ep=>match pt,z6 i with
  | false,some (.nest _ _ e i' none)=>cond (Nat.beq (Iy false p e i') ep) ((Y i).map fun j=>.nv false j p 0) none
  | _,_=>none
 | .qd f c=>(c.vF z6 Y).map fun c=>.qd f c
 | .V7 f c=>(c.vF z6 Y).map fun c=>.V7 f c
 | .agg c=>(c.vF z6 Y).map fun c=>.agg c
 | .pr a b=>match a.vF z6 Y,b.vF z6 Y with
  | some a,some b=>some (.pr a b)
  | _,_=>none
 | .un=>some .un
 | .qD=>some .qD
 | .data t d=>some (.data t d)
 | _=>none
def xe (z6:Nat->Option Obj) (Y:Nat->Option Nat):z7->Option z7
 | .jV c=>(c.vF z6 Y).map .jV
 | a=>a.vF z6 Y
def Obj.vF (z6:Nat->Option Obj) (Y:Nat->Option Nat):Obj->Option Obj
 | .row t l _=>some (.row t l 0)
 | .cell a=>(xe z6 Y a).map .cell
 | .map k v m=>some (.map k v m)
 | .nest t l _ _ none=>some (.nest t l 0 0 none)
 | .nest _ _ _ _ (some _)=>none
def yE (x:Nat):List Nat->Bool
 | []=>false
 | y :: l=>cond (Nat.beq y x) true (yE x l)
def qG (x:Nat):List Nat->Nat->Option Nat
 | [],_=>none
 | y :: l,i=>cond (Nat.beq y x) (some i) (qG x l (i+1))
def kH (z6:Nat->Option Obj):Nat->List Nat->List Nat->List Nat
 | 0,_,seen=>seen
 | _+1,[],seen=>seen
 | n+1,x :: todo,seen=>
  cond (yE x seen) (kH z6 n todo seen)
   (match z6 x with
    | some (.cell a)=>kH z6 n (a.ids++todo) (seen++[x])
    | _=>kH z6 n todo (seen++[x]))
def St.of (sl:List (Nat×z7)) (os:List Obj):St:=⟨yO sl,zF os,os.length⟩
def YZ (z6:Nat->Option Obj) (Y:Nat->Option Nat):List (Nat×z7)->Option (List (Nat×z7))
 | []=>some []
 | (i,a) :: l=>match a.vF z6 Y,YZ z6 Y l with
  | some a,some l=>some ((i,a) :: l)
  | _,_=>none
def JC (Y:Nat->Option Nat) (z6:Nat->Option Obj):List Nat->Option (List Obj)
 | []=>some []
 | i :: l=>match (z6 i).bind (·.vF z6 Y),JC Y z6 l with
  | some o,some l=>some (o :: l)
  | _,_=>none
def ZU (J:St):List Nat->Option (List (Nat×z7))
 | []=>some []
 | i :: l=>match J.zk i,ZU J l with
  | some a,some l=>some ((i,a) :: l)
  | _,_=>none
def z7.val:z7->Bool
 | .agg (.pr _ _) | .agg .un=>true
 | .agg _ | .pr _ _ | .un | .jV _=>false
 | _=>true
def NP (J:St) (x:z7) (k:z7->St->Option R):Option R:=match x with
 | .view id [] ep a b=>match J.z6 id with
  | some (.row t l e)=>cond (Nat.beq e ep) (k (.ref id [] (e+1)) (J.setObj id (.row t (sub l a b) (e+1)))) none
  | _=>none
 | x=>k x J
def Bp (J:St) (a:z7):Conv->(z7->St->Option R)->Option R
 | .row t,k=>match a with
  | .qD=>cond t.zW (k (.ref J.next [] 0) { J.setObj J.next (.row t [] 0) with next:=J.next+1 }) none
  | a=>NP J a k
 | .dat t,k=>cond (t.zW && a.val && a.sk.same t.sk) (j6 20 a t J fun d J=>k (.data t d) J) none
 | .p5,_=>none
def zhd (J:St) (i:Nat) (k:St->Option R):Option R:=match J.zk i with
 | some (.zq id _)=>match J.z6 id with
  | some (.cell (.jV _))=>k J
  | some (.cell a)=>cond (z7.jV a).wL (k (J.setObj id (.cell (.jV a)))) none
  | _=>none
 | _=>none
def VD:List (Nat×Option Path×Conv)->St->(St->Option R)->Option R
 | [],J,k=>k J
 | (i,none,c) :: l,J,k=>
  match J.zk i with
  | some a=>cond a.val (Bp J a c fun a J=>VD l (J.set i a) k) none
  | none=>none
 | (i,some p,c) :: l,J,k=>match c with
  | .p5=>zhd J i fun J=>VD l J k
  | c=>match J.zk i with
   | some (.zq id _)=>JG J id p fun a=>cond a.val (Bp J a c fun a J=>JG J id [] fun whole=>x4 a whole p fun whole=>VD l (J.setObj id (.cell whole)) k) none
   | _=>none
def MO (l:List (Nat×z7)) (J:St) (k:List (Nat×z7)->List Obj->Option R):Option R:=
 let ids:=kH J.z6 100 (l.flatMap fun x=>x.2.ids) [];let Y:=fun i=>qG i ids 0
 match YZ J.z6 Y l,JC Y J.z6 ids with
 | some l',some os=>k l' os
 | _,_=>none
def PV (cut:Cut) (J:St) (k:List (Nat×z7)->List Obj->Option R):Option R:=
 VD cut.conv J fun J=>match ZU J cut.live with
  | some l=>MO l J k
  | none=>none
def norm (cut:Cut) (J:St) (k:St->Option R):Option R:=PV cut J fun sl os=>k (St.of sl os)
inductive vQ where
 | normal | exit (id:Nat) | ret
abbrev BS:=(R:Type)->List (Nat×z7)->List Obj->(vQ->St->Option R)->Option R
structure Ctx where
 fuel:Nat
 tt:Nat->Option Ty
 mt:Nat->Option (Ty×Ty)
 ntmps:Nat
 env:Nat->List Callee
 cut:Nat->Option Cut
 z6o:Nat->Nat->Option Cut
 res:Cut
 own:Nat->Option Ty
 lp:Nat->Option BS
 eqs:Nat->Bool:=fun _=>false
 ct:Nat->Bool:=fun _=>false
 ms:Nat->String->Option (Nat×Option Nat):=fun _ _=>none
def CD (c:Ctx) (d:Option Nat) (t:Nat):Option Ty:=
 match d.bind c.own with
 | some u=>match c.tt t with
  | some v=>match Ty.same u.ro v.ro with
   | some _=>some u
   | none=>none
  | none=>none
 | none=>c.tt t
def zst (c:Ctx) (d:Option Nat):Bool:=match d.bind c.own with
 | some (.sl false _)=>true
 | _=>false
def ev (J:St):Operand->Option z7
 | .tmp t=>J.zk t
 | .const (.int k n)=>cond (decide (k.min<=n) && decide (n<=k.max)) (some (.data (.int k) n)) none
 | .const (.bool b)=>some (.data .bool b)
 | .const (.string s)=>cond (Nat.ble s.size 100000) (some (.data .str s.data.toList)) none
 | .const (.slice none 0 0)=>some .qD
 | .func f=>some (.qd f .un)
 | .global g=>match tab g with
  | some e=>some (.data (.ptr (.arr e.n e.t)) e.l)
  | none=>none
 | _=>none
def evs (J:St):List Operand->Option z7
 | []=>some .un
 | x :: l=>match ev J x,evs J l with
  | some a,some c=>some (.pr a c)
  | _,_=>none
def G6:z7->z7->z7
 | .pr a b,c=>.pr a (G6 b c)
 | _,c=>c
def z43:z7->Bool
 | .zq _ _ | .vA _ _ _ | .data (.ptr _) _=>true
 | _=>false
def holds (J:St):z7->Bool
 | .data (.ptr _) _=>true
 | .zq id _=>match J.z6 id with
  | some (.cell _)=>true
  | _=>false
 | .vA id _ ep=>match J.z6 id with
  | some (.row _ _ e)=>Nat.beq e ep
  | _=>false
 | .nv true id _ ep=>match J.z6 id with
  | some (.nest _ _ _ i none)=>Nat.beq i ep
  | _=>false
 | _=>false
def qo:z7->Bool
 | .un=>true
 | .pr (.zq _ _) c=>qo c
 | .pr (.data (.ptr _) _) c=>qo c
 | _=>false
def St.y6 (J:St) (c:Ctx) (d:Option Nat) (v:z7) (k:St->Option R):Option R:=match d with
 | some i=>cond (Nat.blt i c.ntmps) (k (J.set i v)) none
 | none=>k J
def ND (op:BinOp) (k:IntKind) (a b:Int) (f:z7->Option R):Option R:=
 match op with
 | .add=>f (.data (.int k) (k.wrap (a+b)))
 | .sub=>f (.data (.int k) (k.wrap (a-b)))
 | .mul=>f (.data (.int k) (k.wrap (a*b)))
 | .quo=>cond (b == 0) none (f (.data (.int k) (k.wrap (a.tdiv b))))
 | .rem=>cond (b == 0) none (f (.data (.int k) (a.tmod b)))
 | .and=>f (.data (.int k) (k.wrap (BitVec.ofInt k.bits a &&& BitVec.ofInt k.bits b).toNat))
 | .or=>f (.data (.int k) (k.wrap (BitVec.ofInt k.bits a ||| BitVec.ofInt k.bits b).toNat))
 | .xor=>f (.data (.int k) (k.wrap (BitVec.ofInt k.bits a ^^^ BitVec.ofInt k.bits b).toNat))
 | .andNot=>f (.data (.int k) (k.wrap (BitVec.ofInt k.bits a &&& ~~~BitVec.ofInt k.bits b).toNat))
 | .eql=>f (.data .bool (a == b))
 | .neq=>f (.data .bool (a != b))
 | .lss=>f (.data .bool (decide (a < b)))
 | .leq=>f (.data .bool (decide (a<=b)))
 | .gtr=>f (.data .bool (decide (a > b)))
 | .geq=>f (.data .bool (decide (a ≥ b)))
 | _=>none
def XK (op:BinOp) (k:IntKind) (a b:Int) (f:z7->Option R):Option R:=
 match op with
 | .shl=>cond (decide (b < 0)) none (f (.data (.int k) (k.wrap (a*2 ^ (min b.toNat k.bits)))))
 | .shr=>cond (decide (b < 0)) none (f (.data (.int k) (a.fdiv (2 ^ (min b.toNat k.bits)))))
 | _=>none
def Ug:BinOp->Bool
 | .shl | .shr=>true
 | _=>false
def Ri (op:BinOp) (a b:Bool) (f:z7->Option R):Option R:=
 match op with
 | .eql=>f (.data .bool (a == b))
 | .neq=>f (.data .bool (!(a == b)))
 | _=>none
def j7:Ty->Bool
 | .int _ | .bool | .str=>true
 | _=>false
def ju:(t:Ty)->t.den->t.den->Bool
 | .int _,a,b=>decide (a=b)
 | .bool,a,b=>a == b
 | .str,a,b=>decide (a=b)
 | _,_,_=>false
def k7 {I:Type} (f:I->I->Bool):List I->List I->Bool
 | [],[]=>true
 | x :: l,y :: m=>cond (f x y) (k7 f l m) false
 | _,_=>false
def yV:Ty->Bool
 | .unit=>true
 | .pair a b=>j7 a && yV b
 | .arr _ a=>j7 a
 | _=>false
def VC:(t:Ty)->t.den->t.den->Bool
 | .unit,_,_=>true
 | .pair a b,(x,u),(y,v)=>ju a x y && VC b u v
 | .arr _ a,x,y=>k7 (ju a) x y
 | _,_,_=>false
def kTy:Ty->Bool
 | .pair a b=>yV (.pair a b)
 | t=>j7 t
def Mq (t:Ty):t.den->t.den->Bool:=cond (j7 t) (ju t) (VC t)
def z6q (op:BinOp) (b:Bool) (f:z7->Option R):Option R:=
 match op with
 | .eql=>f (.data .bool b)
 | .neq=>f (.data .bool (!b))
 | _=>none
def NC (op:BinOp) (a b:List UInt8) (f:z7->Option R):Option R:=
 match op with
 | .add=>qW (decide (a.length+b.length<=room)) (f (.data .str (a++b)))
 | .eql=>f (.data .bool (decide (a=b)))
 | .neq=>f (.data .bool (!decide (a=b)))
 | _=>none
def zt9 (J:St) (q:Bool) (t:Option Ty) (op:BinOp) (x y:z7) (f:z7->Option R):Option R:=
 match x,y with
 | .data (.int k) a,.data (.int j) b=>cond (Ug op) (XK op k a b f) (match decEq k j with
   | isTrue _=>ND op k a b f
   | isFalse _=>none)
 | .data .bool a,.data .bool b=>match t with
  | some .bool=>Ri op a b f
  | _=>none
 | .data .str a,.data .str b=>NC op a b f
 | x,y=>match t with
  | some u=>cond (q && yV u && x.val && y.val) (asData J 20 x u fun d=>asData J 20 y u fun e=>z6q op (VC u d e) f) none
  | none=>none
def unK (op:UnOp) (x:z7) (f:z7->Option R):Option R:=
 match op,x with
 | .not,.data .bool a=>f (.data .bool (!a))
 | .neg,.data (.int k) a=>f (.data (.int k) (k.wrap (0-a)))
 | .xor,.data (.int k) a=>f (.data (.int k) (k.wrap (BitVec.ofInt k.bits (if k.signed then -1 else k.max) ^^^ BitVec.ofInt k.bits a).toNat))
 | _,_=>none
def zp7 (J:St) (x:z7) (f:Int->Option R):Option R:=
 match x with
 | .qD=>f 0
 | .data (.sl _ _) l=>f (l.length:Int)
 | .ref id p ep=>xu J id p ep fun _ l=>f (l.length:Int)
 | .view id p ep a b=>xu J id p ep fun _ _=>f (b-a)
 | .nv false id p ep=>Xm J id p ep fun _ l=>f (l.length:Int)
 | _=>none
def wJ {I Z:Type} (eq:I->I->Bool):List (I×Z)->I->Option Z
 | [],_=>none
 | (k,v) :: m,x=>cond (eq x k) (some v) (wJ eq m x)
def gp {I Z:Type} (eq:I->I->Bool):List (I×Z)->I->Z->List (I×Z)
 | [],x,y=>[(x,y)]
 | (k,v) :: m,x,y=>cond (eq x k) ((k,y) :: m) ((k,v) :: gp eq m x y)
def z3i (J:St) (mt:Option (Ty×Ty)) (a:z7) (f:(id:Nat)->(kt vt:Ty)->List (kt.den×vt.den)->Option R):Option R:=
 match a,mt with
 | .qz id,some (Aj,X9)=>match J.z6 id with
  | some (.map kt vt m)=>cond ((Ty.same kt Aj).isSome && (Ty.same vt X9).isSome && kTy kt && vt.qJ) (f id kt vt m) none
  | _=>none
 | _,_=>none
def z0q:Ty->Ty
 | .tree k=>.pair (uF k) (uE k)
 | t=>t
def z1j (J:St) (u:Ty) (x:z7) (lo:Int) (hi:Option Int) (f:z7->Option R):Option R:=
 match x with
 | .qD=>qW (decide (lo=0) && decide (hi.getD 0=0)) (f .qD)
 | .data (.sl false t) l=>cond ((z0q t).sk.same u.sk) (qW (decide (0<=lo) && decide (lo<=hi.getD (l.length:Int)) && decide (hi.getD (l.length:Int)<=(l.length:Int))) (f (.data (.sl false t) (sub l lo (hi.getD (l.length:Int)))))) none
 | .ref id [] ep=>xu J id [] ep fun t l=>cond (t.sk.same u.sk) (qW (decide (0<=lo) && decide (lo<=hi.getD (l.length:Int)) && decide (hi.getD (l.length:Int)<=(l.length:Int))) (f (.view id [] ep lo (hi.getD (l.length:Int))))) none
 | _=>none
def qq (g:Int->Int->Int) (k:IntKind) (x:Int):z7->(Int->Option R)->Option R
 | .un,f=>f x
 | .pr (.data (.int j) y) c,f=>match decEq k j with
  | isTrue _=>qq g k (g x y) c f
  | isFalse _=>none
 | _,_=>none
def gR (x y:Int):Int:=if y > x then y else x
def uu (x y:Int):Int:=if y < x then y else x
def Uu (J:St) (id:Nat):Nat:=match J.z6 id with
 | some (.nest _ _ _ i _)=>i
 | _=>0
def OR (J:St) (id:Nat):Bool:=match J.z6 id with
 | some (.nest _ _ _ _ (some _))=>true
 | _=>false
def z4r (J:St) (id:Nat) (ep:Nat) (u:Ty) (i:Int) (f:z7->Option R):Option R:=
 match J.z6 id with
 | some (.nest t l e n (some _))=>cond (Nat.beq e ep && t.sk.same u.sk) (qW (vU l i) (f (.nv true id [.idx i] n))) none
 | _=>none
def noP:Path->Bool
 | []=>true
 | _=>false
def zat:(t:Ty)->t.den->z7
 | .tree k,x=>.data (.ptr (.pair (uF k) (uE k))) (vz k x)
 | t,d=>.data (.ptr t) d
def z4a (J:St) (u:Ty) (x:z7) (i:Int) (f:z7->Option R):Option R:=
 match x,u with
 | .data (.sl _ t) l,.sl _ u=>cond ((z0q t).sk.same u.sk) ((idx l i).bind fun d=>f (zat t d)) none
 | .data (.ptr (.arr n t)) l,.arr m u=>cond (Nat.beq n m && t.sk.same u.sk) ((zkg l i).bind fun d=>f (.data (.ptr t) d)) none
 | .ref id p ep,.sl _ u=>xu J id p ep fun t l=>cond (t.sk.same u.sk) (qW (vU l i) (f (.vA id (p++[.idx i]) ep))) none
 | .view id p ep a b,.sl _ u=>xu J id p ep fun t _=>cond (t.sk.same u.sk) (qW (decide (0<=i) && decide (i < b-a)) (f (.vA id (p++[.idx (a+i)]) ep))) none
 | .nv false id p ep,.sl _ u=>cond (noP p && OR J id) (z4r J id ep u i f) (Xm J id p ep fun t l=>cond (t.sk.same u.sk) (qW (vU l i) (f (.nv true id (p++[.idx i]) (Uu J id)))) none)
 | .zq id p,.arr m u=>Jm J id p fun a=>match a with
  | .data (.arr n t) l=>cond (Nat.beq n m && t.sk.same u.sk) (qW (vU l i) (f (.zq id (p++[.idx i])))) none
  | _=>none
 | .vA id p ep,.arr m u=>match p with
  | []=>none
  | s :: q=>pC J id (s :: q) ep fun a l=>match a,l with
   | .arr n t,l=>cond (Nat.beq n m && t.sk.same u.sk) (qW (vU l i) (f (.vA id (s :: q++[.idx i]) ep))) none
   | _,_=>none
 | _,_=>none
def Dw (J:St) (x:z7) (f:z7->Option R):Option R:=
 match x with
 | .data (.ptr t) d=>f (.data t d)
 | .vA id p ep=>match p with
  | []=>none
  | s :: q=>pC J id (s :: q) ep fun u d=>f (.data u d)
 | .zq id p=>Jm J id p f
 | .nv true id p ep=>K4 J true id p ep fun u d=>cond u.zW (f (.data u d)) (match u with
  | .sl true _=>f (.nv false id p ep)
  | _=>none)
 | _=>none
def Ky:Path->Option (Path×Int×Path)
 | []=>none
 | s :: p=>match Ky p with
  | some (q,j,r)=>some (s :: q,j,r)
  | none=>match s with
   | .idx j=>some ([],j,p)
   | _=>none
def xr:Path->Path->Bool
 | [],[]=>true
 | .fst :: p,.fst :: q=>xr p q
 | .snd :: p,.snd :: q=>xr p q
 | .idx i :: p,.idx j :: q=>decide (i=j) && xr p q
 | _,_=>false
def jg:Ty->Path->Option Ty
 | .sl true v,[]=>some v
 | .pair a _,.fst :: p=>jg a p
 | .pair _ b,.snd :: p=>jg b p
 | .arr _ t,.idx _ :: p=>jg t p
 | .sl true t,.idx _ :: p=>jg t p
 | _,_=>none
def Hq (t:Ty):Path->Option Ty
 | .idx _ :: p=>jg t p
 | _=>none
def uS (J:St) (a:z7) (v:Ty) (k:List v.den->St->Option R):Option R:=match a with
 | .qD=>k [] J
 | .ref id [] ep=>match J.z6 id with
  | some (.row t l e)=>cond (Nat.beq e ep) (u4 (.sl true t) (.sl true v) l fun l=>k l (J.kill id)) none
  | _=>none
 | _=>none
def AM (J:St) (id:Nat) (t:Ty) (l:List t.den) (e i:Nat) (p:Path) (a:z7) (f:St->Option R):Option R:=
 match Hq t p with
 | some v=>cond v.zW (uS J a v fun d J=>jM (.sl true t) l p (.sl true v) d fun l=>f (J.setObj id (.nest t l e (i+1) none))) none
 | none=>none
def EC (J:St) (id:Nat) (p:Path) (ep:Nat) (a:z7) (f:St->Option R):Option R:=
 match J.z6 id with
 | some (.nest t l e i none)=>cond (Nat.beq i ep)
  (cond ((Hq t p).isSome) (AM J id t l e i p a f)
   (match Ky p with
    | some (s :: p,j,q)=>zb (.sl true t) l (s :: p) fun v l1=>match v,l1 with
     | .sl true v,l1=>cond v.zW (zb (.sl true v) l1 (.idx j :: q) fun u _=>j6 20 a u J fun d J=>match J.z6 id with
      | some (.nest _ _ _ _ none)=>jM (.sl true v) l1 (.idx j :: q) u d fun l1=>jM (.sl true t) l (s :: p) (.sl true v) l1 fun l=>f (J.setObj id (.nest t l e i none))
      | _=>none) none
     | _,_=>none
    | _=>none)) none
 | some (.nest t l e i (some h))=>cond (Nat.beq i ep) (qW (xr p h) (AM J id t l e i p a f)) none
 | _=>none
def z1b (J:St) (x a:z7) (f:St->Option R):Option R:=
 match x with
 | .vA id p ep=>match p with
  | []=>none
  | s :: q=>pC J id (s :: q) ep fun u _=>j6 20 a u J fun d J=>
   match J.z6 id with
   | some (.row t l e)=>cond (Nat.beq e ep) (jM (.sl true t) l (s :: q) u d fun l=>f (J.setObj id (.row t l e))) none
   | _=>none
 | .zq id p=>match J.z6 id with
  | some (.cell whole)=>cond whole.wI none (xg whole p fun old=>cond (old.sk.same a.sk) (x4 a whole p fun whole=>f (J.setObj id (.cell whole))) none)
  | _=>none
 | .nv true id p ep=>EC J id p ep a f
 | _=>none
def z7.N2:z7->Bool
 | .nv _ _ _ _=>true
 | _=>false
def Pg (J:St) (t:Ty) (x:z7) (f:List t.den->Option R):Option R:=cond (t.zW && x.val && !x.N2) (asData J 20 x (.sl false t) f) none
def zmc (J:St):z7->Option Ty
 | .data (.sl _ t) _=>some t
 | .ref id p ep=>xu J id p ep fun t _=>some t
 | .view id p ep _ _=>xu J id p ep fun t _=>some t
 | .nv false id p ep=>Xm J id p ep fun t _=>some t
 | _=>none
def Ty.kp:Ty->Bool
 | .sl true t=>t.kp
 | .pair a b=>a.kp && b.kp
 | .arr _ t=>t.kp
 | t=>t.qJ
def zbr (J:St) (x:z7) (f:(t:Ty)->(id e i:Nat)->t.den->Option R):Option R:=match x with
 | .nv false id [] ep=>match J.z6 id with
  | some (.nest t [d] e i none)=>cond (Nat.beq e ep && t.kp) (f t id e i d) none
  | _=>none
 | _=>none
def G5 (J:St) (u:Ty) (s x:z7) (f:z7->St->Option R):Option R:=
 match s with
 | .qD=>zbr J x fun t id e i d=>cond (t.sk.same u.sk) (f (.nv false id [] (e+1)) (J.setObj id (.nest t [d] (e+1) (i+1) none))) none
 | .nv false id [] ep=>match J.z6 id with
  | some (.nest t l e i none)=>cond (Nat.beq e ep && t.sk.same u.sk) (zbr J x fun t' vY _ _ d=>cond (Nat.beq id vY) none (u4 t' t d fun d=>qW (decide (l.length+1<=room)) (f (.nv false id [] (e+1)) ((J.kill vY).setObj id (.nest t (l++[d]) (e+1) (i+1) none))))) none
  | _=>none
 | _=>none
def Rm (J:St) (n:Nat) (u:Ty) (s x:z7) (f:z7->St->Option R):Option R:=
 match s with
 | .qD=>cond x.N2 (G5 J u .qD x f) <| match zmc J x with
  | some t=>cond (t.sk.same u.sk) (Pg J t x fun m=>qW (decide (m.length<=room)) (f (.ref n [] 1) (J.setObj n (.row t m 1)))) none
  | none=>none
 | .ref id [] ep=>match J.z6 id with
  | some (.row t l e)=>cond (Nat.beq e ep && t.sk.same u.sk) (Pg J t x fun m=>qW (decide (l.length+m.length<=room)) (f (.ref id [] (e+1)) (J.setObj id (.row t (l++m) (e+1))))) none
  | _=>none
 | .view id [] ep a b=>match J.z6 id with
  | some (.row t l e)=>cond (Nat.beq e ep && t.sk.same u.sk) (Pg J t x fun m=>qW (decide ((sub l a b).length+m.length<=room)) (f (.ref id [] (e+2)) (J.setObj id (.row t (sub l a b++m) (e+2))))) none
  | _=>none
 | .nv false id [] ep=>G5 J u (.nv false id [] ep) x f
 | .nv false id (q :: p) ep=>match J.z6 id with
  | some (.nest t l e i none)=>cond (Nat.beq i ep) (zb (.sl true t) l (q :: p) fun v l1=>match v,l1 with
   | .sl true v,l1=>cond (v.sk.same u.sk) (Pg J v x fun m=>qW (decide (l1.length+m.length<=room)) (f (.ref n [] 1) ((J.setObj id (.nest t l e i (some (q :: p)))).setObj n (.row v (l1++m) 1)))) none
   | _,_=>none) none
  | _=>none
 | _=>none
def parts (J:St) (t:Ty):List (Nat×Operand)->(List t.den->St->Option R)->Option R
 | [],k=>k [] J
 | (_,x) :: l,k=>match ev J x with
  | some a=>cond a.val (j6 20 a t J fun d J=>parts J t l fun ds J=>k (d :: ds) J) none
  | none=>none
def GR:Ty->Bool
 | .pair t (.pair (.sl true v) .unit)=>t.zW && v.zW
 | _=>false
def AE (J:St) (a:z7) (u:Ty) (k:u.den->St->Option R):Option R:=match a,u,k with
 | .agg (.pr x (.pr y .un)),.pair t (.pair (.sl true v) .unit),k=>cond (t.zW && v.zW && x.val) (j6 20 x t J fun d J=>uS J y v fun l J=>k (d,l,()) J) none
 | _,_,_=>none
def pq (J:St):Ty->Nat->List (Nat×Operand)->Option z7
 | .unit,_,[]=>some .un
 | .pair a b,i,[]=>match pD a,pq J b (i+1) [] with
  | some z,some c=>some (.pr z c)
  | _,_=>none
 | .pair a b,i,(j,x) :: l=>cond (Nat.beq i j)
   (match ev J x,pq J b (i+1) l with
    | some v,some c=>cond v.val (some (.pr v c)) none
    | _,_=>none)
   (match pD a,pq J b (i+1) ((j,x) :: l) with
    | some z,some c=>some (.pr z c)
    | _,_=>none)
 | _,_,_=>none
def jQ (t:Ty):z7->(List t.den->Option R)->Option R
 | .un,k=>k []
 | .pr (.data u d) c,k=>u4 u t d fun d=>jQ t c fun l=>k (d :: l)
 | _,_=>none
def uA (J:St) (u:Ty):Nat->Nat->List (Nat×Operand)->(List u.den->Option R)->Option R
 | 0,_,[],k=>k []
 | n+1,i,[],k=>match u.zero with
  | some z=>uA J u n (i+1) [] fun l=>k (z :: l)
  | none=>none
 | n+1,i,(j,x) :: ps,k=>cond (Nat.beq i j)
   (match ev J x with
    | some (.data t d)=>u4 t u d fun d=>uA J u n (i+1) ps fun l=>k (d :: l)
    | _=>none)
   (match u.zero with
    | some z=>uA J u n (i+1) ((j,x) :: ps) fun l=>k (z :: l)
    | none=>none)
 | 0,_,_ :: _,_=>none
def xR:Nat->List (Nat×Operand)->Bool
 | _,[]=>true
 | i,(j,_) :: l=>Nat.beq i j && xR (i+1) l
def qA:Nat->Path
 | 0=>[.fst]
 | n+1=>.snd :: qA n
def zgl (J:St) (id:Nat) (p:Path) (ep:Nat) (u:Ty) (i:Nat) (f:z7->Option R):Option R:=match p,J.z6 id with
 | [.idx j],some (.nest t _ _ n (some _))=>cond (Nat.beq n ep && t.sk.same u.sk && (v8 u (qA i)).isSome) (f (.nv true id ([.idx j]++qA i) ep)) none
 | _,_=>none
def z5s (J:St) (u:Ty) (x:z7) (i:Nat) (f:z7->Option R):Option R:=
 match x with
 | .data (.ptr t) d=>cond (t.sk.same u.sk) (zb t d (qA i) fun u e=>f (.data (.ptr u) e)) none
 | .zq id p=>Jm J id p fun a=>cond (a.sk.same u.sk && (v8 u (qA i)).isSome) (f (.zq id (p++qA i))) none
 | .vA id p ep=>match p with
  | []=>none
  | s :: q=>pC J id (s :: q) ep fun t _=>cond (t.sk.same u.sk && (v8 u (qA i)).isSome) (f (.vA id (s :: q++qA i) ep)) none
 | .nv true id p ep=>cond (OR J id) (zgl J id p ep u i f) (K4 J true id p ep fun t _=>cond (t.sk.same u.sk && (v8 u (qA i)).isSome) (f (.nv true id (p++qA i) ep)) none)
 | _=>none
def Ty.flat:Ty->Bool
 | .sl true t=>t.qJ
 | .pair a b=>a.flat && b.flat
 | t=>t.qJ
def xp:List Ty->Bool
 | []=>true
 | t :: ts=>t.flat && xp ts
def wo:z7->Bool
 | .ref _ _ _ | .view _ _ _ _ _ | .zq _ _ | .vA _ _ _ | .qz _ | .nv _ _ _ _=>false
 | .qd _ c | .V7 _ c | .agg c | .jV c=>wo c
 | .pr a b=>wo a && wo b
 | _=>true
def jf:z7->Bool
 | .pr a c=>a.val && jf c
 | .un=>true
 | _=>false
def kM:gx->Bool
 | .pr (.val _) q=>kM q
 | .un=>true
 | _=>false
def p9:z7->Bool
 | .pr a c=>a.val && !a.sk.isAgg && p9 c
 | .un=>true
 | _=>false
def G1 (g args:z7):Option (Nat×z7):=match g with
 | .qd fid cap=>cond (p9 cap) (some (fid,G6 args cap)) none
 | .data (.fn fid t) d=>cond (p9 (j5 t d) && (j5 t d).sk.same t.sk) (some (fid,G6 args (j5 t d))) none
 | _=>none
def Zc (J:St) (n:Nat) (all:z7) (p:gx) (res:List Ty) (F:p.den->Option (jw res)) (f:z7->St->Option R):Option R:=
 cond (kM p && jf all && (xp res || wo all)) (vO J p all [] fun d _=>(F d).bind fun r=>
   let x:=zZ res r n
   cond (Nat.ble x.2.length 8) (f x.1 (J.gm n x.2)) none) none
def gb:(p:gx)->(all:z7)->St->(z7->St->Option R)->Option R
 | .pr (.val t) q,.pr a c,J,k=>cond (a.val && t.zW && a.sk.same t.sk) (j6 20 a t J fun d J=>gb q c J fun c J=>k (.pr (.data t d) c) J) none
 | .un,.un,J,k=>k .un J
 | _,_,_,_=>none
def BG (J:St) (n:Nat) (all:z7) (p:gx) (res:List Ty) (F:p.den->Option (jw res)) (f:z7->St->Option R):Option R:=
 cond (xp res || wo all) (Zc J n all p res F f) (gb p all J fun all J=>Zc J n all p res F f)
def j9:z7->Nat->Option z7
 | .pr a _,0=>some a
 | .pr _ b,n+1=>j9 b n
 | _,_=>none
def pX (Jr:St) (z6:Nat->Option Obj) (Y:Nat->Option Nat):(l:List (Nat×zX))->z7->(Zp l->Option R)->Option R
 | [],.un,k=>k ()
 | (_,.val t) :: l,.pr a c,k=>asData Jr 20 a t fun d=>pX Jr z6 Y l c fun e=>k (d,e)
 | (_,p) :: l,.pr a c,k=>match a.vF z6 Y with
  | some a'=>p.take a' fun d=>pX Jr z6 Y l c fun e=>k (d,e)
  | none=>none
 | _,_,_=>none
def zX.isVal:zX->Bool
 | .val _=>true
 | _=>false
def pA:List (Nat×zX)->z7->List Nat
 | (_,p) :: l,.pr a c=>cond p.isVal (pA l c) (a.ids++pA l c)
 | _,_=>[]
def Qq:List (Nat×zX)->z7->Bool
 | (_,p) :: l,.pr a c=>(!p.isVal || wo a) && Qq l c
 | _,_=>true
def BD (l:List (Nat×zX)):List Nat->Bool
 | []=>true
 | i :: a=>(match zF l i with
  | some (_,p)=>!p.isVal
  | none=>false) && BD l a
def Av:List (Nat×zX)->Nat->Bool
 | [],_=>true
 | (i,_) :: l,n=>Nat.beq i n && Av l (n+1)
def zX.flat:zX->Bool
 | .val t=>t.qJ
 | .qd _ c | .V7 _ c | .agg c=>c.flat
 | .pr a b=>a.flat && b.flat
 | _=>true
def yK.flat:yK->Bool
 | .row t=>t.qJ
 | .cell p=>p.flat
 | .nest t=>t.kp
 | .map kt vt=>kt.qJ && vt.qJ
 | .iter _=>false
 | .p5 _=>false
def uZ:List (Nat×zX)->Bool
 | []=>true
 | (_,p) :: l=>p.flat && uZ l
def Qu:List yK->Bool
 | []=>true
 | o :: l=>o.flat && Qu l
def QN (z6:Nat->Option Obj) (a:z7) (p:zX) (b:Qd):Option Qd:=match a,p with
 | .ref id [] _,.ref j=>PM b j id some
 | .zq id [],.zq j []=>match z6 id with
  | some (.cell _)=>PM b j id some
  | _=>none
 | .qz id,.qz j=>match z6 id with
  | some (.map _ _ _)=>PM b j id some
  | _=>none
 | .nv false id [] _,.nv j=>PM b j id some
 | _,_=>none
def QM (z6:Nat->Option Obj):z7->zX->Qd->Option Qd
 | .un,.un,b=>some b
 | .pr (.data t _) c,.pr (.val u) q,b=>cond (Ty.same t u).isSome (QM z6 c q b) none
 | .pr a c,.pr p q,b=>match QN z6 a p b with
  | some b=>QM z6 c q b
  | none=>none
 | _,_,_=>none
def z7t (z6:Nat->Option Obj) (a:z7) (p:zX) (b:Qd):Option Qd:=match a,p with
 | .V7 _ a,.V7 _ p=>QN z6 a p b
 | .qd f c,.qd g q=>cond (Nat.beq f g) (QM z6 c q b) none
 | a,p=>QN z6 a p b
def BE (z6:Nat->Option Obj) (all:z7):List Nat->List (Nat×zX)->Qd->Option Qd
 | [],_,b=>some b
 | i :: l,(_,p) :: out,b=>match j9 all i with
  | some a=>match z7t z6 a p b with
   | some b=>BE z6 all l out b
   | none=>none
  | none=>none
 | _ :: _,[],_=>none
def xf (b:Qd) (n:Nat):Nat->Nat->List Nat
 | 0,_=>[]
 | m+1,j=>(match yO b j with
  | some id=>id
  | none=>n+j) :: xf b n m (j+1)
def G3 (J:St) (b:Qd) (j:Nat):Nat×Nat:=match yO b j with
 | some id=>match J.z6 id with
  | some (.row _ _ e)=>(e,0)
  | some (.nest _ _ e i _)=>(e,i+1)
  | _=>(0,0)
 | none=>(0,0)
def zX.inst (M:List Nat) (E:Nat->Nat×Nat):(p:zX)->p.den->Option z7
 | .val t,d=>some (.data t d)
 | .qD,_=>some .qD
 | .ref j,_=>(zF M j).map fun id=>.ref id [] (E j).1
 | .view j,d=>(zF M j).map fun id=>.view id [] (E j).1 d.1 d.2
 | .zq j p,_=>(zF M j).map fun id=>.zq id p
 | .qz j,_=>(zF M j).map fun id=>.qz id
 | .nv j,_=>(zF M j).map fun id=>.nv false id [] (E j).1
 | .nvi j,d=>(zF M j).map fun id=>.nv false id [.idx d] (E j).2
 | .qd f c,d=>(c.inst M E d).map fun a=>.qd f a
 | .V7 f c,d=>(c.inst M E d).map fun a=>.V7 f a
 | .agg c,d=>(c.inst M E d).map fun a=>.agg a
 | .pr a b,d=>match a.inst M E d.1,b.inst M E d.2 with
  | some x,some y=>some (.pr x y)
  | _,_=>none
 | .un,_=>some .un
def yK.inst (M:List Nat) (E:Nat->Nat×Nat) (j:Nat):(o:yK)->o.den->Option Obj
 | .row t,l=>some (.row t l (E j).1)
 | .cell p,d=>(p.inst M E d).map fun a=>.cell a
 | .map kt vt,m=>some (.map kt vt m)
 | .nest t,l=>some (.nest t l (E j).1 (E j).2 none)
 | .iter _,_=>none
 | .p5 p,d=>cond (z7.jV (p.mk d)).wL ((p.inst M E d).map fun a=>.cell (.jV a)) none
def GH (M:List Nat) (E:Nat->Nat×Nat):(l:List yK)->VZ l->Nat->Option (List Obj)
 | [],_,_=>some []
 | o :: l,d,j=>match o.inst M E j d.1,GH M E l d.2 (j+1) with
  | some x,some y=>some (x :: y)
  | _,_=>none
def gL (M:List Nat) (E:Nat->Nat×Nat):(l:List (Nat×zX))->Zp l->Option (List z7)
 | [],_=>some []
 | (_,p) :: l,d=>match p.inst M E d.1,gL M E l d.2 with
  | some x,some y=>some (x :: y)
  | _,_=>none
def sameKind:Option Obj->Obj->Bool
 | some (.row t _ _),.row u _ _=>(Ty.same t u).isSome
 | some (.cell a),.cell x=>x.sk.same a.sk
 | some (.map kt vt _),.map Aj X9 _=>(Ty.same kt Aj).isSome && (Ty.same vt X9).isSome
 | some (.nest t _ _ _ none),.nest u _ _ _ none=>(Ty.same t u).isSome
 | _,_=>false
def Xf (J:St) (ids:List Nat) (b:Qd):List Obj->Nat->Bool
 | [],_=>true
 | o :: l,j=>(match yO b j with
  | some id=>yE id ids && sameKind (J.z6 id) o
  | none=>true) && Xf J ids b l (j+1)
def YA:List Nat->Bool
 | []=>true
 | x :: l=>!yE x l && YA l
def z7m (J:St) (ids M:List Nat) (os:List Obj):St:={ J with z6:=fun i=>match qG i M 0 with
 | some j=>zF os j
 | none=>cond (yE i ids) none (J.z6 i) }
def jS:List z7->z7
 | []=>.un
 | a :: l=>.pr a (jS l)
def gk:List z7->z7
 | [a]=>a
 | l=>.jV (jS l)
def gK {I:Type}:Nat->List I->List I
 | 0,l=>l
 | _+1,[]=>[]
 | n+1,_ :: l=>gK n l
def Mr (J:St) (n:Nat) (ids:List Nat) (b:Qd) (jC:List Nat) (zm:vp) (r:zm.den) (f:z7->St->Option R):Option R:=
 match GH (xf b n zm.z6.length 0) (G3 J b) zm.z6 r.2 0,gL (xf b n zm.z6.length 0) (G3 J b) zm.zk r.1 with
 | some os,some vs=>cond (YA (xf b n zm.z6.length 0) && Xf J ids b os 0) (f (gk (gK jC.length vs)) (z7m J ids (xf b n zm.z6.length 0) os)) none
 | _,_=>none
def z38 (J:St) (all:z7) (fin:vp) (ids:List Nat) (k:fin.den->Option R):Option R:=
 match JC (fun i=>qG i ids 0) J.z6 ids with
 | some os=>pX (J.only fun i=>!yE i ids) J.z6 (fun i=>qG i ids 0) fin.zk all fun d=>Vc fin.z6 os fun e=>k (d,e)
 | none=>none
def Cu:List yK->List Nat->St->(St->Option R)->Option R
 | .p5 _ :: os,i :: is,J,k=>match J.z6 i with
  | some (.cell a)=>cond (z7.jV a).wL (Cu os is (J.setObj i (.cell (.jV a))) k) (Cu os is J k)
  | _=>Cu os is J k
 | _ :: os,_ :: is,J,k=>Cu os is J k
 | _,_,J,k=>k J
def z7r (z6:Nat->Option Obj) (a:z7) (p:zX) (b:Qd):Option Qd:=match a,p with
 | .agg c,.agg q=>QM z6 c q b
 | .qz i,.qz j=>QN z6 (.qz i) (.qz j) b
 | _,_=>none
def LJ (z6:Nat->Option Obj) (ids:List Nat) (fo:List yK):Qd->Qd->Option Qd
 | [],b=>some b
 | (j,_) :: l,b=>match yO b j with
  | some id=>match zF fo j,z6 id with
   | some (.p5 p),some (.cell (.jV a))=>cond (yE id ids && (z7.jV a).wL) (match z7r z6 a p b with
    | some b=>LJ z6 ids fo l b
    | none=>none) none
   | _,_=>LJ z6 ids fo l b
  | none=>LJ z6 ids fo l b
def zjo (J:St) (n:Nat) (all:z7) (fin:vp) (jC:List Nat) (zm:vp) (F:fin.den->Option zm.den) (f:z7->St->Option R):Option R:=
 Cu fin.z6 (kH J.z6 100 (pA fin.zk all) []) J fun J=>
 cond (jf all && Av fin.zk 0 && BD fin.zk jC && (Qq fin.zk all || (uZ zm.zk && Qu zm.z6)) && Nat.ble zm.z6.length 8)
  (match (BE J.z6 all jC zm.zk []).bind fun b=>LJ J.z6 (kH J.z6 100 (pA fin.zk all) []) zm.z6 b b with
   | some b=>z38 J all fin (kH J.z6 100 (pA fin.zk all) []) fun d=>(F d).bind fun r=>Mr J n (kH J.z6 100 (pA fin.zk all) []) b jC zm r f
   | none=>none) none
def z7c (c:Ctx) (J:St) (n:Nat) (g:z7) (args:z7) (f:z7->St->Option R):Option R:=
 match G1 g args with
 | some (fid,all)=>match PY all (c.env fid) with
  | some (.pure p res F)=>Zc J n all p res F f
  | _=>none
 | none=>none
def z7b (c:Ctx) (J:St) (n:Nat) (g:z7) (args:z7) (f:z7->St->Option R):Option R:=
 match G1 g args with
 | some (fid,all)=>match PY all (c.env fid) with
  | some (.pure p res F)=>BG J n all p res F f
  | some (.mut fin jC zm F)=>zjo J n all fin jC zm F f
  | none=>none
 | none=>none
def PE {I:Type} (m:List I) (a b:Int):Int:=(Nat.min m.length (b-a).toNat:Nat)
def gd {I:Type} (l:List I) (a b:Int) (m:List I):List I:=l.take a.toNat++m.take (Nat.min m.length (b-a).toNat)++l.drop (a.toNat+Nat.min m.length (b-a).toNat)
def FO (J:St) (u:Ty) (id:Nat) (ep:Nat) (a b:Int) (y:z7) (f:Int->St->Option R):Option R:=match J.z6 id with
 | some (.row t l e)=>cond (Nat.beq e ep && (Ty.same t u).isSome) (Pg J t y fun m=>f (PE m a b) (J.setObj id (.row t (gd l a b m) e))) none
 | _=>none
def zhc (J:St) (u:Ty) (x y:z7) (f:Int->St->Option R):Option R:=match x with
 | .view id [] ep a b=>FO J u id ep a b y f
 | .ref id [] ep=>match J.z6 id with
  | some (.row _ l _)=>FO J u id ep 0 (l.length:Int) y f
  | _=>none
 | _=>none
open Classical in
def Dc {I:Type} (f:I->Option R):List I->Option R
 | []=>none
 | a :: l=>if ∀ b∈l,f b=f a then f a else none
def YB (left:List Int) (done:Option R) (f:Int->List Int->Option R):Option R:=match left with
 | []=>done
 | j :: l=>Dc (fun j'=>f j' ((j :: l).filter fun i=>!decide (i=j'))) (j :: l)
def upto:Nat->List Int
 | 0=>[]
 | n+1=>upto n++[(n:Int)]
def MS (c:Ctx) (J:St) (n:Nat) (dst:Option Nat) (t:Nat) (x:z7) (k:St->Option R):Option R:=
 match x,c.mt t with
 | .qz id,some _=>match J.z6 id with
  | some (.map _ _ m)=>J.y6 c dst (.zq n []) fun J=>k (J.setObj n (.cell (uV id (m.length:Int) (upto m.length) (-1))))
  | _=>none
 | _,_=>none
def z30 (c:Ctx) (J:St) (dst:Option Nat) (x:z7) (k:St->Option R):Option R:=match x with
 | .zq id []=>match J.z6 id with
  | some (.cell (.jV (.pr (.qz Gx) (.pr (.data (.int .i64) n) (.pr (.data (.sl false (.int .i64)) left) (.pr (.data (.int .i64) _) .un))))))=>match J.z6 Gx with
   | some (.map kt vt m)=>qW (decide (n=(m.length:Int))) (YB left (J.y6 c dst (.jV (.pr (.data .bool false) .un)) k) fun j rest=>(idx m j).bind fun e=>
     (J.setObj id (.cell (uV Gx n rest j))).y6 c dst (.jV (.pr (.data .bool true) (.pr (.data kt e.1) (.pr (.data vt e.2) .un)))) k)
   | _=>none
  | _=>none
 | _=>none
def OP (c:Ctx) (J:St) (n:Nat) (dst:Option Nat) (u:Ty) (len:Nat) (ps:List (Nat×Operand)) (k:St->Option R):Option R:=match len,ps with
 | 0,[]=>(J.setObj n (.nest u [] 0 0 none)).y6 c dst (.nv false n [] 0) k
 | 1,[(0,x)]=>match ev J x with
  | some a=>AE J a u fun d J=>(J.setObj n (.nest u [d] 0 0 none)).y6 c dst (.nv false n [] 0) k
  | none=>none
 | _,_=>none
def NK (c:Ctx) (J:St) (dst:Option Nat) (x:z7) (k:St->Option R):Option R:=match x with
 | .zq id []=>match J.z6 id with
  | some (.cell (.jV (.pr (.qz Gx) (.pr (.data (.int .i64) n) (.pr (.data (.sl false (.int .i64)) left) (.pr (.data (.int .i64) cur) .un))))))=>match J.z6 Gx with
   | some (.map kt vt m)=>qW (decide (n=(m.length:Int))) ((idx m cur).bind fun e=>J.y6 c dst (.jV (.pr (.data kt e.1) (.pr (.data vt e.2) .un))) k)
   | _=>none
  | _=>none
 | _=>none
def evI (J:St):Option Operand->Option (Option Int)
 | none=>some none
 | some x=>match ev J x with
  | some (.data (.int _) n)=>some (some n)
  | _=>none
def Oy:Ty->Bool
 | .sl true v=>v.zW
 | _=>false
def O0 (n:Nat):Ty->Option z7
 | .fn _ _ | .ptr _=>some (.qz n)
 | u=>pD u
def yG (c:Ctx) (J:St) (n:Nat) (o:Oper) (k:St->Option R):Option R:=
 match o.op with
 | .move x | .assign x=>match ev J x with
  | some a=>J.y6 c o.dst a k
  | none=>none
 | .pick t x y=>match ev J t with
  | some (.data .bool b)=>cond b
    (match ev J x with
     | some a=>J.y6 c o.dst a k
     | none=>none)
    (match ev J y with
     | some a=>J.y6 c o.dst a k
     | none=>none)
  | _=>none
 | .binOp op t x y _=>match ev J x,ev J y with
  | some a,some b=>zt9 J (c.eqs t) (c.tt t) op a b fun v=>J.y6 c o.dst v k
  | _,_=>none
 | .unOp op _ x=>match ev J x with
  | some a=>unK op a fun v=>J.y6 c o.dst v k
  | none=>none
 | .convert t t' x=>match ev J x,c.tt t,c.tt t' with
  | some (.data (.int _) j),some (.int _),some (.int kd)=>J.y6 c o.dst (.data (.int kd) (kd.wrap j)) k
  | _,_,_=>none
 | .indexAddr t x i=>match ev J x,ev J i,c.tt t with
  | some a,some (.data (.int _) j),some u=>z4a J u a j fun v=>J.y6 c o.dst v k
  | _,_,_=>none
 | .fieldAddr t x i=>match ev J x,c.tt t with
  | some a,some u=>z5s J u a i fun v=>J.y6 c o.dst v k
  | _,_=>none
 | .index t x i=>match ev J x,ev J i,c.tt t with
  | some (.data (.arr n t') l),some (.data (.int _) j),some (.arr m u)=>cond (Nat.beq n m && t'.sk.same u.sk) ((idx l j).bind fun d=>J.y6 c o.dst (.data t' d) k) none
  | some (.data .str l),some (.data (.int _) j),some .str=>(idx l j).bind fun d=>J.y6 c o.dst (.data (.int .u8) (d.toNat:Int)) k
  | _,_,_=>none
 | .nilCheck x=>match ev J x with
  | some a=>cond (holds J a) (J.y6 c o.dst a k) none
  | none=>none
 | .load t x=>match ev J x,c.tt t with
  | some a,some u=>Dw J a fun v=>cond (v.val && u.sk.same v.sk) (J.y6 c o.dst v k) none
  | _,_=>none
 | .store t x y=>match ev J x,ev J y,c.tt t,o.dst with
  | some a,some b,some u,none=>cond (b.val && u.sk.same b.sk) (z1b J a b k) none
  | _,_,_,_=>none
 | .extract x i=>match ev J x with
  | some (.jV a)=>match j9 a i with
   | some v=>J.y6 c o.dst v k
   | none=>none
  | _=>none
 | .alloc t=>match (c.tt t).bind (O0 n) with
  | some z=>J.y6 c o.dst (.zq n []) fun J=>k (J.setObj n (.cell z))
  | none=>none
 | .box _ x=>match ev J x with
  | some a=>cond a.val (J.y6 c o.dst (.zq n []) fun J=>k (J.setObj n (.cell a))) none
  | none=>none
 | .makeFunc (.func f) first cap=>match first.toList with
  | []=>match evs J cap.toList with
   | some a=>cond (qo a) (J.y6 c o.dst (.qd f a) k) none
   | none=>none
  | _=>none
 | .makeSlice t len cap=>match CD c o.dst t with
  | some (.sl _ u)=>match u.zero,ev J len,ev J cap with
   | some z,some (.data (.int _) l),some (.data (.int _) m)=>
    cond u.zW (qW (decide (0<=l) && decide (l<=m) && decide (m<=(room:Int))) (J.y6 c o.dst (.ref n [] 0) fun J=>k (J.setObj n (.row u (List.replicate l.toNat z) 0))))
     (cond (Oy u) (qW (decide (0<=l) && decide (l<=m) && decide (m<=(room:Int))) (J.y6 c o.dst (.nv false n [] 0) fun J=>k (J.setObj n (.nest u (List.replicate l.toNat z) 0 0 none)))) none)
   | _,_,_=>none
  | _=>none
 | .build t ps=>match c.tt t with
  | some (.pair x y)=>match pq J (.pair x y) 0 ps.toList with
   | some a=>cond (a.sk.same (Ty.pair x y).sk) (J.y6 c o.dst (.agg a) k) none
   | none=>none
  | some (.arr n u)=>match evs J (ps.toList.map (·.2)) with
   | some a=>cond (xR 0 ps.toList && Nat.beq ps.toList.length n && j7 u) (jQ u a fun l=>J.y6 c o.dst (.data (.arr n u) l) k) (cond (u.zW && !u.sk.isAgg) (uA J u n 0 ps.toList fun l=>J.y6 c o.dst (.data (.arr n u) l) k) none)
   | none=>none
  | _=>none
 | .buildSlice t len ps=>match CD c o.dst t with
  | some (.sl _ u)=>cond (u.zW && xR 0 ps.toList && Nat.beq ps.toList.length len && Nat.ble (len*u.size) 100000) (parts J u ps.toList fun ds J=>cond (zst c o.dst) (J.y6 c o.dst (.data (.sl false u) ds) k) (J.y6 c o.dst (.ref n [] 0) fun J=>k (J.setObj n (.row u ds 0))))
    (cond (GR u && Nat.ble (len*u.size) 100000) (OP c J n o.dst u len ps.toList k) none)
  | _=>none
 | .makeMap t none=>match c.mt t with
  | some (kt,vt)=>cond (kTy kt && vt.qJ) (J.y6 c o.dst (.qz n) fun J=>k (J.setObj n (.map kt vt []))) none
  | none=>none
 | .lookup t x i ok=>match ev J x,ev J i with
  | some a,some b=>z3i J (c.mt t) a fun _ kt vt m=>cond b.val (asData J 20 b kt fun key=>match vt.zero with
   | some z=>cond ok (J.y6 c o.dst (.jV (.pr (.data vt ((wJ (Mq kt) m key).getD z)) (.pr (.data .bool (wJ (Mq kt) m key).isSome) .un))) k)
    (J.y6 c o.dst (.data vt ((wJ (Mq kt) m key).getD z)) k)
   | none=>none) none
  | _,_=>none
 | .mapUpdate t x i y=>match ev J x,ev J i,ev J y,o.dst with
  | some a,some b,some v,none=>z3i J (c.mt t) a fun id kt vt m=>cond (b.val && v.val) (asData J 20 b kt fun key=>asData J 20 v vt fun d=>k (J.setObj id (.map kt vt (gp (Mq kt) m key d)))) none
  | _,_,_,_=>none
 | .slice t x lo hi none=>match ev J x,c.tt t,evI J lo,evI J hi with
  | some a,some (.sl _ u),some lo,some hi=>z1j J u a (lo.getD 0) hi fun v=>J.y6 c o.dst v k
  | some (.data .str l),some .str,some lo,some hi=>qW (decide (0<=lo.getD 0) && decide (lo.getD 0<=hi.getD (l.length:Int)) && decide (hi.getD (l.length:Int)<=(l.length:Int))) (J.y6 c o.dst (.data .str (sub l (lo.getD 0) (hi.getD (l.length:Int)))) k)
  | _,_,_,_=>none
 | .slice t x none (some hi) (some mx)=>match ev J x,ev J hi,ev J mx,c.tt t with
  | some (.ref id [] ep),some (.data (.int _) h),some (.data (.int _) m),some (.sl _ u)=>match J.z6 id with
   | some (.row t' l e)=>cond (Nat.beq e ep && t'.sk.same u.sk) (qW (decide (0<=h) && decide (h<=m) && decide (m<=(l.length:Int))) ((J.setObj id (.row t' (sub l 0 h) (e+1))).y6 c o.dst (.ref id [] (e+1)) k)) none
   | _=>none
  | _,_,_,_=>none
 | .call { callee:=.builtin .len,args:=args,argTypes:=ts }=>match args.toList,ts.toList with
  | [x],[t]=>match ev J x,c.tt t with
   | some a,some (.sl _ _)=>zp7 J a fun v=>J.y6 c o.dst (.data (.int .i64) v) k
   | some (.data .str l),some .str=>J.y6 c o.dst (.data (.int .i64) (l.length:Int)) k
   | some a,_=>z3i J (c.mt t) a fun _ _ _ m=>qW (decide (m.length<=room)) (J.y6 c o.dst (.data (.int .i64) (m.length:Int)) k)
   | _,_=>none
  | _,_=>none
 | .call { callee:=.builtin .max,args:=args,.. }=>match evs J args.toList with
  | some (.pr (.data (.int i) x) r)=>qq gR i x r fun v=>J.y6 c o.dst (.data (.int i) v) k
  | _=>none
 | .call { callee:=.builtin .min,args:=args,.. }=>match evs J args.toList with
  | some (.pr (.data (.int i) x) r)=>qq uu i x r fun v=>J.y6 c o.dst (.data (.int i) v) k
  | _=>none
 | .call { callee:=.builtin .append,args:=args,argTypes:=ts }=>match args.toList,ts.toList with
  | [x,y],[t,t']=>match ev J x,ev J y,c.tt t with
   | some a,some b,some (.sl _ u)=>cond (Nat.beq t t') (Rm J n u a b fun v J=>J.y6 c o.dst v k) none
   | _,_,_=>none
  | _,_=>none
 | .call { callee:=.builtin .copy,args:=args,argTypes:=ts }=>match args.toList,ts.toList with
  | [x,y],[t,_]=>match ev J x,ev J y,c.tt t with
   | some a,some b,some (.sl _ u)=>zhc J u a b fun n J=>J.y6 c o.dst (.data (.int .i64) n) k
   | _,_,_=>none
  | _,_=>none
 | .call { callee:=.value g,args:=args,.. }=>match ev J g,evs J args.toList with
  | some g,some a=>z7c c J n g a fun v J=>J.y6 c o.dst v k
  | _,_=>none
 | _=>none
def isM (o:Oper):Bool:=match o.op with
 | .store _ _ _=>true
 | .mapUpdate _ _ _ _=>true
 | .call cl=>match cl.callee with
  | .builtin .append | .builtin .clear | .builtin .copy=>true
  | _=>false
 | _=>false
def EO (o:Oper):Bool:=match o.op with
 | .call cl=>match cl.callee with
  | .value _ | .invoke _ _=>true
  | _=>false
 | .range _ _ | .next _ _ | .entry _=>true
 | _=>false
def QT (q:Bool) (o:Oper):Bool:=cond q (isM o || EO o) (isM o)
def Ap (o:Oper):Bool:=match o.op with
 | .assign (.const .nilFunc) | .assign (.const .nilIface) | .assign (.const (.pointer none))=>true
 | _=>false
def Tt (c:Ctx) (J:St) (n:Nat) (o:Oper) (k:St->Option R):Option R:=cond (Ap o) (k (J.kB o.dst)) (yG c J n o k)
open Classical in
def qQ:List (Option R)->Option R
 | []=>none
 | x :: l=>if ∀ y∈l,y=x then x else none
def views (J:St) (id e:Nat) (n:Int):St:={ J with zk:=fun i=>match J.zk i with
 | some (.ref j p e')=>match p with
  | []=>cond (Nat.beq j id && Nat.beq e' e) (some (.view id [] (e+1) 0 n)) (some (.ref j [] e'))
  | p=>some (.ref j p e')
 | x=>x }
def Ff (J:St) (n:Nat) (u:Ty) (s x:z7) (f:z7->St->Option R):Option R:=match s with
 | .ref id [] ep=>match J.z6 id with
  | some (.row t l e)=>cond (Nat.beq e ep && t.sk.same u.sk) (Pg J t x fun m=>qW (decide (l.length+m.length<=room))
    (qQ [f (.ref id [] (e+1)) ((views J id e (l.length:Int)).setObj id (.row t (l++m) (e+1))),f (.ref n [] 1) (J.setObj n (.row t (l++m) 1))])) none
  | _=>none
 | _=>none
def zha (c:Ctx) (d:Option Nat):Bool:=match d.bind c.own with
 | some .unit=>true
 | _=>false
def Tj (q:Bool) (c:Ctx) (J:St) (n:Nat) (o:Oper) (k:St->Option R):Option R:=match o.op with
 | .call { callee:=.value g,args:=args,.. }=>cond q (match ev J g,evs J args.toList with
   | some g,some a=>z7b c J n g a fun v J=>J.y6 c o.dst v k
   | _,_=>none) (Tt c J n o k)
 | .range t x=>cond q (match ev J x with
   | some a=>MS c J n o.dst t a k
   | none=>none) (Tt c J n o k)
 | .next x false=>cond q (match ev J x with
   | some a=>z30 c J o.dst a k
   | none=>none) (Tt c J n o k)
 | .entry x=>cond q (match ev J x with
   | some a=>NK c J o.dst a k
   | none=>none) (Tt c J n o k)
 | .call { callee:=.builtin .append,args:=args,argTypes:=ts,.. }=>cond (q && zha c o.dst) (match args.toList,ts.toList with
   | [x,y],[t,t']=>match ev J x,ev J y,c.tt t with
    | some a,some b,some (.sl _ u)=>cond (Nat.beq t t') (Ff J n u a b fun v J=>J.y6 c o.dst v k) none
    | _,_,_=>none
   | _,_=>none) (Tt c J n o k)
 | _=>Tt c J n o k
def Ge (o:Oper):Bool:=match o.op with
 | .move _ | .assign _ | .pick _ _ _ | .binOp _ _ _ _ _ | .unOp _ _ _ | .convert _ _ _ | .indexAddr _ _ _ | .fieldAddr _ _ _ | .nilCheck _ | .load _ _ | .extract _ _ | .makeFunc _ _ _ | .lookup _ _ _ _ | .slice _ _ _ _ none | .build _ _ | .index _ _ _ | .field _ _ _ | .makeInterface _ _ | .typeAssert _ _ _ _=>true
 | .call cl=>match cl.callee with
  | .builtin .len | .builtin .max | .builtin .min=>true
  | _=>false
 | _=>false
def N1 (o:Oper):Bool:=!Ap o && Ge o
def isP (o:Oper):Bool:=match o.op with
 | .load _ _ | .lookup _ _ _ _=>false
 | .call cl=>match cl.callee with
  | .builtin .max | .builtin .min=>true
  | _=>false
 | _=>true
def noM:List (Nat×Oper)->Bool
 | []=>true
 | (_,o) :: l=>!isM o && noM l
def z47 (t:Nat) (o:Oper):Bool:=match o.op with
 | .pick (.tmp u) _ _=>Nat.beq t u
 | _=>false
def splitAt (p:Oper->Bool):List (Nat×Oper)->List (Nat×Oper)->Option (List (Nat×Oper)×Option Nat×List (Nat×Oper))
 | [],_=>none
 | (i,o) :: l,acc=>cond (p o) (some (acc++[(i,o)],o.dst,l)) (splitAt p l (acc++[(i,o)]))
def BP (J:St) (d:Nat):Option Bool:=match J.zk d with
 | some (.data .bool b)=>some b
 | _=>none
def wu:List (Nat×Oper)->St->St
 | [],J=>J
 | (_,o) :: l,J=>wu l (J.kB o.dst)
def rmN (d:Nat):List Nat->List Nat
 | []=>[]
 | x :: l=>cond (Nat.beq x d) (rmN d l) (x :: rmN d l)
def QI:Option Nat->List Nat->List Nat
 | none,u=>u
 | some d,u=>rmN d u
def Fi:Option Nat->List Nat->List Nat
 | none,u=>u
 | some d,u=>d :: u
def Bj:List (Nat×Oper)->List Nat->List Nat
 | [],u=>u
 | (_,o) :: l,u=>Bj l (QI o.dst u)
def zg4:List Callee->Bool
 | []=>true
 | .pure _ _ _ :: l=>zg4 l
 | _=>false
def z7a (J:St) (x:Operand):Option Nat:=match ev J x with
 | some (.qd f _)=>some f
 | some (.data (.fn f _) _)=>some f
 | _=>none
def EF:List (Nat×Oper)->Operand->Operand
 | (_,o) :: l,.tmp s=>match o.dst,o.op with
  | some t,.move y=>cond (Nat.beq t s) y (EF l (.tmp s))
  | _,_=>EF l (.tmp s)
 | _,x=>x
def Oh (c:Ctx) (J:St) (all:List (Nat×Oper)):List (Nat×Oper)->Bool
 | []=>false
 | (_,o) :: l=>(match o.op with
  | .call cl=>match cl.callee with
   | .value g=>match z7a J (EF all g) with
    | some f=>!zg4 (c.env f)
    | none=>true
   | _=>false
  | _=>false) || Oh c J all l
def F1 (c:Ctx) (J:St) (l:List (Nat×Oper)):Bool:=Oh c J l l
def ZJ (c:Ctx) (base:Nat) (dst:Nat->Option Nat):(q:Bool)->(fuel:Nat)->(R:Type)->(opened py:List Nat)->List (Nat×Oper)->St->(St->Option R)->Option R
 | _,0,_,_,_,_,_,_=>none
 | _,_+1,_,_,_,[],J,k=>k J
 | q,n+1,R,opened,py,(i,o) :: l,J,k=>
  match o.guard with
  | none=>Tj q c J (base+8*i) o fun J=>ZJ c base dst q n R opened (QI o.dst py) l J k
  | some (j,want)=>
   match dst j with
   | none=>none
   | some t=>
    match J.zk t with
    | some (.data .bool b)=>
     cond (yE j opened)
      (cond (b == want) (Tj q c J (base+8*i) o fun J=>ZJ c base dst q n R opened (QI o.dst py) l J k) (ZJ c base dst q n R opened (Fi o.dst py) l (J.kB o.dst) k))
      (match splitAt (z47 t) ((i,o) :: l) [] with
       | some (PB,some d,rest)=>cond (q && F1 c J PB)
        (cond b (ZJ c base dst q n R (j :: opened) py ((i,o) :: l) (J.set t (.data .bool true)) k)
            (ZJ c base dst q n R (j :: opened) py ((i,o) :: l) (J.set t (.data .bool false)) k)) <| cond (noM PB) (
        (cond b (ZJ c base dst false n Bool (j :: opened) py PB (J.set t (.data .bool true)) fun J=>BP J d)
            (ZJ c base dst false n Bool (j :: opened) py PB (J.set t (.data .bool false)) fun J=>BP J d)).bind fun v=>
        cond (Nat.blt d c.ntmps) (ZJ c base dst q n R opened (Bj PB py) rest ((wu PB J).set d (.data .bool v)) k) none) none
       | _=>none)
    | none=>cond (yE t py) (ZJ c base dst q n R opened (Fi o.dst py) l (J.kB o.dst) k) none
    | _=>none
def za {I:Type}:Nat->List I->List (Nat×I)
 | _,[]=>[]
 | i,x :: l=>(i,x) :: za (i+1) l
def po (ops:List Oper) (j:Nat):Option Nat:=(zF ops j).bind (·.dst)
def wj:List Edge->List Nat
 | []=>[]
 | e :: l=>cond (Region.binds .any e) (e.on :: wj l) (wj l)
def LH:List Nat->List Nat->Bool
 | [],_=>true
 | x :: l,d=>yE x d && LH l d
def BX:List Nat->List Nat->Bool
 | [],_=>false
 | x :: l,d=>yE x d || BX l d
def YQ (done:List Nat) (o:Oper):Bool:=LH (wj o.after.toList) done
def CH:List Operand->List Nat
 | []=>[]
 | .tmp t :: l=>t :: CH l
 | _ :: l=>CH l
def z5m (dst:Nat->Option Nat) (o:Oper):List Nat:=match o.guard with
 | some (j,_)=>match dst j with
  | some t=>[t]
  | none=>[]
 | none=>[]
def A7 (dst:Nat->Option Nat) (o:Oper) (t:Nat):Bool:=yE t (CH o.op.operands.toList) || yE t (z5m dst o)
def Fh (dst:Nat->Option Nat) (x y:Oper):Bool:=
 (match x.dst with
  | some d=>!A7 dst y d && (match y.dst with
   | some e=>!Nat.beq d e
   | none=>true)
  | none=>true) &&
 (match y.dst with
  | some d=>!A7 dst x d
  | none=>true)
def gS (i:Nat):List (Nat×Oper)->List Nat->List Nat
 | [],acc=>acc
 | (j,o) :: l,acc=>gS i l (cond (yE i (wj o.after.toList) || BX (wj o.after.toList) acc) (j :: acc) acc)
def On (q:Bool) (dst:Nat->Option Nat) (done later:List Nat) (i:Nat) (o:Oper):List (Nat×Oper)->Bool
 | []=>true
 | (j,oj) :: l=>(Nat.beq j i || yE j done || ((yE i (wj oj.after.toList) || Fh dst o oj) && (isP o || !QT q oj || yE j later))) && On q dst done later i o l
def BF (done:List Nat) (i:Nat):List (Nat×Oper)->Bool
 | []=>true
 | (j,oj) :: l=>(Nat.beq j i || yE j done || !YQ done oj) && BF done i l
def Xn:List Nat->List Nat->Bool
 | [],_=>true
 | x :: l,d=>!yE x d && Xn l d
def I2 (q:Bool) (dst:Nat->Option Nat) (all:List (Nat×Oper)) (done:List Nat) (i:Nat) (o:Oper):Bool:=
 YQ done o && ((N1 o && On q dst done (gS i all []) i o all && Xn (gS i all []) done) || BF done i all)
def Q7 (q:Bool) (dst:Nat->Option Nat) (all:List (Nat×Oper)):List (Nat×Oper)->List Nat->Bool
 | [],done=>BF done all.length all
 | (i,o) :: l,done=>!yE i done && I2 q dst all done i o && Q7 q dst all l (i :: done)
def GF:List (Nat×Oper)->Bool
 | []=>true
 | (_,o) :: l=>(match o.op with
  | .select _ _=>false
  | _=>true) && GF l
def K5 (q:Bool) (dst:Nat->Option Nat) (all:List (Nat×Oper)) (done:List Nat):List (Nat×Oper)->Option (Nat×Oper)
 | []=>none
 | (i,o) :: l=>cond (!yE i done && I2 q dst all done i o) (some (i,o)) (K5 q dst all done l)
def YV (q:Bool) (dst:Nat->Option Nat) (all:List (Nat×Oper)):Nat->List Nat->List (Nat×Oper)
 | 0,_=>[]
 | n+1,done=>match K5 q dst all done all with
  | some (i,o)=>(i,o) :: YV q dst all n (i :: done)
  | none=>[]
def OE (q:Bool) (c:Ctx) (ops:List Oper) (l:List (Nat×Oper)) (J:St) (k:St->Option R):Option R:=
 ZJ c J.next (po ops) q (ops.length+ops.length+2) R [] [] l J fun J'=>k { J' with next:=J.next+8*ops.length }
def DF (q:Bool) (ops:List Oper):List (Nat×Oper):=YV q (po ops) (za 0 ops) ops.length []
def P5 (q:Bool) (ops:List Oper):Bool:=GF (za 0 ops) && Q7 q (po ops) (za 0 ops) (DF q ops) []
def gM (done:List Nat):List (Nat×Oper)->List (Nat×Oper)
 | []=>[]
 | (i,o) :: l=>cond (!yE i done && YQ done o) ((i,o) :: gM done l) (gM done l)
def HW (c:Ctx) (dst:Nat->Option Nat) (b0:Nat) (o:Oper) (opened py:List Nat) (J:St) (kk:List Nat->List Nat->St->Option R):Option R:=
 match o.guard with
 | none=>Tj true c J b0 o fun J=>kk opened (QI o.dst py) J
 | some (j,want)=>match dst j with
  | none=>none
  | some t=>match J.zk t with
   | some (.data .bool b)=>
    cond (yE j opened)
     (cond (b == want) (Tj true c J b0 o fun J=>kk opened (QI o.dst py) J) (kk opened (Fi o.dst py) (J.kB o.dst)))
     (cond b
      (cond want (Tj true c (J.set t (.data .bool true)) b0 o fun J=>kk (j :: opened) (QI o.dst py) J) (kk (j :: opened) (Fi o.dst py) ((J.set t (.data .bool true)).kB o.dst)))
      (cond want (kk (j :: opened) (Fi o.dst py) ((J.set t (.data .bool false)).kB o.dst)) (Tj true c (J.set t (.data .bool false)) b0 o fun J=>kk (j :: opened) (QI o.dst py) J)))
   | none=>cond (yE t py) (kk opened (Fi o.dst py) (J.kB o.dst)) none
   | _=>none
def NS (c:Ctx) (base:Nat) (dst:Nat->Option Nat) (all:List (Nat×Oper)):Nat->List Nat->(opened py:List Nat)->St->(St->Option R)->Option R
 | 0,_,_,_,_,_=>none
 | n+1,done,opened,py,J,k=>match K5 true dst all done all with
  | some (i,o)=>HW c dst (base+8*i) o opened py J fun opened py J=>NS c base dst all n (i :: done) opened py J k
  | none=>match gM done all with
   | []=>k J
   | x :: l=>qQ ((x :: l).map fun x=>HW c dst (base+8*x.1) x.2 opened py J fun opened py J=>NS c base dst all n (x.1 :: done) opened py J k)
def EK (c:Ctx) (ops:Array Oper) (draw:Bool) (J:St) (k:St->Option R):Option R:=
 cond draw (cond (P5 true ops.toList) (OE true c ops.toList (DF true ops.toList) J k)
   (cond (P5 false ops.toList && !F1 c J (za 0 ops.toList)) (OE false c ops.toList (DF false ops.toList) J k)
   (cond (GF (za 0 ops.toList)) (NS c J.next (po ops.toList) (za 0 ops.toList) (ops.toList.length+1) [] [] [] J fun J'=>k { J' with next:=J.next+8*ops.toList.length }) none)))
  (OE true c ops.toList (za 0 ops.toList) J k)
def yH:Code->Option Nat
 | .region id _ _=>some id
 | .seq a b=>(yH a).orElse fun _=>yH b
 | .block _ b=>yH b
 | .loop b=>yH b
 | .cond _ a b=>(yH a).orElse fun _=>yH b
 | _=>none
def YE (step:St->(vQ->St->Option R)->Option R) (lv:Cut):Nat->List (Nat×z7)->List Obj->(vQ->St->Option R)->Option R
 | 0,_,_,_=>none
 | n+1,sl,os,k=>step (St.of sl os) fun e J=>match e with
  | .normal=>PV lv J fun sl os=>YE step lv n sl os k
  | e=>k e J
def YN (c:Ctx) (r:Nat) (k:vQ->St->Option R):vQ->St->Option R
 | .exit id,J=>match c.z6o r id with
  | some lv=>norm lv J (k (.exit id))
  | none=>none
 | .ret,J=>norm c.res J (k .ret)
 | .normal,_=>none
def zc7 (next:St->(vQ->St->Option R)->Option R) (k:vQ->St->Option R):vQ->St->Option R
 | .normal,J=>next J k
 | e,J=>k e J
def z3w (id:Nat) (k:vQ->St->Option R):vQ->St->Option R
 | .exit j,J=>cond (Nat.beq j id) (k .normal J) (k (.exit j) J)
 | e,J=>k e J
def zc9 (cut:Option Cut) (next:St->(vQ->St->Option R)->Option R) (J:St) (k:vQ->St->Option R):Option R:=
 match cut with
 | some lv=>norm lv J fun J=>next J k
 | none=>next J k
def cutAt (c:Ctx) (b:Code):Option Cut:=match b with
 | .loop _=>none
 | b=>(yH b).bind c.cut
def jm (c:Ctx):Code->St->(vQ->St->Option R)->Option R
 | .skip,J,k=>k .normal J
 | .region _ ops draw,J,k=>EK c ops draw J (k .normal)
 | .seq a b,J,k=>jm c a J (zc7 (zc9 (cutAt c b) (jm c b)) k)
 | .cond x a b,J,k=>match ev J x with
  | some (.data .bool t)=>cond t (jm c a J k) (jm c b J k)
  | _=>none
 | .block id b,J,k=>jm c b J (z3w id k)
 | .loop b,J,k=>match yH b with
  | some r=>match c.cut r with
   | some lv=>match c.lp r with
    | some L=>PV lv J fun sl os=>L R sl os k
    | none=>none
   | none=>none
  | none=>none
 | .exit id,J,k=>k (.exit id) J
 | .ret,J,k=>k .ret J
 | _,_,_=>none
def yA:Code->List Code
 | .seq a b=>yA a++yA b
 | .cond _ a b=>yA a++yA b
 | .block _ b=>yA b
 | .loop b=>b :: yA b
 | _=>[]
def QA (c:Ctx) (b:Code):Prop:=∀ r lv L,yH b=some r->c.cut r=some lv->c.lp r=some L->
 ∀ (R:Type) (sl:List (Nat×z7)) (os:List Obj) (k:vQ->St->Option R) (x:R),L R sl os k=some x->YE (jm c b) lv c.fuel sl os (YN c r k)=some x
def xz (r:Nat):List Code->Code
 | []=>.skip
 | b :: l=>match yH b with
  | some r'=>cond (Nat.beq r r') b (xz r l)
  | none=>xz r l
def rvK (tt:Nat->Option Ty) (J:St):ResultVar->(z7->Option R)->Option R
 | .tmp s,k=>match J.zk s with
  | some a=>k a
  | none=>none
 | .cell s T,k=>match J.zk s,tt T with
  | some x,some u=>Dw J x fun a=>cond (u.sk.same a.sk) (k a) none
  | _,_=>none
def Wn (tt:Nat->Option Ty) (J:St):(ts:List Ty)->List ResultVar->(jw ts->St->Option R)->Option R
 | [],[],k=>k () J
 | [t],[s],k=>rvK tt J s fun a=>cond (a.val && a.sk.same t.sk) (j6 20 a t J k) none
 | t :: u :: ts,s :: l,k=>rvK tt J s fun a=>cond (a.val && a.sk.same t.sk) (j6 20 a t J fun d J=>Wn tt J (u :: ts) l fun ds J=>k (d,ds) J) none
 | _,_,_=>none
def j3:(p:gx)->p.den->Nat->Nat->Option z7
 | .pr (.val t) q,(x,y),i=>GJ (j3 q y (i+1)) i (some (.data t x))
 | _,_,_=>fun _=>none
def entry (p:gx) (d:p.den):St:=⟨j3 p d 0,fun _=>none,0⟩
def z7f (c:Ctx) (ts:List Ty) (rs:List ResultVar) (body:Code) (J:St):Option (jw ts):=
 jm c body J fun e J=>match e with
  | .exit _=>none
  | _=>norm c.res J fun J=>Wn c.tt J ts rs fun r _=>some r
def z7e (c:Ctx) (zm:vp) (body:Code) (J:St):Option zm.den:=
 jm c body J fun e J=>match e with
  | .exit _=>none
  | _=>PV c.res J fun sl os=>zm.take sl os some
end
end Go.Kz
namespace Go.Kz
inductive Tag where
 | zt | ro | row (id:Nat) (p:Path) | box (id:Nat)
structure z8 where
 tag:Nat->Tag
 sv:Nat->Path->Value
 qj:Nat->Nat
abbrev Dr:=Option (Nat×Path)
def stp (o:Dr) (s:Step):Dr:=o.map fun x=>(x.1,x.2++[s])
def qS (l:List Value) (off n:Nat):List Value:=(l.drop off).take n
def Vj (F:(k:Nat)->Rec k->List Value->Prop) (w:World) (g:z8):(t:Ty)->t.den->List Value->Prop
 | .int k,n,cs=>cs=[.int k n]/\k.min<=n/\n<=k.max
 | .bool,b,cs=>cs=[.bool b]
 | .str,l,cs=>∃ s:ByteArray,cs=[.string s]/\s.data.toList=l/\s.size<=maxLen
 | .unit,_,cs=>cs=[]
 | .pair a b,(x,y),cs=>∃ c1 c2,cs=c1++c2/\Vj F w g a x c1/\Vj F w g b y c2
 | .arr n t,l,cs=>List.length l=n/\cs.length=n*t.size/\
   ∀ (i:Nat) (h:i < List.length l),Vj F w g t (List.get l ⟨i,h⟩) (qS cs (i*t.size) t.size)
 | .sl false t,l,cs=>∃ a cap,cs=[.slice a (List.length l) cap]/\List.length l<=cap/\cap<=maxLen/\
   (l≠[]->∃ b off c e fz,a=some ⟨b,off,none⟩/\g.tag b = .ro/\w.heap[b]? = some (.cells c e fz)/\off+List.length l*t.size<=c.size/\
    ∀ (i:Nat) (h:i < List.length l),Vj F w g t (List.get l ⟨i,h⟩) (qS c.toList (off+i*t.size) t.size))
 | .tree k,x,cs=>F k x cs
 | _,_,_=>False
def gU (w:World) (g:z8):Nat->(k:Nat)->Rec k->List Value->Prop
 | 0=>fun _ _ _=>False
 | n+1=>fun k x cs=>Vj (gU w g n) w g (.pair (uF k) (uE k)) (vz k x) cs
def zH (w:World) (g:z8):Dr->(t:Ty)->t.den->List Value->Prop
 | _,.int k,n,cs=>cs=[.int k n]/\k.min<=n/\n<=k.max
 | _,.bool,b,cs=>cs=[.bool b]
 | _,.str,l,cs=>∃ s:ByteArray,cs=[.string s]/\s.data.toList=l/\s.size<=maxLen
 | _,.unit,_,cs=>cs=[]
 | o,.pair a b,(x,y),cs=>∃ c1 c2,cs=c1++c2/\zH w g (stp o .fst) a x c1/\zH w g (stp o .snd) b y c2
 | o,.arr n t,l,cs=>List.length l=n/\cs.length=n*t.size/\
   ∀ (i:Nat) (h:i < List.length l),zH w g (stp o (.idx i)) t (List.get l ⟨i,h⟩) (qS cs (i*t.size) t.size)
 | _,.sl false t,l,cs=>∃ a cap,cs=[.slice a (List.length l) cap]/\List.length l<=cap/\cap<=maxLen/\
   (l≠[]->∃ b off c e fz,a=some ⟨b,off,none⟩/\g.tag b = .ro/\w.heap[b]? = some (.cells c e fz)/\off+List.length l*t.size<=c.size/\
    ∀ (i:Nat) (h:i < List.length l),zH w g none t (List.get l ⟨i,h⟩) (qS c.toList (off+i*t.size) t.size))
 | some (id,p),.sl true t,l,cs=>∃ a cap,cs=[.slice a (List.length l) cap]/\g.sv id p = .slice a (List.length l) cap/\List.length l<=cap/\cap<=maxLen/\
   ((a=none/\l=[]/\cap=0)\/∃ b off c e,a=some ⟨b,off,none⟩/\g.tag b = .row id p/\w.heap[b]? = some (.cells c e (0,0))/\off+cap*t.size<=c.size/\
    ∀ (i:Nat) (h:i < List.length l),zH w g (some (id,p++[.idx i])) t (List.get l ⟨i,h⟩) (qS c.toList (off+i*t.size) t.size))
 | none,.sl true _,_,_=>False
 | _,.ptr t,d,cs=>∃ b off c e fz,cs=[.pointer (some ⟨b,off,none⟩)]/\g.tag b = .ro/\w.heap[b]? = some (.cells c e fz)/\off+t.size<=c.size/\
   zH w g none t d (qS c.toList off t.size)
 | _,.fn f t,d,cs=>∃ vs,cs=[.func (.func f) #[] vs.toArray]/\zH w g none t d vs
 | _,.tree k,x,cs=>∃ n,gU w g n k x cs
theorem yW {l:List Value} {off n:Nat} (h:off+n<=l.length):(qS l off n).length=n:=by
 simp only [qS,P9,Hw];omega
theorem Vj.len {F:(k:Nat)->Rec k->List Value->Prop} {w:World} {g:z8} (hF:∀ k x cs,F k x cs->cs.length=Cr k):{t:Ty}->{d:t.den}->{cs:List Value}->Vj F w g t d cs->cs.length=t.size
 | .int _,_,_,h=>by obtain ⟨rfl,_⟩:=h;rfl
 | .bool,_,_,h=>by cases h;rfl
 | .str,_,_,h=>by obtain ⟨s,rfl,_⟩:=h;rfl
 | .unit,_,_,h=>by cases h;rfl
 | .pair a b,(x,y),_,h=>by
  obtain ⟨c1,c2,rfl,h1,h2⟩:=h
  simp only [VH,Ty.size,Vj.len hF h1,Vj.len hF h2]
 | .arr n t,_,_,h=>h.2.1
 | .sl false t,_,_,h=>by obtain ⟨a,cap,rfl,_⟩:=h;rfl
 | .tree k,_,_,h=>hF _ _ _ h
theorem gU.len {w:World} {g:z8}:{n k:Nat}->{x:Rec k}->{cs:List Value}->gU w g n k x cs->cs.length=Cr k
 | n+1,k,_,_,h=>(Vj.len (fun _ _ _ h=>gU.len h) h).trans (XF k).symm
theorem zH.len {w:World} {g:z8}:{o:Dr}->{t:Ty}->{d:t.den}->{cs:List Value}->zH w g o t d cs->cs.length=t.size
 | _,.int _,_,_,h=>by obtain ⟨rfl,_⟩:=h;rfl
 | _,.bool,_,_,h=>by cases h;rfl
 | _,.str,_,_,h=>by obtain ⟨s,rfl,_⟩:=h;rfl
 | _,.unit,_,_,h=>by cases h;rfl
 | _,.pair a b,(x,y),_,h=>by
  obtain ⟨c1,c2,rfl,h1,h2⟩:=h
  simp only [VH,Ty.size,zH.len h1,zH.len h2]
 | _,.arr n t,_,_,h=>h.2.1
 | _,.sl false t,_,_,h=>by obtain ⟨a,cap,rfl,_⟩:=h;rfl
 | some (_,_),.sl true t,_,_,h=>by obtain ⟨a,cap,rfl,_⟩:=h;rfl
 | none,.sl true t,_,_,h=>h.elim
 | _,.ptr t,_,_,h=>by obtain ⟨b,off,c,e,fz,rfl,_⟩:=h;rfl
 | _,.fn f t,_,_,h=>by obtain ⟨vs,rfl,_⟩:=h;rfl
 | _,.tree k,_,_,h=>by obtain ⟨n,h⟩:=h;exact h.len
structure zT (w:World) (g:z8) (w':World) (g':z8):Prop where
 qj:∀ b,g.tag b = .ro->g'.tag b = .ro/\w'.heap[b]? = w.heap[b]?
structure xl (w:World) (g:z8) (w':World) (g':z8) (id:Nat) (p:Path) (vY:Nat) (p':Path):Prop where
 sv:∀ q,g'.sv vY (p'++q)=g.sv id (p++q)
 qj:∀ q b,g.tag b = .row id (p++q)->g'.tag b = .row vY (p'++q)/\w'.heap[b]? = w.heap[b]?
def Py (w:World) (g:z8) (w':World) (g':z8):Dr->Dr->Prop
 | some (id,p),some (vY,p')=>xl w g w' g' id p vY p'
 | none,none=>True
 | _,_=>False
theorem xl.step {w w':World} {g g':z8} {id vY:Nat} {p p':Path} (h:xl w g w' g' id p vY p') (s:Step) :
  xl w g w' g' id (p++[s]) vY (p'++[s]):=by
 refine ⟨fun q=>?_,fun q b hb=>?_⟩
 ·have:=h.sv ([s]++q);simpa using this
 ·have:=h.qj ([s]++q) b (by simpa using hb);simpa using this
theorem Py.step {w w':World} {g g':z8}:{o o':Dr}->(h:Py w g w' g' o o')->(s:Step)->Py w g w' g' (stp o s) (stp o' s)
 | some _,some _,h,s=>xl.step h s
 | none,none,_,_=>trivial
 | some _,none,h,_=>h.elim
 | none,some _,h,_=>h.elim
theorem Vj.move {F F':(k:Nat)->Rec k->List Value->Prop} {w w':World} {g g':z8} (hr:zT w g w' g') (hF:∀ k x cs,F k x cs->F' k x cs):{t:Ty}->{d:t.den}->{cs:List Value}->Vj F w g t d cs->Vj F' w' g' t d cs
 | .int _,_,_,h=>h
 | .bool,_,_,h=>h
 | .str,_,_,h=>h
 | .unit,_,_,h=>h
 | .pair a b,(x,y),_,h=>by
  obtain ⟨c1,c2,rfl,h1,h2⟩:=h
  exact ⟨c1,c2,rfl,Vj.move hr hF h1,Vj.move hr hF h2⟩
 | .arr n t,_,_,h=>⟨h.1,h.2.1,fun i hi=>Vj.move hr hF (h.2.2 i hi)⟩
 | .sl false t,l,_,h=>by
  obtain ⟨a,cap,rfl,h1,h2,h3⟩:=h;refine ⟨a,cap,rfl,h1,h2,fun hn=>?_⟩;obtain ⟨b,off,c,e,fz,ha,ht,hb,hs,he⟩:=h3 hn;have hk:=hr.qj b ht
  exact ⟨b,off,c,e,fz,ha,hk.1,hk.2.trans hb,hs,fun i hi=>Vj.move hr hF (he i hi)⟩
 | .tree k,_,_,h=>hF _ _ _ h
theorem gU.move {w w':World} {g g':z8} (hr:zT w g w' g'):{n k:Nat}->{x:Rec k}->{cs:List Value}->gU w g n k x cs->gU w' g' n k x cs
 | n+1,_,_,_,h=>Vj.move hr (fun _ _ _ h=>gU.move hr h) h
theorem zT.rfl {w:World} {g:z8}:zT w g w g:=⟨fun _ h=>⟨h,_root_.rfl⟩⟩
theorem gU.mono {w:World} {g:z8}:{n m k:Nat}->{x:Rec k}->{cs:List Value}->n<=m->gU w g n k x cs->gU w g m k x cs
 | n+1,m+1,_,_,_,Zl,h=>Vj.move .rfl (fun _ _ _ h=>gU.mono (by omega) h) h
theorem zH.move {w w':World} {g g':z8} (hr:zT w g w' g'):{o o':Dr}->{t:Ty}->{d:t.den}->{cs:List Value}->
  (hm:Py w g w' g' o o')->zH w g o t d cs->zH w' g' o' t d cs
 | _,_,.int _,_,_,_,h=>h
 | _,_,.bool,_,_,_,h=>h
 | _,_,.str,_,_,_,h=>h
 | _,_,.unit,_,_,_,h=>h
 | _,_,.pair a b,(x,y),_,hm,h=>by
  obtain ⟨c1,c2,rfl,h1,h2⟩:=h
  exact ⟨c1,c2,rfl,zH.move hr (hm.step _) h1,zH.move hr (hm.step _) h2⟩
 | _,_,.arr n t,_,_,hm,h=>⟨h.1,h.2.1,fun i hi=>zH.move hr (hm.step _) (h.2.2 i hi)⟩
 | _,_,.sl false t,l,_,_,h=>by
  obtain ⟨a,cap,rfl,h1,h2,h3⟩:=h;refine ⟨a,cap,rfl,h1,h2,fun hn=>?_⟩;obtain ⟨b,off,c,e,fz,ha,ht,hb,hs,he⟩:=h3 hn;have hk:=hr.qj b ht
  exact ⟨b,off,c,e,fz,ha,hk.1,hk.2.trans hb,hs,fun i hi=>zH.move hr (o:=none) (o':=none) trivial (he i hi)⟩
 | some (id,p),some (vY,p'),.sl true t,l,_,hm,h=>by
  obtain ⟨a,cap,rfl,h0,h1,h2,h3⟩:=h;have AK:xl w g w' g' id p vY p':=hm;refine ⟨a,cap,rfl,?_,h1,h2,?_⟩
  ·have:=AK.sv [];simp only [Di] at this;rw [this];exact h0
  ·rcases h3 with h3 | ⟨b,off,c,e,ha,ht,hb,hs,he⟩
   ·exact .inl h3
   ·have hk:=AK.qj [] b (by simpa using ht);simp only [Di] at hk
    exact .inr ⟨b,off,c,e,ha,hk.1,hk.2.trans hb,hs,fun i hi=>zH.move hr (o:=some (id,p++[Step.idx (i:Int)])) (o':=some (vY,p'++[Step.idx (i:Int)])) (AK.step _) (he i hi)⟩
 | some _,none,.sl true _,_,_,hm,_=>hm.elim
 | none,_,.sl true _,_,_,_,h=>h.elim
 | _,_,.ptr t,_,_,_,h=>by
  obtain ⟨b,off,c,e,fz,rfl,ht,hb,hs,he⟩:=h;have hk:=hr.qj b ht
  exact ⟨b,off,c,e,fz,rfl,hk.1,hk.2.trans hb,hs,zH.move hr (o:=none) (o':=none) trivial he⟩
 | _,_,.fn f t,_,_,_,h=>by
  obtain ⟨vs,rfl,he⟩:=h
  exact ⟨vs,rfl,zH.move hr (o:=none) (o':=none) trivial he⟩
 | _,_,.tree k,_,_,_,h=>by obtain ⟨n,h⟩:=h;exact ⟨n,h.move hr⟩
theorem zH.kept {w w':World} {g g':z8} (hr:zT w g w' g') {t:Ty} {d:t.den} {cs:List Value} (h:zH w g none t d cs):zH w' g' none t d cs:=
 zH.move hr (o:=none) (o':=none) trivial h
structure QC (w:World) (g:z8) (w':World) (g':z8) (id:Nat) (p:Path):Prop where
 qj:∀ q b,g.tag b = .row id (p++q)->g'.tag b = .ro/\w'.heap[b]? = w.heap[b]?
def X3 (w:World) (g:z8) (w':World) (g':z8):Dr->Prop
 | some (id,p)=>QC w g w' g' id p
 | none=>True
theorem QC.step {w w':World} {g g':z8} {id:Nat} {p:Path} (h:QC w g w' g' id p) (s:Step):QC w g w' g' id (p++[s]):=
 ⟨fun q b hb=>h.qj ([s]++q) b (by simpa using hb)⟩
theorem X3.step {w w':World} {g g':z8}:{o:Dr}->(h:X3 w g w' g' o)->(s:Step)->X3 w g w' g' (stp o s)
 | some _,h,s=>QC.step h s
 | none,_,_=>trivial
theorem Ty.qM:(t:Ty)->t.ro.size=t.size
 | .int _=>rfl
 | .bool=>rfl
 | .str=>rfl
 | .unit=>rfl
 | .pair a b=>by simp only [Ty.ro,Ty.size,Ty.qM a,Ty.qM b]
 | .arr n t=>by simp only [Ty.ro,Ty.size,Ty.qM t]
 | .sl _ t=>rfl
 | .ptr _=>rfl
 | .fn _ _=>rfl
 | .tree _=>rfl
theorem Sa (a b:Ty) (x:a.den) (y:b.den):Ty.kR (.pair a b) (x,y)=(Ty.kR a x,Ty.kR b y):=by
 have ha:=Ty.pW a;have hb:=Ty.pW b;unfold Ty.kR;have key:∀ (A A' B B':Type) (h1:A'=A) (h2:B'=B) (h3:(A'×B')=(A×B)) (x:A) (y:B),cast h3.symm (x,y)=(cast h1.symm x,cast h2.symm y):=by
  intro A A' B B' h1 h2 h3 x y;subst h1;subst h2;rfl
 exact key _ _ _ _ ha hb (Ty.pW (.pair a b)) x y
theorem CE (t:Ty) (l:List t.den) (h:List t.ro.den=List t.den):cast h.symm l=l.map (Ty.kR t):=by
 unfold Ty.kR;have key:∀ (A A':Type) (h1:A'=A) (h3:List A'=List A) (l:List A),cast h3.symm l=l.map (cast h1.symm):=by
  intro A A' h1 h3 l;subst h1;exact (List.map_id l).symm
 exact key _ _ (Ty.pW t) h l
theorem WS (o:Bool) (t:Ty) (l:List t.den):Ty.kR (.sl o t) l=(l.map (Ty.kR t):List t.ro.den):=CE t l (Ty.pW (.sl o t))
theorem z10 (n:Nat) (t:Ty) (l:List t.den):Ty.kR (.arr n t) l=(l.map (Ty.kR t):List t.ro.den):=CE t l (Ty.pW (.arr n t))
theorem z0z (t:Ty) (d:t.den):Ty.kR (.ptr t) d=Ty.kR t d:=rfl
theorem zaz (f:Nat) (t:Ty) (d:t.den):Ty.kR (.fn f t) d=Ty.kR t d:=rfl
theorem zH.freeze {w w':World} {g g':z8} (hr:zT w g w' g'):{o:Dr}->{t:Ty}->{d:t.den}->{cs:List Value}->
  (hm:X3 w g w' g' o)->zH w g o t d cs->zH w' g' none t.ro (Ty.kR t d) cs
 | _,.int _,_,_,_,h=>h
 | _,.bool,_,_,_,h=>h
 | _,.str,_,_,_,h=>h
 | _,.unit,_,_,_,h=>h
 | _,.pair a b,(x,y),_,hm,h=>by
  obtain ⟨c1,c2,rfl,h1,h2⟩:=h;rw [Sa]
  exact ⟨c1,c2,rfl,zH.freeze hr (hm.step _) h1,zH.freeze hr (hm.step _) h2⟩
 | _,.arr n t,l,_,hm,h=>by
  rw [z10];refine ⟨by simpa using h.1,by rw [Ty.qM];exact h.2.1,fun i hi=>?_⟩;have wT:i < List.length l:=by simpa using hi
  have:=zH.freeze hr (hm.step _) (h.2.2 i wT);simp only [LN,Z29,Ty.qM] at this ⊢
  exact this
 | _,.sl false t,l,_,_,h=>by
  obtain ⟨a,cap,rfl,h1,h2,h3⟩:=h;rw [WS];refine ⟨a,cap,by simp,by simpa using h1,h2,fun hn=>?_⟩;obtain ⟨b,off,c,e,fz,ha,ht,hb,hs,he⟩:=h3 (by intro h;exact hn (by rw [h];rfl));have hk:=hr.qj b ht;refine ⟨b,off,c,e,fz,ha,hk.1,hk.2.trans hb,by simpa [Ty.qM] using hs,fun i hi=>?_⟩;have wT:i < List.length l:=by simpa using hi
  have:=zH.freeze hr (o:=none) trivial (he i wT);simp only [LN,Z29,Ty.qM] at this ⊢
  exact this
 | some (id,p),.sl true t,l,_,hm,h=>by
  obtain ⟨a,cap,rfl,h0,h1,h2,h3⟩:=h;have AK:QC w g w' g' id p:=hm;rw [WS];refine ⟨a,cap,by simp,by simpa using h1,h2,fun hn=>?_⟩;have TX:l≠[]:=by intro h;exact hn (by rw [h];rfl)
  rcases h3 with h3 | ⟨b,off,c,e,ha,ht,hb,hs,he⟩
  ·exact absurd h3.2.1 TX
  ·have hk:=AK.qj [] b (by simpa using ht);refine ⟨b,off,c,e,(0,0),ha,hk.1,hk.2.trans hb,?_,fun i hi=>?_⟩
   ·have:List.length l*t.size<=cap*t.size:=kn _ h1;simp only [Gy,Ty.qM];omega
   ·have wT:i < List.length l:=by simpa using hi
    have:=zH.freeze hr (o:=some (id,p++[Step.idx (i:Int)])) (AK.step _) (he i wT);simp only [LN,Z29,Ty.qM] at this ⊢
    exact this
 | none,.sl true _,_,_,_,h=>h.elim
 | _,.ptr t,_,_,_,h=>by
  obtain ⟨b,off,c,e,fz,rfl,ht,hb,hs,he⟩:=h;have hk:=hr.qj b ht;rw [z0z];refine ⟨b,off,c,e,fz,rfl,hk.1,hk.2.trans hb,by rw [Ty.qM];exact hs,?_⟩;rw [Ty.qM]
  exact zH.freeze hr (o:=none) trivial he
 | _,.fn f t,_,_,_,h=>by
  obtain ⟨vs,rfl,he⟩:=h;rw [zaz]
  exact ⟨vs,rfl,zH.freeze hr (o:=none) trivial he⟩
 | _,.tree k,x,_,_,h=>by obtain ⟨n,h⟩:=h;exact ⟨n,h.move hr⟩
def Ty.plain:Ty->Bool
 | .int _ | .bool | .str | .unit=>true
 | .pair a b=>a.plain && b.plain
 | .arr _ t=>t.plain
 | .sl false t=>t.plain
 | .tree _=>true
 | _=>false
theorem Ty.ZY:{t:Ty}->t.plain=true->t.zW=true
 | .int _,_=>rfl
 | .bool,_=>rfl
 | .str,_=>rfl
 | .unit,_=>rfl
 | .pair a b,h=>by simp only [Ty.plain,zA] at h;simp [Ty.zW,Ty.ZY h.1,Ty.ZY h.2]
 | .arr _ t,h=>by simp only [Ty.plain] at h;simp only [Ty.zW];exact Ty.ZY h
 | .sl false t,h=>by simp only [Ty.plain] at h;simp only [Ty.zW];simpa using Ty.ZY h
 | .sl true _,h=>by simp [Ty.plain] at h
 | .ptr _,h=>by simp [Ty.plain] at h
 | .fn _ _,h=>by simp [Ty.plain] at h
 | .tree _,_=>rfl
theorem Co:(k:Nat)->(Ty.pair (uF k) (uE k)).plain=true
 | 0=>rfl
 | 1=>rfl
 | _+2=>rfl
theorem zH.I3 {w:World} {g:z8} {n:Nat}:{t:Ty}->{d:t.den}->{cs:List Value}->Vj (gU w g n) w g t d cs->zH w g none t d cs
 | .int _,_,_,h=>h
 | .bool,_,_,h=>h
 | .str,_,_,h=>h
 | .unit,_,_,h=>h
 | .pair a b,(x,y),_,h=>by
  obtain ⟨c1,c2,rfl,h1,h2⟩:=h
  exact ⟨c1,c2,rfl,zH.I3 h1,zH.I3 h2⟩
 | .arr n t,_,_,h=>⟨h.1,h.2.1,fun i hi=>zH.I3 (h.2.2 i hi)⟩
 | .sl false t,l,_,h=>by
  obtain ⟨a,cap,rfl,h1,h2,h3⟩:=h;refine ⟨a,cap,rfl,h1,h2,fun hn=>?_⟩;obtain ⟨b,off,c,e,fz,ha,ht,hb,hs,he⟩:=h3 hn
  exact ⟨b,off,c,e,fz,ha,ht,hb,hs,fun i hi=>zH.I3 (he i hi)⟩
 | .tree k,_,_,h=>⟨n,h⟩
theorem P6 {p:Nat->Nat->Prop} (hp:∀ n m i,n<=m->p n i->p m i):(l:Nat)->(∀ i,i < l->∃ n,p n i)->∃ n,∀ i,i < l->p n i
 | 0,_=>⟨0,fun i hi=>by omega⟩
 | l+1,h=>by
  obtain ⟨n,hn⟩:=P6 hp l fun i hi=>h i (by omega)
  obtain ⟨m,hm⟩:=h l (by omega);refine ⟨max n m,fun i hi=>?_⟩;by_cases he:i=l
  ·subst he;exact hp _ _ _ (by omega) hm
  ·exact hp _ _ _ (by omega) (hn i (by omega))
theorem zH.HJ {w:World} {g:z8}:{t:Ty}->{d:t.den}->{cs:List Value}->t.plain=true->zH w g none t d cs->∃ n,Vj (gU w g n) w g t d cs
 | .int _,_,_,_,h=>⟨0,h⟩
 | .bool,_,_,_,h=>⟨0,h⟩
 | .str,_,_,_,h=>⟨0,h⟩
 | .unit,_,_,_,h=>⟨0,h⟩
 | .pair a b,(x,y),_,hp,h=>by
  simp only [Ty.plain,zA] at hp;obtain ⟨c1,c2,rfl,h1,h2⟩:=h;obtain ⟨n,h1⟩:=zH.HJ hp.1 h1;obtain ⟨m,h2⟩:=zH.HJ hp.2 h2
  exact ⟨max n m,c1,c2,rfl,Vj.move .rfl (fun _ _ _ h=>h.mono (by omega)) h1,Vj.move .rfl (fun _ _ _ h=>h.mono (by omega)) h2⟩
 | .arr k t,l,cs,hp,h=>by
  obtain ⟨n,hn⟩:=P6 (p:=fun n i=>∀ hi:i < List.length l,Vj (gU w g n) w g t (List.get l ⟨i,hi⟩) (qS cs (i*t.size) t.size))
   (fun n m i Zl h hi=>Vj.move .rfl (fun _ _ _ h=>h.mono Zl) (h hi)) (List.length l) fun i hi=>by
    obtain ⟨n,hn⟩:=zH.HJ (by simpa [Ty.plain] using hp) (h.2.2 i hi);exact ⟨n,fun _=>hn⟩
  exact ⟨n,h.1,h.2.1,fun i hi=>hn i hi hi⟩
 | .sl false t,l,cs,hp,h=>by
  obtain ⟨a,cap,rfl,h1,h2,h3⟩:=h;by_cases hl:l=[]
  ·exact ⟨0,a,cap,rfl,h1,h2,fun hn=>absurd hl hn⟩
  obtain ⟨b,off,c,e,fz,ha,ht,hb,hs,he⟩:=h3 hl;obtain ⟨n,hn⟩:=P6 (p:=fun n i=>∀ hi:i < List.length l,Vj (gU w g n) w g t (List.get l ⟨i,hi⟩) (qS c.toList (off+i*t.size) t.size))
   (fun n m i Zl h hi=>Vj.move .rfl (fun _ _ _ h=>h.mono Zl) (h hi)) (List.length l) fun i hi=>by
    obtain ⟨n,hn⟩:=zH.HJ (by simpa [Ty.plain] using hp) (he i hi);exact ⟨n,fun _=>hn⟩
  exact ⟨n,a,cap,rfl,h1,h2,fun _=>⟨b,off,c,e,fz,ha,ht,hb,hs,fun i hi=>hn i hi hi⟩⟩
 | .tree k,_,_,_,h=>h
 | .sl true _,_,_,hp,_=>by simp [Ty.plain] at hp
 | .ptr _,_,_,hp,_=>by simp [Ty.plain] at hp
 | .fn _ _,_,_,hp,_=>by simp [Ty.plain] at hp
theorem zH.WO {w:World} {g:z8} {o:Dr} {k:Nat} {x:Rec k} {cs:List Value}:zH w g o (.tree k) x cs↔zH w g none (.pair (uF k) (uE k)) (vz k x) cs:=by
 refine ⟨fun h=>?_,fun h=>?_⟩
 ·obtain ⟨n,h⟩:=h
  cases n with
  | zero=>exact h.elim
  | succ n=>exact zH.I3 h
 ·obtain ⟨n,h⟩:=zH.HJ (Co k) h;exact ⟨n+1,h⟩
end Go.Kz
namespace Go.Kz
def zD (l:List Value) (off:Nat) (x:List Value):List Value:=l.take off++x++l.drop (off+x.length)
theorem pP (l:List Value) (a n b m:Nat) (h:b+m<=n):qS (qS l a n) b m=qS l (a+b) m:=by
 simp only [qS,Z46,Nd,Z33];congr 1;omega
theorem kr (l:List Value):qS l 0 l.length=l:=by simp [qS]
theorem qi (a b:List Value) (off n:Nat) (h:off+n<=a.length):qS (a++b) off n=qS a off n:=by
 simp only [qS];rw [Z34 (by omega),Z3l (by simp;omega)]
theorem GP (a b:List Value) (off n:Nat):qS (a++b) (a.length+off) n=qS b off n:=by
 simp only [qS,Z3m,MZ (show a.length<=a.length+off by omega),QP];congr 2;omega
theorem yZ (a b:List Value) (k off n:Nat) (h:k=a.length):qS (a++b) (k+off) n=qS b off n:=by
 subst h;exact GP a b off n
theorem yI (l:List Value) (off:Nat) (x:List Value) (h:off+x.length<=l.length):(zD l off x).length=l.length:=by
 simp only [zD,VH,P9,Hw];omega
theorem w9 (a b:List Value) (off:Nat) (x:List Value) (h:off+x.length<=a.length):zD (a++b) off x=zD a off x++b:=by
 simp only [zD,Z3l (show off<=a.length by omega),Z34 h,Gj]
theorem vE (a b:List Value) (k off:Nat) (x:List Value) (h:k=a.length):zD (a++b) (k+off) x=a++zD b off x:=by
 subst h;simp only [zD,List.take_append,Z2n (show a.length<=a.length+off by omega),Gj];congr 1;congr 1
 ·congr 1;omega
 ·congr 1;rw [Z3m,MZ (by omega),QP];congr 1;omega
theorem uj (l:List Value) (off:Nat) (x:List Value) (h:off+x.length<=l.length):qS (zD l off x) off x.length=x:=by
 simp only [qS,zD,Gj];rw [Z34 (by simp;omega),MZ (by simp;omega),QP,List.take_left'];rfl
theorem jv (l:List Value) (off:Nat) (x:List Value) (a n:Nat) (h:a+n<=off) (hl:off<=l.length):qS (zD l off x) a n=qS l a n:=by
 simp only [zD,Gj];rw [qi _ _ _ _ (by simp;omega)];simp only [qS,Z46,Z33];congr 1;omega
theorem vM (l:List Value) (off:Nat) (x:List Value) (a n:Nat) (h:off+x.length<=a) (hl:off+x.length<=l.length):qS (zD l off x) a n=qS l a n:=by
 obtain ⟨k,rfl⟩:∃ k,a=off+x.length+k:=⟨a-(off+x.length),by omega⟩;simp only [zD];rw [yZ _ _ _ _ _ (by simp;omega)];simp only [qS,Nd]
theorem pw (l:List Value) (a n off:Nat) (x:List Value) (h:off+x.length<=n) (hl:a+n<=l.length) :
  qS (zD l (a+off) x) a n=zD (qS l a n) off x:=by
 have e:l=l.take a++(qS l a n++l.drop (a+n)):=by
  simp only [qS];rw [<-Nd,Mx,Mx]
 have hs:(qS l a n).length=n:=yW hl;have ha:(l.take a).length=a:=by simp;omega
 have e2:zD l (a+off) x=l.take a++(zD (qS l a n) off x++l.drop (a+n)):=by
  conv=>lhs;rw [e]
  rw [vE _ _ _ _ _ ha.symm,w9 _ _ _ _ (by omega)]
 rw [e2];have hsp:(zD (qS l a n) off x).length=n:=by rw [yI _ _ _ (by omega),hs]
 have:=yZ (l.take a) (zD (qS l a n) off x++l.drop (a+n)) a 0 n ha.symm;simp only [S1] at this;rw [this,qi _ _ _ _ (by omega)];have h2:=kr (zD (qS l a n) off x);rw [hsp] at h2;exact h2
def Sk.off:Sk->Path->Option (Nat×Sk)
 | s,[]=>some (0,s)
 | .pair a _,.fst :: p=>a.off p
 | .pair a b,.snd :: p=>(b.off p).map fun x=>(a.size+x.1,x.2)
 | .arr n t,.idx i :: p=>if 0<=i/\i < n then (t.off p).map fun x=>(i.toNat*t.size+x.1,x.2) else none
 | _,_=>none
theorem Ty.zQ:(t:Ty)->t.sk.size=t.size
 | .int _=>rfl
 | .bool=>rfl
 | .str=>rfl
 | .unit=>rfl
 | .pair a b=>by simp only [Ty.sk,Sk.size,Ty.size,Ty.zQ a,Ty.zQ b]
 | .arr n t=>by simp only [Ty.sk,Sk.size,Ty.size,Ty.zQ t]
 | .sl _ t=>rfl
 | .ptr _=>rfl
 | .fn _ _=>rfl
 | .tree _=>rfl
theorem Sk.qg:{a b:Sk}->a.same b=true->a=b
 | .leaf,.leaf,_=>rfl
 | .unit,.unit,_=>rfl
 | .pair a b,.pair c d,h=>by
  simp only [Sk.same,zA] at h
  rw [Sk.qg h.1,Sk.qg h.2]
 | .arr n t,.arr m u,h=>by
  simp only [Sk.same,zA] at h
  rw [zE h.1,Sk.qg h.2]
 | .leaf,.unit,h | .leaf,.pair _ _,h | .leaf,.arr _ _,h | .unit,.leaf,h | .unit,.pair _ _,h | .unit,.arr _ _,h
 | .pair _ _,.leaf,h | .pair _ _,.unit,h | .pair _ _,.arr _ _,h | .arr _ _,.leaf,h | .arr _ _,.unit,h | .arr _ _,.pair _ _,h=>by simp [Sk.same] at h
 | .tree _,.tree _,h=>by simp only [Sk.same] at h;rw [zE h]
 | .leaf,.tree _,h | .unit,.tree _,h | .pair _ _,.tree _,h | .arr _ _,.tree _,h | .tree _,.leaf,h | .tree _,.unit,h | .tree _,.pair _ _,h | .tree _,.arr _ _,h=>by simp [Sk.same] at h
theorem Sk.wi:{s:Sk}->{p:Path}->{o:Nat}->{s':Sk}->s.off p=some (o,s')->o+s'.size<=s.size
 | s,[],o,s',h=>by simp only [Sk.off,zI,gP] at h;obtain ⟨rfl,rfl⟩:=h;omega
 | .pair a b,.fst :: p,o,s',h=>by
  simp only [Sk.off] at h
  have:=Sk.wi h;simp only [Sk.size];omega
 | .pair a b,.snd :: p,o,s',h=>by
  simp only [Sk.off,wU,gP] at h;obtain ⟨x,hx,rfl,rfl⟩:=h
  have:=Sk.wi (s:=b) (p:=p) (o:=x.1) (s':=x.2) hx;simp only [Sk.size];omega
 | .arr n t,.idx i :: p,o,s',h=>by
  simp only [Sk.off] at h;split at h
  ·rename_i hi;simp only [wU,gP] at h;obtain ⟨x,hx,rfl,rfl⟩:=h;have:=Sk.wi (s:=t) (p:=p) (o:=x.1) (s':=x.2) hx;have h2:(i.toNat+1)*t.size<=n*t.size:=kn _ (by omega);simp only [Sk.size];rw [wB] at h2;omega
  ·simp at h
 | .leaf,_ :: _,_,_,h | .unit,_ :: _,_,_,h | .tree _,_ :: _,_,_,h | .pair _ _,.idx _ :: _,_,_,h | .arr _ _,.fst :: _,_,_,h | .arr _ _,.snd :: _,_,_,h=>by simp [Sk.off] at h
theorem Sk.x5:{s:Sk}->{p:Path}->{o:Nat}->{s':Sk}->(q:Path)->s.off p=some (o,s')->s.off (p++q)=(s'.off q).map fun x=>(o+x.1,x.2)
 | s,[],o,s',q,h=>by simp only [Sk.off,zI,gP] at h;obtain ⟨rfl,rfl⟩:=h;simp
 | .pair a b,.fst :: p,o,s',q,h=>by
  simp only [Sk.off,xA] at h ⊢
  exact Sk.x5 q h
 | .pair a b,.snd :: p,o,s',q,h=>by
  simp only [Sk.off,wU,gP,xA] at h ⊢;obtain ⟨x,hx,rfl,rfl⟩:=h;rw [Sk.x5 (s:=b) (p:=p) (o:=x.1) (s':=x.2) q hx,Option.map_map]
  congr 1;funext y;simp [S0]
 | .arr n t,.idx i :: p,o,s',q,h=>by
  simp only [Sk.off,xA] at h ⊢;split at h
  ·simp only [wU,gP] at h;obtain ⟨x,hx,rfl,rfl⟩:=h;rw [Sk.x5 (s:=t) (p:=p) (o:=x.1) (s':=x.2) q hx,Option.map_map];rename_i hi;rw [yQ hi];congr 1;funext y;simp [S0]
  ·simp at h
 | .leaf,_ :: _,_,_,_,h | .unit,_ :: _,_,_,_,h | .pair _ _,.idx _ :: _,_,_,_,h | .arr _ _,.fst :: _,_,_,_,h | .arr _ _,.snd :: _,_,_,_,h=>by simp [Sk.off] at h
theorem ji {I:Type} {l:List I} {i:Int} {x:I} (h:idx l i=some x):0<=i/\∃ hi:i.toNat < l.length,l.get ⟨i.toNat,hi⟩=x/\i < l.length:=by
 cases i with
 | ofNat n=>
  simp only [idx] at h;obtain ⟨hn,hx⟩:=Z47.1 h
  exact ⟨Z4t n,by simpa using hn,by simpa using hx,by show ((n:Nat):Int) < _;omega⟩
 | negSucc n=>simp [idx] at h
variable {R:Type}
theorem ZH {w:World} {g:z8}:{t:Ty}->{d:t.den}->{p:Path}->{k:(u:Ty)->u.den->Option R}->{r:R}->{cs:List Value}->
  t.zW=true->zH w g none t d cs->zb t d p k=some r->
  ∃ u e off,k u e=some r/\u.zW=true/\t.sk.off p=some (off,u.sk)/\zH w g none u e (qS cs off u.size)
 | t,d,[],k,r,cs,ht,zC,h=>by
  have hk:k t d=some r:=by cases t <;> simpa [zb] using h
  refine ⟨t,d,0,hk,ht,?_,?_⟩
  ·simp [Sk.off]
  ·rw [<-zC.len,kr];exact zC
 | .pair a b,(x,y),.fst :: p,k,r,cs,ht,zC,h=>by
  simp only [zb] at h;obtain ⟨c1,c2,rfl,h1,h2⟩:=zC;simp only [Ty.zW,zA] at ht;obtain ⟨u,e,off,hk,hu,ho,hr⟩:=ZH ht.1 h1 h;refine ⟨u,e,off,hk,hu,by simpa [Ty.sk,Sk.off] using ho,?_⟩;have:=Sk.wi ho;rw [Ty.zQ,Ty.zQ] at this
  rw [qi _ _ _ _ (by rw [h1.len];exact this)];exact hr
 | .pair a b,(x,y),.snd :: p,k,r,cs,ht,zC,h=>by
  simp only [zb] at h;obtain ⟨c1,c2,rfl,h1,h2⟩:=zC;simp only [Ty.zW,zA] at ht;obtain ⟨u,e,off,hk,hu,ho,hr⟩:=ZH ht.2 h2 h;refine ⟨u,e,a.sk.size+off,hk,hu,by simp [Ty.sk,Sk.off,ho],?_⟩
  rw [yZ _ _ _ _ _ (by rw [h1.len,Ty.zQ])];exact hr
 | .arr n t,l,.idx i :: p,k,r,cs,ht,zC,h=>by
  simp only [zb,WB] at h;obtain ⟨x,hx,h⟩:=h;obtain ⟨h0,hi,rfl,qx⟩:=ji hx;have ht':t.zW=true:=by simpa [Ty.zW] using ht
  have hl:=zC.1;have hn:i.toNat < n:=by rw [<-hl];exact hi
  obtain ⟨u,e,off,hk,hu,ho,hr⟩:=ZH ht' (zC.2.2 _ hi) h;refine ⟨u,e,i.toNat*t.sk.size+off,hk,hu,?_,?_⟩
  ·simp only [Ty.sk,Sk.off];rw [yQ ⟨h0,by omega⟩,ho];rfl
  ·have:=Sk.wi ho;rw [Ty.zQ,Ty.zQ] at this;rw [pP _ _ _ _ _ this] at hr
   rw [Ty.zQ];exact hr
 | .sl true t,l,.idx i :: p,k,r,cs,ht,zC,h=>by simp [Ty.zW] at ht
 | .sl false t,l,s :: p,k,r,cs,ht,zC,h=>by cases s <;> simp [zb] at h
 | .sl true t,l,.fst :: p,k,r,cs,ht,zC,h=>by simp [zb] at h
 | .sl true t,l,.snd :: p,k,r,cs,ht,zC,h=>by simp [zb] at h
 | .int _,_,s :: _,_,_,_,_,_,h=>by cases s <;> simp [zb] at h
 | .bool,_,s :: _,_,_,_,_,_,h=>by cases s <;> simp [zb] at h
 | .str,_,s :: _,_,_,_,_,_,h=>by cases s <;> simp [zb] at h
 | .unit,_,s :: _,_,_,_,_,_,h=>by cases s <;> simp [zb] at h
 | .ptr _,_,s :: _,_,_,_,_,_,h=>by cases s <;> simp [zb] at h
 | .fn _ _,_,s :: _,_,_,_,_,_,h=>by cases s <;> simp [zb] at h
 | .tree _,_,s :: _,_,_,_,_,_,h=>by cases s <;> simp [zb] at h
 | .pair _ _,_,.idx _ :: _,_,_,_,_,_,h=>by simp [zb] at h
 | .arr _ _,_,.fst :: _,_,_,_,_,_,h=>by simp [zb] at h
 | .arr _ _,_,.snd :: _,_,_,_,_,_,h=>by simp [zb] at h
end Go.Kz
namespace Go.Kz
variable {R:Type}
theorem zH.y9 {w:World} {g:z8}:{o o':Dr}->{t:Ty}->{d:t.den}->{cs:List Value}->t.zW=true->zH w g o t d cs->zH w g o' t d cs
 | _,_,.int _,_,_,_,h=>h
 | _,_,.bool,_,_,_,h=>h
 | _,_,.str,_,_,_,h=>h
 | _,_,.unit,_,_,_,h=>h
 | _,_,.pair a b,(x,y),_,ht,h=>by
  simp only [Ty.zW,zA] at ht;obtain ⟨c1,c2,rfl,h1,h2⟩:=h
  exact ⟨c1,c2,rfl,zH.y9 ht.1 h1,zH.y9 ht.2 h2⟩
 | _,_,.arr n t,_,_,ht,h=>⟨h.1,h.2.1,fun i hi=>zH.y9 (by simpa [Ty.zW] using ht) (h.2.2 i hi)⟩
 | _,_,.sl false t,_,_,_,h=>h
 | _,_,.sl true t,_,_,ht,_=>by simp [Ty.zW] at ht
 | _,_,.ptr t,_,_,_,h=>h
 | _,_,.fn f t,_,_,_,h=>h
 | _,_,.tree _,_,_,_,h=>h
theorem qe {a b:Ty} {d:a.den} {k:b.den->Option R} {r:R} (h:u4 a b d k=some r):∃ e:a=b,k (cast (Fo Ty.den e) d)=some r:=by
 unfold u4 at h;split at h
 ·rename_i x hx;exact ⟨x.down,h⟩
 ·simp at h
theorem qH {I:Type} (l:List I) (i:Int) (x:I):(wZ l i x).length=l.length:=by simp [wZ]
theorem Y3 {I:Type} (l:List I) (i:Int) (x:I) (j:Nat) (hj:j < (wZ l i x).length) :
  (wZ l i x).get ⟨j,hj⟩=if i.toNat=j then x else l.get ⟨j,by simpa [wZ] using hj⟩:=by
 simp [wZ,Z4u]
theorem Zu {w:World} {g:z8}:{t:Ty}->{d:t.den}->{p:Path}->{u:Ty}->{e:u.den}->{k:t.den->Option R}->{r:R}->{cs Cp:List Value}->
  t.zW=true->zH w g none t d cs->zH w g none u e Cp->jM t d p u e k=some r->
  ∃ d' off,k d'=some r/\t.sk.off p=some (off,u.sk)/\zH w g none t d' (zD cs off Cp)
 | t,d,[],u,e,k,r,cs,Cp,ht,zC,ZC,h=>by
  have hk:u4 u t e k=some r:=by cases t <;> simpa [jM] using h
  obtain ⟨rfl,hk⟩:=qe hk;refine ⟨e,0,hk,by simp [Sk.off],?_⟩;have:zD cs 0 Cp=Cp:=by
   simp only [zD,Ti,QP,Zf];rw [ZC.len,<-zC.len];simp
  rw [this];exact ZC
 | .pair a b,(x,y),.fst :: p,u,e,k,r,cs,Cp,ht,zC,ZC,h=>by
  simp only [jM] at h;obtain ⟨c1,c2,rfl,h1,h2⟩:=zC;simp only [Ty.zW,zA] at ht;obtain ⟨d',off,hk,ho,hr⟩:=Zu ht.1 h1 ZC h;refine ⟨_,off,hk,by simpa [Ty.sk,Sk.off] using ho,?_⟩;have:=Sk.wi ho;rw [Ty.zQ,Ty.zQ] at this;rw [w9 _ _ _ _ (by rw [h1.len,ZC.len];exact this)]
  exact ⟨_,_,rfl,hr,h2⟩
 | .pair a b,(x,y),.snd :: p,u,e,k,r,cs,Cp,ht,zC,ZC,h=>by
  simp only [jM] at h;obtain ⟨c1,c2,rfl,h1,h2⟩:=zC;simp only [Ty.zW,zA] at ht;obtain ⟨d',off,hk,ho,hr⟩:=Zu ht.2 h2 ZC h;refine ⟨_,a.sk.size+off,hk,by simp [Ty.sk,Sk.off,ho],?_⟩;rw [vE _ _ _ _ _ (by rw [h1.len,Ty.zQ])]
  exact ⟨_,_,rfl,h1,hr⟩
 | .arr n t,l,.idx i :: p,u,e,k,r,cs,Cp,ht,zC,ZC,h=>by
  simp only [jM,WB] at h;obtain ⟨x,hx,h⟩:=h;obtain ⟨h0,hi,rfl,qx⟩:=ji hx;have ht':t.zW=true:=by simpa [Ty.zW] using ht
  have hl:=zC.1;have gE:=zC.2.1;have hn:i.toNat < n:=by rw [<-hl];exact hi
  obtain ⟨d',off,hk,ho,hr⟩:=Zu ht' (zC.2.2 _ hi) ZC h;have hle:=Sk.wi ho;rw [Ty.zQ,Ty.zQ] at hle;have V8:(i.toNat+1)*t.size<=n*t.size:=kn _ hn;rw [wB] at V8;refine ⟨_,i.toNat*t.sk.size+off,hk,?_,?_⟩
  ·simp only [Ty.sk,Sk.off];rw [yQ ⟨h0,by omega⟩,ho];rfl
  ·rw [Ty.zQ];refine ⟨by rw [qH];exact hl,?_,fun j hj=>?_⟩
   ·rw [yI _ _ _ (by rw [ZC.len];omega)];exact gE
   ·rw [Y3];split
    ·rename_i Qb;subst Qb;rw [pw _ _ _ _ _ (by rw [ZC.len];exact hle) (by omega)];exact hr
    ·rename_i Qb;have ZD:j < List.length l:=by simpa [wZ] using hj
     have VP:j < n:=by rw [<-hl];exact ZD
     rcases Z3n Qb with W5 | hgt
     ·have h3:(i.toNat+1)*t.size<=j*t.size:=kn _ W5;rw [wB] at h3;rw [vM _ _ _ _ _ (by rw [ZC.len];omega) (by rw [ZC.len];omega)];exact zC.2.2 j ZD
     ·have h3:(j+1)*t.size<=i.toNat*t.size:=kn _ hgt;rw [wB] at h3;rw [jv _ _ _ _ _ (by omega) (by omega)]
      exact zC.2.2 j ZD
 | .sl true t,l,.idx i :: p,_,_,k,r,cs,_,ht,zC,_,h=>by simp [Ty.zW] at ht
 | .sl false t,l,s :: p,_,_,k,r,cs,_,ht,zC,_,h=>by cases s <;> simp [jM] at h
 | .sl true t,l,.fst :: p,_,_,k,r,cs,_,ht,zC,_,h=>by simp [jM] at h
 | .sl true t,l,.snd :: p,_,_,k,r,cs,_,ht,zC,_,h=>by simp [jM] at h
 | .int _,_,s :: _,_,_,_,_,_,_,_,_,_,h=>by cases s <;> simp [jM] at h
 | .bool,_,s :: _,_,_,_,_,_,_,_,_,_,h=>by cases s <;> simp [jM] at h
 | .str,_,s :: _,_,_,_,_,_,_,_,_,_,h=>by cases s <;> simp [jM] at h
 | .unit,_,s :: _,_,_,_,_,_,_,_,_,_,h=>by cases s <;> simp [jM] at h
 | .ptr _,_,s :: _,_,_,_,_,_,_,_,_,_,h=>by cases s <;> simp [jM] at h
 | .fn _ _,_,s :: _,_,_,_,_,_,_,_,_,_,h=>by cases s <;> simp [jM] at h
 | .tree _,_,s :: _,_,_,_,_,_,_,_,_,_,h=>by cases s <;> simp [jM] at h
 | .pair _ _,_,.idx _ :: _,_,_,_,_,_,_,_,_,_,h=>by simp [jM] at h
 | .arr _ _,_,.fst :: _,_,_,_,_,_,_,_,_,_,h=>by simp [jM] at h
 | .arr _ _,_,.snd :: _,_,_,_,_,_,_,_,_,_,h=>by simp [jM] at h
abbrev qp:=Nat->Option Obj
def place (g:z8) (id:Nat):(t:Ty)->(pre:Path)->(b off:Nat)->Path->Option (Nat×Nat)
 | _,_,b,off,[]=>some (b,off)
 | .pair a _,pre,b,off,.fst :: p=>place g id a (pre++[.fst]) b off p
 | .pair a c,pre,b,off,.snd :: p=>place g id c (pre++[.snd]) b (off+a.size) p
 | .arr _ t,pre,b,off,.idx i :: p=>place g id t (pre++[.idx i]) b (off+i.toNat*t.size) p
 | .sl true t,pre,_,_,.idx i :: p=>match g.sv id pre with
  | .slice (some a) _ _=>place g id t (pre++[.idx i]) a.block (a.off+i.toNat*t.size) p
  | _=>none
 | _,_,_,_,_=>none
def jq (v:Value) (size:Nat) (a b:Int):Value:=match v with
 | .slice x _ cap=>.slice (if cap-a.toNat=0 then x else x.map (·.add (a.toNat*size))) (b-a).toNat (cap-a.toNat)
 | v=>v
def z7.isAgg:z7->Bool
 | .data t _=>t.sk.isAgg
 | .agg _=>true
 | _=>false
def vN (agg:Bool) (cs:List Value):Value:=if agg then .agg cs.toArray else cs.headD undef
def jK (w:World) (g:z8) (z6:qp):z7->List Value->Prop
 | .data t d,cs=>t.zW=true/\zH w g none t d cs
 | .qD,cs=>cs=[.slice none 0 0]
 | .ref id p ep,cs=>∃ v,cs=[v]/\v.oneCell'=true/\∀ t l e,z6 id=some (.row t l e)->ep<=e/\(e=ep->v=g.sv id p)
 | .view id p ep a b,cs=>∃ v,cs=[v]/\v.oneCell'=true/\∀ t l e,z6 id=some (.row t l e)->ep<=e/\
   (e=ep->p=[]/\0<=a/\a<=b/\b<=(l.length:Int)/\v=jq (g.sv id p) t.size a b)
 | .zq id p,cs=>∃ v,cs=[v]/\v.oneCell'=true/\∀ a,z6 id=some (.cell a)->∃ off s,a.sk.off p=some (off,s)/\v = .pointer (some ⟨g.qj id,off,none⟩)
 | .vA id p ep,cs=>∃ v,cs=[v]/\v.oneCell'=true/\∀ t l e,z6 id=some (.row t l e)->ep<=e/\
   (e=ep->p≠[]/\∃ b off,place g id (.sl true t) [] 0 0 p=some (b,off)/\v = .pointer (some ⟨b,off,none⟩))
 | .qz id,cs=>∃ v,cs=[v]/\v.oneCell'=true/\∀ kt vt m,z6 id=some (.map kt vt m)->v = .map (some (g.qj id))
 | .nv pt id p ep,cs=>∃ v,cs=[v]/\v.oneCell'=true/\∀ t l e i h,z6 id=some (.nest t l e i h)->ep<=Iy pt p e i/\
   (Iy pt p e i=ep->(pt=false->v=g.sv id p)/\(pt=true->p≠[]/\∃ b off,place g id (.sl true t) [] 0 0 p=some (b,off)/\v = .pointer (some ⟨b,off,none⟩)))
 | .qd f c,cs=>∃ vs,cs=[.func (.func f) #[] vs.toArray]/\jK w g z6 c vs
 | .V7 t c,cs=>∃ x DH,cs=[.iface t x]/\jK w g z6 c DH/\x=vN c.isAgg DH
 | .agg c,cs=>jK w g z6 c cs
 | .jV _,_=>False
 | .pr a b,cs=>∃ c1 c2,cs=c1++c2/\jK w g z6 a c1/\jK w g z6 b c2
 | .un,cs=>cs=[]
theorem jK.len {w:World} {g:z8} {z6:qp}:{a:z7}->{cs:List Value}->jK w g z6 a cs->cs.length=a.sk.size
 | .data t d,_,h=>by rw [h.2.len];simp [z7.sk,Ty.zQ]
 | .qD,_,h=>by cases h;rfl
 | .ref _ _ _,_,h=>by obtain ⟨v,rfl,_⟩:=h;rfl
 | .view _ _ _ _ _,_,h=>by obtain ⟨v,rfl,_⟩:=h;rfl
 | .zq _ _,_,h=>by obtain ⟨v,rfl,_⟩:=h;rfl
 | .vA _ _ _,_,h=>by obtain ⟨v,rfl,_⟩:=h;rfl
 | .qz _,_,h=>by obtain ⟨v,rfl,_⟩:=h;rfl
 | .nv _ _ _ _,_,h=>by obtain ⟨v,rfl,_⟩:=h;rfl
 | .qd _ _,_,h=>by obtain ⟨v,rfl,_⟩:=h;rfl
 | .V7 _ _,_,h=>by obtain ⟨x,cs,rfl,_⟩:=h;rfl
 | .agg c,_,h=>jK.len (a:=c) h
 | .jV _,_,h=>h.elim
 | .pr a b,_,h=>by
  obtain ⟨c1,c2,rfl,h1,h2⟩:=h
  simp only [VH,z7.sk,Sk.size,h1.len,h2.len]
 | .un,_,h=>by cases h;rfl
mutual
def zr (w:World) (g:z8) (z6:qp):z7->Value->Prop
 | .jV c,v=>∃ vs,v = .tuple vs.toArray/\qk w g z6 c vs
 | .pr _ _,_=>False
 | .un,_=>False
 | a,v=>∃ cs,jK w g z6 a cs/\v=vN a.isAgg cs
def qk (w:World) (g:z8) (z6:qp):z7->List Value->Prop
 | .pr a b,vs=>∃ v r,vs=v :: r/\zr w g z6 a v/\qk w g z6 b r
 | .un,vs=>vs=[]
 | _,_=>False
end
end Go.Kz
