/-
  Sorting lists by a comparison: what slices.SortFunc leaves, in plain data.
-/
import Derived.Test.YtmoggdcmpoobpaaGreatDoorKzAR
import Derived.Shelf.SlSortCmp.WholeK
import Derived.Shelf.SlSortCmp.NoneTotal
set_option linter.unusedVariables false
set_option linter.unusedSimpArgs false
namespace Go.Kz
open Go.Proofs Go.Sort
def z10{Z:Type}(lt:Z->Z->Bool)(x:Z):List Z->List Z
 |[]=>[x]
 |y::l=>cond (lt y x) (y::z10 lt x l) (x::y::l)
def V9{Z:Type}(lt:Z->Z->Bool):List Z->List Z
 |[]=>[]
 |x::l=>z10 lt x (V9 lt l)
structure X6 {Z:Type} (lt:Z->Z->Bool) (p:Z->Prop):Prop where
 irrefl:∀x,p x->lt x x=false
 trans:∀x y z,p x->p y->p z->lt x y=true->lt y z=true->lt x z=true
 ntrans:∀x y z,p x->p y->p z->lt x y=false->lt y z=false->lt x z=false
def Asc{Z:Type}(lt:Z->Z->Bool):List Z->Prop:=List.Pairwise λx y=>lt y x=false
theorem Uy{Z:Type}(lt:Z->Z->Bool)(x:Z):(l:List Z)->(z10 lt x l).Perm (x::l)
 |[]=>List.Perm.refl _
 |y::l=>by
  simp only[z10]
  cases lt y x with
  |true=>exact((Uy lt x l).cons y).trans (List.Perm.swap x y l)
  |false=>exact List.Perm.refl _
theorem wP{Z:Type}(lt:Z->Z->Bool):(l:List Z)->(V9 lt l).Perm l
 |[]=>List.Perm.refl _
 |x::l=>(Uy lt x _).trans ((wP lt l).cons x)
theorem LK{Z:Type}{lt:Z->Z->Bool}{p:Z->Prop}(h:X6 lt p){x:Z}(hx:p x):{l:List Z}->(∀y∈l,p y)->Asc lt l->Asc lt (z10 lt x l)
 |[],_,_=>List.pairwise_singleton _ _
 |y::l,hp,ha=>by
  have ha':=Z5w.1 ha;simp only[z10]
  cases hyx:lt y x with
  |true=>
   refine Z5w.2 ⟨λz hz=>?_,LK h hx (λz hz=>hp z (by simp[hz])) ha'.2⟩;rcases gJ.1 ((Uy lt x l).mem_iff.1 hz) with rfl|hz
   ·cases hxy:lt z y with
    |false=>rfl
    |true=>
     have:=h.trans y z y (hp y (by simp)) hx (hp y (by simp)) hyx hxy;rw[h.irrefl y (hp y (by simp))]at this;cases this
   ·exact ha'.1 z hz
  |false=>
   refine Z5w.2 ⟨λz hz=>?_,ha⟩;rcases gJ.1 hz with rfl|hz
   ·exact hyx
   ·exact h.ntrans z y x (hp z (by simp[hz])) (hp y (by simp)) hx (ha'.1 z hz) hyx
theorem YD{Z:Type}{lt:Z->Z->Bool}{p:Z->Prop}(h:X6 lt p):(l:List Z)->(∀y∈l,p y)->Asc lt (V9 lt l)
 |[],_=>List.Pairwise.nil
 |x::l,hp=>LK h (hp x (by simp)) (λy hy=>hp y (On _ ((wP lt l).mem_iff.1 hy))) (YD h l (λy hy=>hp y (by simp[hy])))
theorem CY{Z:Type}{lt:Z->Z->Bool}{l m:List Z}(hs:∀x y,x∈l->y∈l->lt x y=false->lt y x=false->x=y)(hp:l.Perm m)(hl:Asc lt l)(hm:Asc lt m):l=m:=by
 refine List.Perm.eq_of_pairwise (le:=λx y=>lt y x=false) (λa b ha hb h1 h2=>?_) hl hm hp;exact hs a b ha (hp.mem_iff.2 hb) h2 h1
def JB{Z:Type}(cf:Z->Z->Int)(x y:Z):Bool:=decide (cf x y<0)
end Go.Kz
namespace Go.Kz
open Go.Proofs Go.Sort Go.Shelf
def kW{Z:Type}(Fc:Z->Z->Option Int)(x y:Z):Int:=(Fc x y).getD 0
def Dp{Z:Type}(p:Z->Bool):List Z->Bool
 |[]=>true
 |x::l=>p x&&Dp p l
theorem x4{Z:Type}{p:Z->Bool}:{l:List Z}->(Dp p l=true↔∀x∈l,p x=true)
 |[]=>by simp[Dp]
 |x::l=>by simp[Dp,x4 (l:=l)]
def Nc{Z:Type}(Fc:Z->Z->Option Int)(l:List Z):Bool:=
 Dp (λx=>Dp (λy=>(Fc x y).isSome) l && !JB (kW Fc) x x&&Dp (λy=>Dp (λz=>(!(JB (kW Fc) x y&&JB (kW Fc) y z)||JB (kW Fc) x z)&&(JB (kW Fc) x y||JB (kW Fc) y z || !JB (kW Fc) x z)) l) l) l
theorem zde{Z:Type}{Fc:Z->Z->Option Int}{l:List Z}(h:Nc Fc l=true):X6 (JB (kW Fc)) (·∈l)/\∀x∈l,∀y∈l,Fc x y=some (kW Fc x y):=by
 simp only[Nc,x4,zA,PF]at h;refine⟨⟨λx hx=>(h x hx).1.2,λx y z hx hy hz h1 h2=>?_,λx y z hx hy hz h1 h2=>?_⟩,λx hx y hy=>?_⟩
 all_goals grind[Option.isSome_iff_exists,kW]
theorem RE{Z:Type}{Fc:Z->Z->Option Int}{l:List Z}(h:X6 (JB (kW Fc)) (·∈l))(hs:∀x∈l,∀y∈l,(Fc x y).isSome=true):Nc Fc l=true:=by
 simp only[Nc,x4,zA,PF];refine λx hx=>⟨⟨λy hy=>hs x hx y hy,h.irrefl x hx⟩,λy hy z hz=>⟨?_,?_⟩⟩
 ·cases h1:JB (kW Fc) x y<;>cases h2:JB (kW Fc) y z<;>simp;exact h.trans x y z hx hy hz h1 h2
 ·cases h1:JB (kW Fc) x y<;>cases h2:JB (kW Fc) y z<;>simp;exact h.ntrans x y z hx hy hz h1 h2
theorem z3t{w:World}{g:z8}{z6:qQ}{t:Ty}{d:t.den}{v:Value}(h:qy w g z6 (.data t d) v):t.zW=true/\∃cs,zM w g none t d cs/\v=jl t.sk.isAgg cs:=by
 simp only[qy]at h;obtain⟨cs,⟨h1,h2⟩,h3⟩:=h;exact⟨h1,cs,h2,h3⟩
theorem grown_of{w w':World}(ho:w'.os=w.os)(ht:w'.tape=w.tape)(hp:w'.output=w.output)(hd:w.drawn<=w'.drawn)(hs:w.heap.size<=w'.heap.size)(hk:∀b,b<w.heap.size->w'.heap[b]? = w.heap[b]?):
  ∃q os',w'=grow (w.drewN q) os':=by
 refine⟨w'.drawn-w.drawn,w'.heap.extract w.heap.size w'.heap.size,?_⟩;have hh:w'.heap=w.heap++w'.heap.extract w.heap.size w'.heap.size:=by
  apply Array.ext
  all_goals grind
 cases w with
 |mk h t d o p=>
  cases w' with
  |mk h' t' d' o' p'=>
   grind[grow,World.drewN,World.mk.injEq]
theorem SQ{c:Array Value}{off k j r:Nat}(hr:r<k)(h:off+j*k+k<=c.size):(qi c.toList (off+j*k) k)[r]? = c[off+(j*k+r)]? := by
 grind[qi]
end Go.Kz
namespace Go.Kz
open Go.Proofs Go.Sort Go.Shelf
noncomputable def Dy:(t:Ty)->t.den->t.den->Bool
 |.int _,a,b=>decide (a=b)
 |.bool,a,b=>a == b
 |.str,a,b=>decide (a=b)
 |.unit,_,_=>true
 |.pair a b,(x,u),(y,v)=>Dy a x y&&Dy b u v
 |.arr _ t,x,y=>kF (Dy t) x y
 |.sl _ t,x,y=>kF (Dy t) x y
 |.ptr t,x,y=>Dy t x y
 |.fn _ t,x,y=>Dy t x y
 |.tree _,x,y=>@decide (x=y) (Classical.propDecidable _)
theorem U9{I:Type}{f:I->I->Bool}(hf:∀x y,f x y=true->x=y):{l m:List I}->kF f l m=true->l=m
 |[],[],_=>rfl
 |x::l,y::m,h=>by
  simp only[kF]at h
  cases hb:f x y with
  |false=>rw[hb]at h;simp at h
  |true=>
   rw[hb]at h
   rw[hf x y hb,U9 hf h]
 |[],_::_,h=>by simp[kF]at h
 |_::_,[],h=>by simp[kF]at h
theorem KU:(t:Ty)->(x y:t.den)->Dy t x y=true->x=y
 |.int _,a,b,h=>by simpa[Dy]using h
 |.bool,a,b,h=>by simpa[Dy]using h
 |.str,a,b,h=>by simpa[Dy]using h
 |.unit,_,_,_=>rfl
 |.pair a b,(x,u),(y,v),h=>by
  simp only[Dy,zA]at h
  rw[KU a x y h.1,KU b u v h.2]
 |.arr _ t,x,y,h=>U9 (KU t) h
 |.sl _ t,x,y,h=>U9 (KU t) h
 |.ptr t,x,y,h=>KU t x y h
 |.fn _ t,x,y,h=>KU t x y h
 |.tree _,x,y,h=>by simpa[Dy]using h
theorem V6{I:Type}{f:I->I->Bool}(hf:∀x,f x x=true):(l:List I)->kF f l l=true
 |[]=>rfl
 |x::l=>by simp only[kF,hf x,zJ];exact V6 hf l
theorem uh:(t:Ty)->(x:t.den)->Dy t x x=true
 |.int _,a=>by simp[Dy]
 |.bool,a=>by simp[Dy]
 |.str,a=>by simp[Dy]
 |.unit,_=>rfl
 |.pair a b,(x,u)=>by simp only[Dy,uh a x,uh b u,Z46]
 |.arr _ t,x=>V6 (uh t) x
 |.sl _ t,x=>V6 (uh t) x
 |.ptr t,x=>uh t x
 |.fn _ t,x=>uh t x
 |.tree _,x=>by simp[Dy]
def NA{Z:Type}(eq lt:Z->Z->Bool)(l:List Z):Bool:=Dp (λx=>Dp (λy=>lt x y||lt y x||eq x y) l) l
noncomputable def Ju(t:Ty)(Fc:t.den->t.den->Option Int)(l:List t.den):Option (List t.den):=
 cond (Nc Fc l&&NA (Dy t) (JB (kW Fc)) l&&Nat.blt l.length 4611686018427387904) (some (V9 (JB (kW Fc)) l)) none
end Go.Kz
namespace Go.Kz
open Go.Proofs Go.Sort Go.Shelf
structure CE (w:World) (b:Nat) (W:World):Prop where
 os:W.os=w.os
 tape:W.tape=w.tape
 output:W.output=w.output
 drawn:w.drawn<=W.drawn
 size:w.heap.size<=W.heap.size
 vV:∀k,k≠b->k<w.heap.size->W.heap[k]? = w.heap[k]?
structure zao (P:Program) (f:FuncId) (agg:Bool) (k:Nat):Prop where
 ent:∀args w,(callFunc f args).run P w=.ok (.enter f args) w
 nil:∀a cap fv w,Calls P f #[.slice a 0 cap,fv] w λe w'=>e=.returned (.tuple #[])/\w'=w
 run:∀(n:Nat) (_:Inhabited (Fin n)) (g:FuncId) (cb:Array Value) (enc:Fin n->List Value) (cf:Fin n->Fin n->Int) (b off cap:Nat) (c:Array Value) (e:TypeId) (w:World),
  (∀args w,(callFunc g args).run P w=.ok (.enter g args) w)->SWO (ltOf cf)->(∀x,(enc x).length=k)->(∀x,∀v∈enc x,v.oneCell'=true)->b<w.heap.size->n<4611686018427387904->
  w.heap[b]? = some (.cells c e (0,0))->off+n*k<=c.size->(∀i:Fin n,qi c.toList (off+i.1*k) k=enc i)->
  (∀W,CE w b W->∀x y,Calls P g (#[jl agg (enc x),jl agg (enc y)]++cb) W λe w'=>e=.returned (.int .i64 (cf x y))/\∃q os',w'=grow (W.drewN q) os')->
  Calls P f #[.slice (some ⟨b,off,none⟩) n cap,.func (.func g) #[] cb] w λe' w'=>e'=.returned (.tuple #[])/\CE w b w'/\
   ∃d:List (Fin n),d.Perm (List.finRange n)/\d.Pairwise (λx y=>ltOf cf y x=false)/\∃c',w'.heap[b]? = some (.cells c' e (0,0))/\c'.size=c.size/\∀(i:Nat)(h:i<d.length),qi c'.toList (off+i*k) k=enc (d.get ⟨i,h⟩)
section
variable {n:Nat} [Inhabited (Fin n)] {enc:Fin n->List Value}{k:Nat}{w:World}{b off:Nat}{c:Array Value}{e:TypeId}
theorem E8(m:Nat)(d:Array (Fin n))(os:Array Go.Obj)(hb:b<w.heap.size):CE w b (sortWorldK enc k w b off m d os):=by
 have hw:(sortWorldK enc k w b off m d os).heap=(w.heap.modify b (onCells (putCells id off (flatK enc k d))))++os:=rfl;refine⟨rfl,rfl,rfl,Z5x _ _,?_,λj hj yP=>?_⟩
 all_goals grind
theorem z29(m:Nat)(d:Array (Fin n))(os:Array Go.Obj)(hb:b<w.heap.size)(hc:w.heap[b]? = some (.cells c e (0,0))):(sortWorldK enc k w b off m d os).heap[b]? = some (.cells (putCells id off (flatK enc k d) c) e (0,0)):=by
 have hw:(sortWorldK enc k w b off m d os).heap=(w.heap.modify b (onCells (putCells id off (flatK enc k d))))++os:=rfl;rw[hw,Z50 (by grind),Array.getElem?_modify,qn rfl,hc];rfl
theorem z06(hk:∀x,(enc x).length=k)(d:Array (Fin n))(hle:off+d.size*k<=c.size)(i:Nat)(hi:i<d.size):qi (putCells id off (flatK enc k d) c).toList (off+i*k) k=enc d[i]:=by
 have Zw:(putCells id off (flatK enc k d) c).size=c.size:=by simp[putCells]
 have pX:off+i*k+k<=c.size:=by
  have:(i+1)*k<=d.size*k:=wI _ hi
  grind
 have hl1:(qi (putCells id off (flatK enc k d) c).toList (off+i*k) k).length=k:=yO (by grind);have I0:(enc d[i]).length=k:=hk _;refine Z2v λq=>?_
 by_cases S7:q<k
 ·rw[SQ S7 (by omega)];have hm:i*k+q<d.size*k:=by
   have:(i+1)*k<=d.size*k:=wI _ hi
   grind
  have hdiv:(i*k+q)/k=i:=by
   grind[Nat.mul_comm,Nat.mul_add_div,Nat.div_eq_of_lt]
  have zsp:(i*k+q)%k=q:=by
   simp_all[Z3q]
  grind[putCells,size_flatK,get_flatK]
 grind
theorem holds_of(hk:∀x,(enc x).length=k)(hc:w.heap[b]? = some (.cells c e (0,0)))(hle:off+n*k<=c.size)(hs:∀i:Fin n,qi c.toList (off+i.1*k) k=enc i):HoldsK enc k w b off (List.finRange n).toArray:=by
 intro j hj;have gg:j<n*k:=by simp_all
 have hp:0<k:=by
  grind
 have hi:j/k<n:=by simp_all[Nat.div_lt_iff_lt_mul]
 have hr:j%k<k:=Z23 _ hp;refine⟨?_,by simp[World.frozen?,hc]⟩;rw[get_flatK _ _ _ _ (by grind)];have e1:((List.finRange n).toArray)[j/k]! = ⟨j/k,hi⟩:=by
  grind
 have ztn:off+j/k*k+k<=c.size:=by
  have:(j/k+1)*k<=n*k:=wI _ hi
  grind
 grind[SQ,Nat.div_add_mod,World.cell?]
theorem F6{cf:Fin n->Fin n->Int}(hk:∀x,(enc x).length=k)(hb:b<w.heap.size)(hc:w.heap[b]? = some (.cells c e (0,0)))(hle:off+n*k<=c.size){d':Array (Fin n)}{m:Nat}{os:Array Go.Obj}
  (hp:PermIn 0 (List.finRange n).toArray.size (List.finRange n).toArray d') (hs:SortedIn (ltOf cf) 0 (List.finRange n).toArray.size d'):CE w b (sortWorldK enc k w b off m d' os)/\
   ∃d:List (Fin n),d.Perm (List.finRange n)/\d.Pairwise (λx y=>ltOf cf y x=false)/\∃c',(sortWorldK enc k w b off m d' os).heap[b]? = some (.cells c' e (0,0))/\c'.size=c.size/\∀(i:Nat)(h:i<d.length),qi c'.toList (off+i*k) k=enc (d.get ⟨i,h⟩):=by
 obtain⟨h1,_,h2⟩:=hp;have Lf:d'.size=n:=by grind
 refine⟨E8 m d' os hb,d'.toList,?_,?_,_,z29 m d' os hb hc,by simp[putCells],λi h=>?_⟩
 ·grind[Array.extract_size]
 ·rw[Z4e];intro i j hi hj ZP;have:=hs i j (v8 _) ZP (by grind)
  grind
 grind[z06]
end
theorem FY{n:Nat}[Inhabited (Fin n)](enc:Fin n->Value)(off:Nat)(d:Array (Fin n))(c:Array Value):putCells enc off d c=putCells id off (flatK (λx=>[enc x]) 1 d) c:=by
 grind[putCells,size_flatK,get_flatK]
theorem WU{n:Nat}[Inhabited (Fin n)](enc:Fin n->Value)(w:World)(b off m:Nat)(d:Array (Fin n))(os:Array Go.Obj):sortWorld enc w b off m d os=sortWorldK (λx=>[enc x]) 1 w b off m d os:=by
 have:putCells enc off d=putCells id off (flatK (λx=>[enc x]) 1 d):=funext λc=>FY enc off d c
 grind[sortWorld,sortWorldK,putRowK,putRow]
theorem Ax{P:Program}{Y:Ren}(L:SlLaysF.n6 P Y):zao P (Y.f 6) false 1:=by
 refine⟨L.f6.enters rfl,λa cap fv w=>AnyF.slices_SortFunc_none { L with } a cap fv w,λn inst g cb z9j cf b off cap c e w eg hO hk h1 hb ql hc hle hs zmo=>?_⟩;have ZX:(List.finRange n).toArray.size=n:=by simp
 let enc:Fin n->Value:=λx=>(z9j x).headD undef
 have he:z9j=λx=>[enc x]:=funext λx=>by
  show z9j x=[(z9j x).headD undef];have:=hk x
  match h:z9j x with
  |[v]=>rfl
  |[]=>grind
  |_::_::_=>grind
 have hH:=holds_of hk hc hle hs;rw[he]at hH;have h:=Any.slices_SortFunc L enc (λx=>h1 x _ (by grind)) cf hO g cb b off cap (List.finRange n).toArray w eg (λm os dk _ x y=>by
   rw[WU];exact zmo _ (E8 m dk os hb) x y) (λj hj=>by
   have:=hH j (by simp_all)
   grind[get_flatK]) hb (by omega)
 grind[Calls.mono,WU,F6]
theorem zM.z2g{w w':World}{g g':z8}(hr:zS w g w' g'):{o o':Ee}->{t:Ty}->{d:t.den}->{cs:List Value}->t.zW=true->zM w g o t d cs->zM w' g' o' t d cs
 |_,_,.int _,_,_,_,h=>h
 |_,_,.bool,_,_,_,h=>h
 |_,_,.str,_,_,_,h=>h
 |_,_,.unit,_,_,_,h=>h
 |_,_,.pair a b,(x,y),_,ht,h=>by
  obtain⟨c1,c2,rfl,h1,h2⟩:=h;simp only[Ty.zW,zA]at ht
  exact⟨c1,c2,rfl,zM.z2g hr ht.1 h1,zM.z2g hr ht.2 h2⟩
 |_,_,.arr n t,_,_,ht,h=>⟨h.1,h.2.1,λi hi=>zM.z2g hr (by grind[Ty.zW]) (h.2.2 i hi)⟩
 |_,_,.sl false t,l,_,_,h=>by
  obtain⟨a,cap,rfl,h1,h2,h3⟩:=h;refine⟨a,cap,rfl,h1,h2,λhn=>?_⟩;obtain⟨b,off,c,e,fz,ha,ht,hb,hs,he⟩:=h3 hn;have hk:=hr.qY b ht
  exact⟨b,off,c,e,fz,ha,hk.1,hk.2.trans hb,hs,λi hi=>zM.kept hr (he i hi)⟩
 |_,_,.sl true _,_,_,ht,_=>by grind[Ty.zW]
 |_,_,.ptr t,_,_,_,h=>by
  obtain⟨b,off,c,e,fz,rfl,ht,hb,hs,he⟩:=h;have hk:=hr.qY b ht
  exact⟨b,off,c,e,fz,rfl,hk.1,hk.2.trans hb,hs,zM.kept hr he⟩
 |_,_,.fn f t,_,_,_,h=>by
  obtain⟨vs,rfl,he⟩:=h
  exact⟨vs,rfl,zM.kept hr he⟩
 |_,_,.tree k,_,_,_,h=>by obtain⟨n,h⟩:=h;exact⟨n,h.move hr⟩
def K7(g:z8):z8:={ g with tag:=λb=>match g.tag b with
 |.ro=>.ro
 |_=>.qw }
theorem z0z{Z:Type}{cf:Z->Z->Int}{l:List Z}{eq:Z->Z->Bool}(he:∀x y,eq x y=true->x=y)(D7:X6 (JB cf) (·∈l))(q0v:NA eq (JB cf) l=true){d:List (Fin l.length)}(hp:d.Perm (List.finRange l.length))(hd:d.Pairwise (λx y=>ltOf (λa b=>cf (l.get a) (l.get b)) y x=false)):V9 (JB cf) l=d.map l.get:=by
 have hl:(List.finRange l.length).map l.get=l:=I3 (by simp) λi h1 h2=>by simp
 have p1:(d.map l.get).Perm l:=by
  grind
 refine(CY (lt:=JB cf) (λx y hx hy hxy hyx=>?_) (p1.trans (wP _ l).symm) ?_ (YD D7 l λy hy=>hy)).symm
 ·grind[NA,x4]
 ·unfold Asc;rw[Z5y];exact hd
theorem IV{P:Program}{f:FuncId}{t:Ty}(qU:t.zW=true)(S:zao P f t.sk.isAgg t.size){u:Ty}{q:kG}(cv:u.den->q.den)(hcv:∀w g d vs,u.zW=true->zM w g none u d vs->Qz w g q (cv d) vs)
  {g:Nat} (eg:∀args w,(callFunc g args).run P w=.ok (.enter g args) w) {Fc:t.den×t.den×q.den->Option Int}
  (hc:qe P g (.pure (.pr (.val t) (.pr (.val t) q)) [.int .i64] Fc)) :
  qe P f (.mut ⟨[(0,.ref 0),(1,.val (.fn g u))],[.row t]⟩ [0] ⟨[(0,.ref 0)],[.row t]⟩ λd=>(Ju t (λx y=>Fc (x,y,cv d.1.2.1)) d.2.1).map λl=>(((),()),(l,()))):=by
 intro w g0 d vals r LX zq z8b hF;obtain⟨⟨d1,d2,d3⟩,l,u0⟩:=d;simp only[kT]at hF;obtain⟨l',hl',rfl⟩:=hF;replace hl':Ju t (λx y=>Fc (x,y,cv d2)) l=some l':=hl';unfold Ju at hl';replace hl':=yL hl';obtain⟨hb,hl'⟩:=hl';simp only[zI]at hl';simp only[zA]at hb;obtain⟨⟨Vk,q0v⟩,hb3⟩:=hb;obtain⟨D7,q2c⟩:=zde Vk;have ql:l.length<4611686018427387904:=zL hb3
 match vals,LX with
 |[v0,v1],_=>
 obtain⟨u0,hu0,hv0⟩:=zq.zy 0 (.ref 0 [] 0) rfl;obtain⟨u1,Oq,Oz⟩:=zq.zy 1 (.data (.fn g u) d2) rfl;simp at hu0 Oq;subst hu0;subst Oq;have wJ:=zq.heap.z6 0 (.row t l 0) rfl;obtain⟨_,a,cap,yU,z7h,h1,h2,h3⟩:=wJ;simp only[qy]at hv0;obtain⟨cs,⟨v,rfl,_,hx⟩,hv0⟩:=hv0;have zrs:v0=g0.sv 0 []:=by rw[hv0];exact(hx t l 0 rfl).2 rfl
 obtain⟨hru,cs1,⟨vs1,q09,ZS⟩,Oz⟩:=z3t Oz;have zs7:u.zW=true:=by grind[Ty.zW]
 subst q09;have q0e:v1=.func (.func g) #[] vs1.toArray:=Oz;rw[z7h]at zrs;subst zrs;subst q0e;left;refine⟨S.ent _ _,?_⟩;have hlen:l'.length=l.length:=by rw[<-hl'];exact(wP _ l).length_eq
 have fin:∀w',Ext w g0 w' g0->zM w' g0 (some (0,[])) (.sl true t) l' [g0.sv 0 []]->
   ∃v,Ending.returned (.tuple #[])=.returned v/\∃g',Ext w g0 w' g'/\yH w' g' (zT [Obj.row t l' 0])/\
    (∀k i av,zT [0] k=some i->zT [z7.ref 0 [] 0] k=some av->∃u,[Value.slice a l.length cap,.func (.func g) #[] vs1.toArray][i]? = some u/\qy w' g' (zT [Obj.row t l' 0]) av u)/\
    qy w' g' (zT [Obj.row t l' 0]) (gd []) v:=by
  intro w' hE hR;refine⟨.tuple #[],rfl,g0,hE,⟨λid o ho=>?_,λb hb=>Z3w (zq.heap.tags b hb) hE.size⟩,λk i av hk Kf=>?_,?_⟩
  ·cases id with
   |zero=>
    simp only[zT,zI]at ho;subst ho
    exact⟨qU,hR⟩
   |succ id=>grind[zT]
  ·cases k with
   |zero=>
    simp only[zT,zI]at hk Kf;subst hk;subst Kf;refine⟨.slice a l.length cap,rfl,?_⟩;simp only[qy]
    refine⟨[.slice a l.length cap],⟨_,rfl,rfl,λt' l2 e ho=>⟨v8 _,λ_=>z7h.symm⟩⟩,rfl⟩
   |succ k=>grind[zT]
  grind[gd,qy,vZ,qj]
 by_cases Fh:l=[]
 ·have I0:l'=[]:=by grind
  subst Fh;refine Calls.mono (S.nil a cap _ w) λe w' he=>?_
  obtain⟨rfl,rfl⟩:=he;refine fin w' (Ext.refl _ _) ?_;rw[I0];exact⟨a,cap,yU,z7h,h1,h2,h3⟩
 ·rcases h3 with⟨_,h3,_⟩|⟨b,off,c,e,ha,CN,zZ,hle,vw⟩
  ·grind
  ·have hblk:b<w.heap.size:=zq.heap.tags b (by grind);have inst:Inhabited (Fin l.length):=⟨⟨0,Z5m.2 Fh⟩⟩;have SZ:∀W,CE w b W->zS w g0 W (K7 g0):=λW hN=>⟨λj hj=>⟨by simp[K7,hj],hN.vV j (λh=>by grind) (zq.heap.tags j (by grind))⟩⟩
   have hRo':∀W,CE w b W->zS w g0 W g0:=λW hN=>⟨λj hj=>⟨hj,hN.vV j (λh=>by grind) (zq.heap.tags j (by grind))⟩⟩
   have zmo:∀W,CE w b W->∀x y:Fin l.length,Calls P g (#[jl t.sk.isAgg (qi c.toList (off+x.1*t.size) t.size),jl t.sk.isAgg (qi c.toList (off+y.1*t.size) t.size)]++vs1.toArray) W λe w'=>e=.returned (.int .i64 (kW (λx y=>Fc (x,y,cv d2)) (l.get x) (l.get y)))/\∃q os',w'=grow (W.drewN q) os':=by
    intro W hN x y;have hr:∀x:Fin l.length,∃cs,zM W (K7 g0) none t (l.get x) cs/\jl t.sk.isAgg (qi c.toList (off+x.1*t.size) t.size)=jl t.sk.isAgg cs:=λx=>⟨_,zM.z2g (SZ W hN) qU (vw x.1 x.2),rfl⟩
    have:=hc W (K7 g0) (l.get x,l.get y,cv d2) (jl t.sk.isAgg (qi c.toList (off+x.1*t.size) t.size)::jl t.sk.isAgg (qi c.toList (off+y.1*t.size) t.size)::vs1) _ (λj hj=>by
     cases he:g0.tag j with
     |ro=>exact⟨by simp[K7,he],Z3w (zq.heap.tags j (by grind)) hN.size⟩
     |_=>grind[K7]) (Known.kept (SZ W hN) zq.known) ⟨qU,hr x,qU,hr y,hcv _ _ _ _ zs7 (zM.z2g (SZ W hN) zs7 ZS)⟩ (q2c _ (Z2n l x) _ (Z2n l y))
    rcases this with⟨_,h⟩|⟨v,w',h,_⟩
    ·have ea:(#[jl t.sk.isAgg (qi c.toList (off+x.1*t.size) t.size),jl t.sk.isAgg (qi c.toList (off+y.1*t.size) t.size)]++vs1.toArray)=(jl t.sk.isAgg (qi c.toList (off+x.1*t.size) t.size)::jl t.sk.isAgg (qi c.toList (off+y.1*t.size) t.size)::vs1).toArray:=by simp
     rw[ea];refine Calls.mono h λe w' he=>?_
     obtain⟨v,rfl,g',qm,KZ⟩:=he;have hv:=(jo KZ.2).1;refine⟨by rw[hv],?_⟩;exact grown_of qm.os qm.tape qm.output qm.drawn qm.size λj hj=>(qm.vV j hj (by
      grind[K7])).1
    grind
   have Vk:off+l.length*t.size<=c.size:=Z1o (Nat.add_le_add_left (wI _ h1) _) hle;have zs1:=S.run l.length inst g vs1.toArray (λi=>qi c.toList (off+i.1*t.size) t.size) (λx y=>kW (λx y=>Fc (x,y,cv d2)) (l.get x) (l.get y)) b off cap c e w eg
    ⟨λx=>D7.irrefl _ (Z2n l x),λx y z=>D7.trans _ _ _ (Z2n l x) (Z2n l y) (Z2n l z),λx y z=>D7.ntrans _ _ _ (Z2n l x) (Z2n l y) (Z2n l z)⟩
    (λx=>(vw x.1 x.2).len) (λx=>(vw x.1 x.2).one) hblk ql zZ Vk (λ_=>rfl) zmo
   rw[ha];refine Calls.mono zs1 λe' w' he=>?_
   obtain⟨rfl,hN,d,hp,hd,c',Uu,Zw,q0w⟩:=he;have zsr:l'=d.map l.get:=by grind[z0z,KU]
   have hre:=fin w' ⟨hN.os,hN.tape,hN.output,hN.drawn,hN.size,λj hj hjt=>⟨hN.vV j (λhe=>by grind) hj,rfl⟩⟩ ?_
   ·rw[ha]at hre;exact hre
   ·refine⟨a,cap,by grind,by grind,by omega,h2,.inr ⟨b,off,c',e,ha,CN,Uu,by omega,λi hi=>?_⟩⟩
    grind[zM.z2g]
theorem z9u(w:World)(g:z8)(d:Ty.unit.den)(vs:List Value)(_:Ty.unit.zW=true)(h:zM w g none .unit d vs):Qz w g .un d vs:=by
 have:vs=[]:=h;subst this;trivial
theorem zg6{t:Ty}(ht:t.sk.isAgg=false)(w:World)(g:z8)(d:(Ty.pair t .unit).den)(vs:List Value)(hr:(Ty.pair t .unit).zW=true)(h:zM w g none (.pair t .unit) d vs)(hs:t.size=1):Qz w g (.pr (.val t) .un) d vs:=by
 obtain⟨x,⟨⟩⟩:=d;obtain⟨c1,c2,rfl,h1,h2⟩:=h;have:c2=[]:=h2;subst this;have hl:c1.length=1:=h1.len.trans hs
 match c1,hl with
 |[v],_=>
  simp only[Ty.zW,zA]at hr;exact⟨hr.1,⟨[v],h1,by rw[ht];rfl⟩,trivial⟩
end Go.Kz
