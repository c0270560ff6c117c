/-
  Sorting lists by a comparison: what slices.SortFunc leaves, in plain data.
-/
import Derived.Test.YtmoggdcmpoobpaaGreatDoorKzAN
import Derived.Shelf.SlSortCmp.WholeK
import Derived.Shelf.SlSortCmp.NoneTotal
import Derived.Test.YtmoggdcmpoobpaaGreatDoorKzAR
set_option linter.unusedVariables false
set_option linter.unusedSimpArgs false
namespace Go.Kz
open Go.Proofs Go.Sort
def SQ{Z:Type}(lt:Z->Z->Bool)(x:Z):List Z->List Z
 |[]=>[x]
 |y::l=>cond (lt y x) (y::SQ lt x l) (x::y::l)
def Aw{Z:Type}(lt:Z->Z->Bool):List Z->List Z
 |[]=>[]
 |x::l=>SQ lt x (Aw lt l)
structure Rj {Z:Type} (lt:Z->Z->Bool) (p:Z->Prop):Prop where
 irrefl:∀x,p x->lt x x=false
 trans:∀x y z,p x->p y->p z->lt x y=true->lt y z=true->lt x z=true
 ntrans:∀x y z,p x->p y->p z->lt x y=false->lt y z=false->lt x z=false
def Asc{Z:Type}(lt:Z->Z->Bool):List Z->Prop:=List.Pairwise λx y=>lt y x=false
theorem Gh{Z:Type}(lt:Z->Z->Bool)(x:Z):(l:List Z)->(SQ lt x l).Perm (x::l)
 |[]=>List.Perm.refl _
 |y::l=>by
  simp only[SQ]
  cases lt y x with
  |true=>exact((Gh lt x l).cons y).trans (List.Perm.swap x y l)
  |false=>exact List.Perm.refl _
theorem xb{Z:Type}(lt:Z->Z->Bool):(l:List Z)->(Aw lt l).Perm l
 |[]=>List.Perm.refl _
 |x::l=>(Gh lt x _).trans ((xb lt l).cons x)
theorem HH{Z:Type}{lt:Z->Z->Bool}{p:Z->Prop}(h:Rj lt p){x:Z}(hx:p x):{l:List Z}->(∀y∈l,p y)->Asc lt l->Asc lt (SQ lt x l)
 |[],_,_=>List.pairwise_singleton _ _
 |y::l,hp,ha=>by
  have ha':=Z3j.1 ha;simp only[SQ]
  cases hyx:lt y x with
  |true=>
   refine Z3j.2 ⟨λz hz=>?_,HH h hx (λz hz=>hp z (by simp[hz])) ha'.2⟩;rcases pF.1 ((Gh lt x l).mem_iff.1 hz) with rfl|hz
   ·cases hxy:lt z y with
    |false=>rfl
    |true=>
     have:=h.trans y z y (hp y (by simp)) hx (hp y (by simp)) hyx hxy;rw[h.irrefl y (hp y (by simp))]at this;cases this
   ·exact ha'.1 z hz
  |false=>
   refine Z3j.2 ⟨λz hz=>?_,ha⟩;rcases pF.1 hz with rfl|hz
   ·exact hyx
   ·exact h.ntrans z y x (hp z (by simp[hz])) (hp y (by simp)) hx (ha'.1 z hz) hyx
theorem Av{Z:Type}{lt:Z->Z->Bool}{p:Z->Prop}(h:Rj lt p):(l:List Z)->(∀y∈l,p y)->Asc lt (Aw lt l)
 |[],_=>List.Pairwise.nil
 |x::l,hp=>HH h (hp x (by simp)) (λy hy=>hp y (TX _ ((xb lt l).mem_iff.1 hy))) (Av h l (λy hy=>hp y (by simp[hy])))
theorem Mh{Z:Type}{lt:Z->Z->Bool}{l m:List Z}(hs:∀x y,x∈l->y∈l->lt x y=false->lt y x=false->x=y)(hp:l.Perm m)(hl:Asc lt l)(hm:Asc lt m):l=m:=by
 refine List.Perm.eq_of_pairwise (le:=λx y=>lt y x=false) (λa b ha hb h1 h2=>?_) hl hm hp;exact hs a b ha (hp.mem_iff.2 hb) h2 h1
def NH{Z:Type}(cf:Z->Z->Int)(x y:Z):Bool:=decide (cf x y<0)
end Go.Kz
namespace Go.Kz
open Go.Proofs Go.Sort Go.Shelf
def Kr{Z:Type}(Fc:Z->Z->Option Int)(x y:Z):Int:=(Fc x y).getD 0
def C3{Z:Type}(p:Z->Bool):List Z->Bool
 |[]=>true
 |x::l=>p x&&C3 p l
theorem BJ{Z:Type}{p:Z->Bool}:{l:List Z}->(C3 p l=true↔∀x∈l,p x=true)
 |[]=>by simp[C3]
 |x::l=>by simp[C3,BJ (l:=l)]
def zhb{Z:Type}(Fc:Z->Z->Option Int)(l:List Z):Bool:=
 C3 (λx=>C3 (λy=>(Fc x y).isSome) l && !NH (Kr Fc) x x&&C3 (λy=>C3 (λz=>(!(NH (Kr Fc) x y&&NH (Kr Fc) y z)||NH (Kr Fc) x z)&&(NH (Kr Fc) x y||NH (Kr Fc) y z || !NH (Kr Fc) x z)) l) l) l
theorem za9{Z:Type}{Fc:Z->Z->Option Int}{l:List Z}(h:zhb Fc l=true):Rj (NH (Kr Fc)) (·∈l)/\∀x∈l,∀y∈l,Fc x y=some (Kr Fc x y):=by
 simp only[zhb,BJ,zA,U0]at h;refine⟨⟨λx hx=>(h x hx).1.2,λx y z hx hy hz h1 h2=>?_,λx y z hx hy hz h1 h2=>?_⟩,λx hx y hy=>?_⟩
 ·have:=((h x hx).2 y hy z hz).1;rw[h1,h2]at this;simpa using this
 ·have:=((h x hx).2 y hy z hz).2;rw[h1,h2]at this;simpa using this
 ·have:=(h x hx).1.1 y hy;rw[Z37]at this;obtain⟨v,hv⟩:=this;simp[Kr,hv]
theorem z02{w:World}{g:z8}{z6:qZ}{t:Ty}{d:t.den}{v:Value}(h:zm w g z6 (.data t d) v):t.zG=true/\∃cs,zN w g none t d cs/\v=jh t.sk.isAgg cs:=by
 simp only[zm]at h;obtain⟨cs,⟨h1,h2⟩,h3⟩:=h;exact⟨h1,cs,h2,h3⟩
theorem grown_of{w w':World}(ho:w'.os=w.os)(ht:w'.tape=w.tape)(hp:w'.output=w.output)(hd:w.drawn<=w'.drawn)(hs:w.heap.size<=w'.heap.size)(hk:∀b,b<w.heap.size->w'.heap[b]? = w.heap[b]?):
  ∃q os',w'=grow (w.drewN q) os':=by
 refine⟨w'.drawn-w.drawn,w'.heap.extract w.heap.size w'.heap.size,?_⟩;have hh:w'.heap=w.heap++w'.heap.extract w.heap.size w'.heap.size:=by
  apply Array.ext
  ·simp;omega
  ·intro i h1 h2;by_cases hi:i<w.heap.size
   ·have:=hk i hi;rw[Z3d h1,Z3d hi]at this;simp only[zI]at this;rw[this,Array.getElem_append_left hi]
   ·rw[Array.getElem_append_right (by omega)];simp;congr 1;omega
 cases w with
 |mk h t d o p=>
  cases w' with
  |mk h' t' d' o' p'=>
   simp only at ho ht hp hd hs hh;subst ho;subst ht;subst hp;simp only[grow,World.drewN,World.mk.injEq,Fy,Ur];exact⟨hh,by omega⟩
theorem O0{c:Array Value}{off k j r:Nat}(hr:r<k)(h:off+j*k+k<=c.size):(qS c.toList (off+j*k) k)[r]? = c[off+(j*k+r)]? := by
 simp only[qS];rw[List.getElem?_take_of_lt hr,Z2j,Z25];congr 1;omega
end Go.Kz
namespace Go.Kz
open Go.Proofs Go.Sort Go.Shelf
noncomputable def Ot:(t:Ty)->t.den->t.den->Bool
 |.int _,a,b=>decide (a=b)
 |.bool,a,b=>a == b
 |.str,a,b=>decide (a=b)
 |.unit,_,_=>true
 |.pair a b,(x,u),(y,v)=>Ot a x y&&Ot b u v
 |.arr _ t,x,y=>kY (Ot t) x y
 |.sl _ t,x,y=>kY (Ot t) x y
 |.ptr t,x,y=>Ot t x y
 |.fn _ t,x,y=>Ot t x y
 |.tree _,x,y=>@decide (x=y) (Classical.propDecidable _)
 |.mp _,x,y=>@decide (x=y) (Classical.propDecidable _)
theorem Gc{I:Type}{f:I->I->Bool}(hf:∀x y,f x y=true->x=y):{l m:List I}->kY f l m=true->l=m
 |[],[],_=>rfl
 |x::l,y::m,h=>by
  simp only[kY]at h
  cases hb:f x y with
  |false=>rw[hb]at h;simp at h
  |true=>
   rw[hb]at h
   rw[hf x y hb,Gc hf h]
 |[],_::_,h=>by simp[kY]at h
 |_::_,[],h=>by simp[kY]at h
theorem W7:(t:Ty)->(x y:t.den)->Ot t x y=true->x=y
 |.int _,a,b,h=>by simpa[Ot]using h
 |.bool,a,b,h=>by simpa[Ot]using h
 |.str,a,b,h=>by simpa[Ot]using h
 |.unit,_,_,_=>rfl
 |.pair a b,(x,u),(y,v),h=>by
  simp only[Ot,zA]at h
  rw[W7 a x y h.1,W7 b u v h.2]
 |.arr _ t,x,y,h=>Gc (W7 t) h
 |.sl _ t,x,y,h=>Gc (W7 t) h
 |.ptr t,x,y,h=>W7 t x y h
 |.fn _ t,x,y,h=>W7 t x y h
 |.tree _,x,y,h=>by simpa[Ot]using h
 |.mp _,x,y,h=>by simpa[Ot]using h
def zh4{Z:Type}(eq lt:Z->Z->Bool)(l:List Z):Bool:=C3 (λx=>C3 (λy=>lt x y||lt y x||eq x y) l) l
noncomputable def Nv(t:Ty)(Fc:t.den->t.den->Option Int)(l:List t.den):Option (List t.den):=
 cond (zhb Fc l&&zh4 (Ot t) (NH (Kr Fc)) l&&Nat.blt l.length 4611686018427387904) (some (Aw (NH (Kr Fc)) l)) none
end Go.Kz
namespace Go.Kz
open Go.Proofs Go.Sort Go.Shelf
structure BP (w:World) (b:Nat) (W:World):Prop where
 os:W.os=w.os
 tape:W.tape=w.tape
 output:W.output=w.output
 drawn:w.drawn<=W.drawn
 size:w.heap.size<=W.heap.size
 vE:∀k,k≠b->k<w.heap.size->W.heap[k]? = w.heap[k]?
structure z6o (P:Program) (f:FuncId) (agg:Bool) (k:Nat):Prop where
 Dv:∀args w,(callFunc f args).run P w=.ok (.enter f args) w
 nil:∀a cap fv w,Calls P f #[.slice a 0 cap,fv] w λe w'=>e=.returned (.tuple #[])/\w'=w
 run:∀(n:Nat) (_:Inhabited (Fin n)) (g:FuncId) (cb:Array Value) (enc:Fin n->List Value) (cf:Fin n->Fin n->Int) (b off cap:Nat) (c:Array Value) (e:TypeId) (w:World),
  (∀args w,(callFunc g args).run P w=.ok (.enter g args) w)->SWO (ltOf cf)->(∀x,(enc x).length=k)->(∀x,∀v∈enc x,v.oneCell'=true)->b<w.heap.size->n<4611686018427387904->
  w.heap[b]? = some (.cells c e (0,0))->off+n*k<=c.size->(∀i:Fin n,qS c.toList (off+i.1*k) k=enc i)->
  (∀W,BP w b W->∀x y,Calls P g (#[jh agg (enc x),jh agg (enc y)]++cb) W λe w'=>e=.returned (.int .i64 (cf x y))/\∃q os',w'=grow (W.drewN q) os')->
  Calls P f #[.slice (some ⟨b,off,none⟩) n cap,.func (.func g) #[] cb] w λe' w'=>e'=.returned (.tuple #[])/\BP w b w'/\
   ∃d:List (Fin n),d.Perm (List.finRange n)/\d.Pairwise (λx y=>ltOf cf y x=false)/\∃c',w'.heap[b]? = some (.cells c' e (0,0))/\c'.size=c.size/\∀(i:Nat)(h:i<d.length),qS c'.toList (off+i*k) k=enc (d.get ⟨i,h⟩)
section
variable {n:Nat} [Inhabited (Fin n)] {enc:Fin n->List Value}{k:Nat}{w:World}{b off:Nat}{c:Array Value}{e:TypeId}
theorem Ca(m:Nat)(d:Array (Fin n))(os:Array Go.Obj)(hb:b<w.heap.size):BP w b (sortWorldK enc k w b off m d os):=by
 have hw:(sortWorldK enc k w b off m d os).heap=(w.heap.modify b (onCells (putCells id off (flatK enc k d))))++os:=rfl;refine⟨rfl,rfl,rfl,Z4j _ _,?_,λj hj qk=>?_⟩
 ·rw[hw];simp
 ·rw[hw,Z43 (by simpa using qk),Array.getElem?_modify,qW (λh=>hj h.symm)]
theorem Si(m:Nat)(d:Array (Fin n))(os:Array Go.Obj)(hb:b<w.heap.size)(hc:w.heap[b]? = some (.cells c e (0,0))):(sortWorldK enc k w b off m d os).heap[b]? = some (.cells (putCells id off (flatK enc k d) c) e (0,0)):=by
 have hw:(sortWorldK enc k w b off m d os).heap=(w.heap.modify b (onCells (putCells id off (flatK enc k d))))++os:=rfl;rw[hw,Z43 (by simpa using hb),Array.getElem?_modify,yX rfl,hc];rfl
theorem Rm(hk:∀x,(enc x).length=k)(d:Array (Fin n))(hle:off+d.size*k<=c.size)(i:Nat)(hi:i<d.size):qS (putCells id off (flatK enc k d) c).toList (off+i*k) k=enc d[i]:=by
 have pe:(putCells id off (flatK enc k d) c).size=c.size:=by simp[putCells]
 have wU:off+i*k+k<=c.size:=by
  have:(i+1)*k<=d.size*k:=kn _ hi;rw[Nat.succ_mul]at this;omega
 have D4:(qS (putCells id off (flatK enc k d) c).toList (off+i*k) k).length=k:=yS (by rw[vl,pe];exact wU);have D3:(enc d[i]).length=k:=hk _;refine Z2o λq=>?_
 by_cases SG:q<k
 ·rw[O0 SG (by rw[pe];exact wU)];have hm:i*k+q<d.size*k:=by
   have:(i+1)*k<=d.size*k:=kn _ hi;rw[Nat.succ_mul]at this;omega
  have hdiv:(i*k+q)/k=i:=by
   rw[Z21,Nat.mul_add_div (by omega),Nat.div_eq_of_lt SG];rfl
  have zzc:(i*k+q)%k=q:=by
   rw[Z21,Nat.mul_add_mod,Nat.mod_eq_of_lt SG]
  have xX:off+(i*k+q)<c.size:=by omega
  rw[putCells,Array.getElem?_mapIdx,Z3d xX];simp only[Z2h,size_flatK];rw[yX ⟨by omega,by omega⟩];have es:off+(i*k+q)-off=i*k+q:=by omega
  rw[es,get_flatK _ _ _ _ hm,hdiv,zzc,Z3k d i hi];have h8:q<(enc d[i]).length:=by rw[hk];exact SG
  rw[Z3k (enc d[i]) q h8];exact(uX h8).symm
 ·rw[Z3i (by omega),Z3i (by omega)]
theorem holds_of(hk:∀x,(enc x).length=k)(hc:w.heap[b]? = some (.cells c e (0,0)))(hle:off+n*k<=c.size)(hs:∀i:Fin n,qS c.toList (off+i.1*k) k=enc i):HoldsK enc k w b off (List.finRange n).toArray:=by
 intro j hj;have Zy:j<n*k:=by simpa using hj
 have hp:0<k:=by
  rcases Z29 k with h|h
  ·rw[h]at Zy;simp at Zy
  ·exact h
 have hi:j/k<n:=by rw[Nat.div_lt_iff_lt_mul hp];exact Zy
 have hr:j%k<k:=Z2t _ hp;refine⟨?_,by simp[World.frozen?,hc]⟩;rw[get_flatK _ _ _ _ (by simpa using Zy)];have e1:((List.finRange n).toArray)[j/k]! = ⟨j/k,hi⟩:=by
  rw[Z3k _ _ (by simpa using hi)];simp
 have zjb:off+j/k*k+k<=c.size:=by
  have:(j/k+1)*k<=n*k:=kn _ hi;rw[Nat.succ_mul]at this;omega
 have h6:=O0 (c:=c) hr zjb;rw[hs ⟨j/k,hi⟩]at h6;have e2:j/k*k+j%k=j:=by rw[Z21];exact Z3u j k
 rw[e2]at h6;simp only[World.cell?,hc,Option.isSome_none,Z2a,TC];rw[<-h6];have h8:j%k<(enc ⟨j/k,hi⟩).length:=by rw[hk];exact hr
 simp only[e1,id];rw[Z3k (enc ⟨j/k,hi⟩) (j%k) h8];exact uX h8
theorem DS{cf:Fin n->Fin n->Int}(hk:∀x,(enc x).length=k)(hb:b<w.heap.size)(hc:w.heap[b]? = some (.cells c e (0,0)))(hle:off+n*k<=c.size){d':Array (Fin n)}{m:Nat}{os:Array Go.Obj}
  (hp:PermIn 0 (List.finRange n).toArray.size (List.finRange n).toArray d') (hs:SortedIn (ltOf cf) 0 (List.finRange n).toArray.size d'):BP w b (sortWorldK enc k w b off m d' os)/\
   ∃d:List (Fin n),d.Perm (List.finRange n)/\d.Pairwise (λx y=>ltOf cf y x=false)/\∃c',(sortWorldK enc k w b off m d' os).heap[b]? = some (.cells c' e (0,0))/\c'.size=c.size/\∀(i:Nat)(h:i<d.length),qS c'.toList (off+i*k) k=enc (d.get ⟨i,h⟩):=by
 obtain⟨h1,_,h2⟩:=hp;have Nt:d'.size=n:=by simpa using h1
 refine⟨Ca m d' os hb,d'.toList,?_,?_,_,Si m d' os hb hc,by simp[putCells],λi h=>?_⟩
 ·rw[<-h1,Array.extract_size,h1,Array.extract_size]at h2;simpa using h2
 ·rw[Z5b];intro i j hi hj Ze;have:=hs i j (jF _) Ze (by rw[<-h1];simpa using hj);rw[Z3k d' i (by simpa using hi),Z3k d' j (by simpa using hj)]at this;simpa using this
 ·have hi:i<d'.size:=by simpa using h
  rw[Rm hk d' (by rw[Nt];exact hle) i hi];simp
end
theorem Ds{n:Nat}[Inhabited (Fin n)](enc:Fin n->Value)(off:Nat)(d:Array (Fin n))(c:Array Value):putCells enc off d c=putCells id off (flatK (λx=>[enc x]) 1 d) c:=by
 simp only[putCells,size_flatK,TB];congr 1;funext j x;by_cases h:off<=j/\j<off+d.size
 ·rw[yX h,yX h,get_flatK _ _ _ _ (by omega),Nat.div_one,Nat.mod_one];rfl
 ·rw[qW h,qW h]
theorem Vq{n:Nat}[Inhabited (Fin n)](enc:Fin n->Value)(w:World)(b off m:Nat)(d:Array (Fin n))(os:Array Go.Obj):sortWorld enc w b off m d os=sortWorldK (λx=>[enc x]) 1 w b off m d os:=by
 have:putCells enc off d=putCells id off (flatK (λx=>[enc x]) 1 d):=funext λc=>Ds enc off d c
 simp only[sortWorld,sortWorldK,putRowK,putRow,this]
theorem LX{P:Program}{Y:Ren}(L:SlLaysF.n6 P Y):z6o P (Y.f 6) false 1:=by
 refine⟨L.f6.enters rfl,λa cap fv w=>AnyF.slices_SortFunc_none { L with } a cap fv w,λn inst g cb z5q cf b off cap c e w eg hO hk h1 hb qG hc hle hs zj6=>?_⟩;have xu:(List.finRange n).toArray.size=n:=by simp
 let enc:Fin n->Value:=λx=>(z5q x).headD undef
 have he:z5q=λx=>[enc x]:=funext λx=>by
  show z5q x=[(z5q x).headD undef];have:=hk x
  match h:z5q x with
  |[v]=>rfl
  |[]=>rw[h]at this;cases this
  |_::_::_=>rw[h]at this;simp at this
 have hH:=holds_of hk hc hle hs;rw[he]at hH;have h:=Any.slices_SortFunc L enc (λx=>h1 x _ (by rw[he];simp)) cf hO g cb b off cap (List.finRange n).toArray w eg (λm os dk _ x y=>by
   rw[Vq];exact zj6 _ (Ca m dk os hb) x y) (λj hj=>by
   have:=hH j (by simpa using hj);rw[get_flatK _ _ _ _ (by simpa using hj),Nat.div_one,Nat.mod_one]at this;exact this) hb (by rw[xu];exact qG)
 rw[xu]at h;refine Calls.mono h λe' w' SF=>?_
 obtain⟨rfl,d',m,os,hp,Nc,rfl⟩:=SF;rw[Vq,<-he];exact⟨rfl,DS hk hb hc hle (by rw[xu];exact hp) (by rw[xu];exact Nc)⟩
theorem zN.zke{w w':World}{g g':z8}(hr:zT w g w' g'){o o':C8}{t:Ty}{d:t.den}{cs:List Value}(ht:t.zG=true)(h:zN w g o t d cs):zN w' g' o' t d cs:=
 zN.yJ ht ((zN.yJ (o':=none) ht h).kept hr)
def VE(g:z8):z8:={ g with tag:=λb=>match g.tag b with
 |.ro=>.ro
 |_=>.zt }
theorem SZ{Z:Type}{cf:Z->Z->Int}{l:List Z}{eq:Z->Z->Bool}(he:∀x y,eq x y=true->x=y)(SU:Rj (NH cf) (·∈l))(zbg:zh4 eq (NH cf) l=true){d:List (Fin l.length)}(hp:d.Perm (List.finRange l.length))(hd:d.Pairwise (λx y=>ltOf (λa b=>cf (l.get a) (l.get b)) y x=false)):Aw (NH cf) l=d.map l.get:=by
 have hl:(List.finRange l.length).map l.get=l:=List.ext_getElem (by simp) λi h1 h2=>by simp
 have p1:(d.map l.get).Perm l:=by
  have:=hp.map l.get
  rwa [hl]at this
 refine(Mh (lt:=NH cf) (λx y hx hy hxy hyx=>?_) (p1.trans (xb _ l).symm) ?_ (Av SU l λy hy=>hy)).symm
 ·have Vd:=p1.mem_iff.1 hx;have hy':=p1.mem_iff.1 hy;simp only[zh4,BJ,FX]at zbg;rcases zbg x Vd y hy' with (h|h)|h
  ·rw[hxy]at h;cases h
  ·rw[hyx]at h;cases h
  ·exact he x y h
 ·unfold Asc;rw[List.pairwise_map];exact hd
theorem z0o{P:Program}{f:FuncId}{t:Ty}(qY:t.zG=true)(S:z6o P f t.sk.isAgg t.size){u:Ty}{q:gg}(cv:u.den->q.den)(hcv:∀w g d vs,u.zG=true->zN w g none u d vs->QP w g q (cv d) vs)
  {g:Nat} (eg:∀args w,(callFunc g args).run P w=.ok (.enter g args) w) {Fc:t.den×t.den×q.den->Option Int}
  (hc:qL P g (.pure (.pr (.val t) (.pr (.val t) q)) [.int .i64] Fc)) :
  qL P f (.mut ⟨[(0,.ref 0),(1,.val (.fn g u))],[.row t]⟩ [0] ⟨[(0,.ref 0)],[.row t]⟩ λd=>(Nv t (λx y=>Fc (x,y,cv d.1.2.1)) d.2.1).map λl=>(((),()),(l,()))):=by
 intro w g0 d vals r Au zj z43 hF;obtain⟨⟨d1,d2,d3⟩,l,u0⟩:=d;simp only[wO]at hF;obtain⟨l',SA,rfl⟩:=hF;replace SA:Nv t (λx y=>Fc (x,y,cv d2)) l=some l':=SA;unfold Nv at SA;replace SA:=j9 SA;obtain⟨hb,SA⟩:=SA;simp only[zI]at SA;simp only[zA]at hb;obtain⟨⟨Ky,zbg⟩,hb3⟩:=hb;obtain⟨SU,q02⟩:=za9 Ky;have qG:l.length<4611686018427387904:=zL hb3
 match vals,Au with
 |[v0,v1],_=>
 obtain⟨u0,hu0,Tk⟩:=zj.zk 0 (.ref 0 [] 0) rfl;obtain⟨u1,FV,SY⟩:=zj.zk 1 (.data (.fn g u) d2) rfl;simp at hu0 FV;subst hu0;subst FV;have wy:=zj.heap.z6 0 (.row t l 0) rfl;obtain⟨_,a,cap,yZ,Pb,h1,h2,h3⟩:=wy;simp only[zm]at Tk;obtain⟨cs,⟨v,rfl,_,hx⟩,Tk⟩:=Tk;have zp3:v0=g0.sv 0 []:=by rw[Tk];exact(hx t l 0 rfl).2 rfl
 obtain⟨hru,cs1,⟨vs1,zy4,uW⟩,SY⟩:=z02 SY;have zpl:u.zG=true:=by simpa[Ty.zG]using hru
 subst zy4;have zya:v1=.func (.func g) #[] vs1.toArray:=SY;rw[Pb]at zp3;subst zp3;subst zya;left;refine⟨S.Dv _ _,?_⟩;have hlen:l'.length=l.length:=by rw[<-SA];exact(xb _ l).length_eq
 have fin:∀w',Ext w g0 w' g0->zN w' g0 (some (0,[])) (.sl true t) l' [g0.sv 0 []]->
   ∃v,Ending.returned (.tuple #[])=.returned v/\∃g',Ext w g0 w' g'/\yC w' g' (zR [Obj.row t l' 0])/\
    (∀k i av,zR [0] k=some i->zR [z7.ref 0 [] 0] k=some av->∃u,[Value.slice a l.length cap,.func (.func g) #[] vs1.toArray][i]? = some u/\zm w' g' (zR [Obj.row t l' 0]) av u)/\
    zm w' g' (zR [Obj.row t l' 0]) (gJ []) v:=by
  intro w' hE hR;refine⟨.tuple #[],rfl,g0,hE,⟨λid o ho=>?_,λb hb=>Z2r (zj.heap.tags b hb) hE.size⟩,λk i av hk Pr=>?_,?_⟩
  ·cases id with
   |zero=>
    simp only[zR,zI]at ho;subst ho
    exact⟨qY,hR⟩
   |succ id=>simp[zR]at ho
  ·cases k with
   |zero=>
    simp only[zR,zI]at hk Pr;subst hk;subst Pr;refine⟨.slice a l.length cap,rfl,?_⟩;simp only[zm]
    refine⟨[.slice a l.length cap],⟨_,rfl,rfl,λt' l2 e ho=>⟨jF _,λ_=>Pb.symm⟩⟩,rfl⟩
   |succ k=>simp[zR]at hk
  ·simp only[gJ,zm];exact⟨[],rfl,by simp[vw,qx]⟩
 by_cases Pl:l=[]
 ·have D3:l'=[]:=by rw[<-SA,Pl];rfl
  subst Pl;refine Calls.mono (S.nil a cap _ w) λe w' he=>?_
  obtain⟨rfl,rfl⟩:=he;refine fin w' (Ext.refl _ _) ?_;rw[D3];exact⟨a,cap,yZ,Pb,h1,h2,h3⟩
 ·rcases h3 with⟨_,h3,_⟩|⟨b,off,c,e,ha,Qo,zZ,hle,ja⟩
  ·exact absurd h3 Pl
  ·have hblk:b<w.heap.size:=zj.heap.tags b (by rw[Qo];simp);have inst:Inhabited (Fin l.length):=⟨⟨0,Z3s.2 Pl⟩⟩;have TJ:∀W,BP w b W->zT w g0 W (VE g0):=λW hN=>⟨λj hj=>⟨by simp[VE,hj],hN.vE j (λh=>by subst h;rw[Qo]at hj;cases hj) (zj.heap.tags j (by rw[hj];simp))⟩⟩
   have q0q:∀W,BP w b W->zT w g0 W g0:=λW hN=>⟨λj hj=>⟨hj,hN.vE j (λh=>by subst h;rw[Qo]at hj;cases hj) (zj.heap.tags j (by rw[hj];simp))⟩⟩
   have zj6:∀W,BP w b W->∀x y:Fin l.length,Calls P g (#[jh t.sk.isAgg (qS c.toList (off+x.1*t.size) t.size),jh t.sk.isAgg (qS c.toList (off+y.1*t.size) t.size)]++vs1.toArray) W λe w'=>e=.returned (.int .i64 (Kr (λx y=>Fc (x,y,cv d2)) (l.get x) (l.get y)))/\∃q os',w'=grow (W.drewN q) os':=by
    intro W hN x y;have hr:∀x:Fin l.length,∃cs,zN W (VE g0) none t (l.get x) cs/\jh t.sk.isAgg (qS c.toList (off+x.1*t.size) t.size)=jh t.sk.isAgg cs:=λx=>⟨_,zN.zke (TJ W hN) qY (ja x.1 x.2),rfl⟩
    have:=hc W (VE g0) (l.get x,l.get y,cv d2) (jh t.sk.isAgg (qS c.toList (off+x.1*t.size) t.size)::jh t.sk.isAgg (qS c.toList (off+y.1*t.size) t.size)::vs1) _ (λj hj=>by
     cases he:g0.tag j with
     |ro=>exact⟨by simp[VE,he],Z2r (zj.heap.tags j (by rw[he];simp)) hN.size⟩
     |_=>exact absurd (by simp[VE,he]) hj) (Known.kept (TJ W hN) zj.known) ⟨qY,hr x,qY,hr y,hcv _ _ _ _ zpl (zN.zke (TJ W hN) zpl uW)⟩ (q02 _ (Z27 l x) _ (Z27 l y))
    rcases this with⟨_,h⟩|⟨v,w',h,_⟩
    ·have ea:(#[jh t.sk.isAgg (qS c.toList (off+x.1*t.size) t.size),jh t.sk.isAgg (qS c.toList (off+y.1*t.size) t.size)]++vs1.toArray)=(jh t.sk.isAgg (qS c.toList (off+x.1*t.size) t.size)::jh t.sk.isAgg (qS c.toList (off+y.1*t.size) t.size)::vs1).toArray:=by simp
     rw[ea];refine Calls.mono h λe w' he=>?_
     obtain⟨v,rfl,g',qf,Ve⟩:=he;have hv:=(jL Ve.2).1;refine⟨by rw[hv],?_⟩;exact grown_of qf.os qf.tape qf.output qf.drawn qf.size λj hj=>(qf.vE j hj (by
      cases he:g0.tag j<;>simp[VE,he])).1
    ·rw[eg]at h;cases h
   have Ky:off+l.length*t.size<=c.size:=Z1n (Nat.add_le_add_left (kn _ h1) _) hle;have zpd:=S.run l.length inst g vs1.toArray (λi=>qS c.toList (off+i.1*t.size) t.size) (λx y=>Kr (λx y=>Fc (x,y,cv d2)) (l.get x) (l.get y)) b off cap c e w eg
    ⟨λx=>SU.irrefl _ (Z27 l x),λx y z=>SU.trans _ _ _ (Z27 l x) (Z27 l y) (Z27 l z),λx y z=>SU.ntrans _ _ _ (Z27 l x) (Z27 l y) (Z27 l z)⟩
    (λx=>(ja x.1 x.2).len) (λx=>(ja x.1 x.2).one) hblk qG zZ Ky (λ_=>rfl) zj6
   rw[ha];refine Calls.mono zpd λe' w' he=>?_
   obtain⟨rfl,hN,d,hp,hd,c',Gm,pe,zbh⟩:=he;have zbk:l'=d.map l.get:=by rw[<-SA];exact SZ (W7 t) SU zbg hp hd
   have hre:=fin w' ⟨hN.os,hN.tape,hN.output,hN.drawn,hN.size,λj hj hjt=>⟨hN.vE j (λhe=>by subst he;rw[Qo]at hjt;simp at hjt) hj,rfl⟩⟩ ?_
   ·rw[ha]at hre;exact hre
   ·refine⟨a,cap,by rw[Pb,hlen],by rw[Pb,hlen],by rw[hlen];exact h1,h2,.inr ⟨b,off,c',e,ha,Qo,Gm,by rw[pe];exact hle,λi hi=>?_⟩⟩;have QC:i<d.length:=by rw[zbk]at hi;simpa using hi
    rw[zbh i QC];have hx:l'.get ⟨i,hi⟩=l.get (d.get ⟨i,QC⟩):=by
     subst zbk;simp
    rw[hx];exact zN.zke (q0q w' hN) qY (ja (d.get ⟨i,QC⟩).1 (d.get ⟨i,QC⟩).2)
theorem zdc{t:Ty}(ht:t.sk.isAgg=false)(w:World)(g:z8)(d:(Ty.pair t .unit).den)(vs:List Value)(hr:(Ty.pair t .unit).zG=true)(h:zN w g none (.pair t .unit) d vs)(hs:t.size=1):QP w g (.pr (.val t) .un) d vs:=by
 obtain⟨x,⟨⟩⟩:=d;obtain⟨c1,c2,rfl,h1,h2⟩:=h;have:c2=[]:=h2;subst this;have hl:c1.length=1:=h1.len.trans hs
 match c1,hl with
 |[v],_=>
  simp only[Ty.zG,zA]at hr;exact⟨hr.1,⟨[v],h1,by rw[ht];rfl⟩,trivial⟩
end Go.Kz
