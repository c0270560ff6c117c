/-
  Sorting lists by a comparison: what slices.SortFunc leaves, in plain data.
-/
import Derived.Test.YtmoggdcmpoobpaaGreatDoorKzAM
import Derived.Shelf.SlSortCmp.WholeK
import Derived.Shelf.SlSortCmp.NoneTotal
import Derived.Test.YtmoggdcmpoobpaaGreatDoorKzAR
set_option linter.unusedVariables false
set_option linter.unusedSimpArgs false
namespace Go.Kz
open Go.Proofs Go.Sort
def OU {Z:Type} (lt:Z->Z->Bool) (x:Z):List Z->List Z
 | []=>[x]
 | y :: l=>cond (lt y x) (y :: OU lt x l) (x :: y :: l)
def Kr {Z:Type} (lt:Z->Z->Bool):List Z->List Z
 | []=>[]
 | x :: l=>OU lt x (Kr lt l)
structure Cz {Z:Type} (lt:Z->Z->Bool) (p:Z->Prop):Prop where
 irrefl:∀ x,p x->lt x x=false
 trans:∀ x y z,p x->p y->p z->lt x y=true->lt y z=true->lt x z=true
 ntrans:∀ x y z,p x->p y->p z->lt x y=false->lt y z=false->lt x z=false
def Asc {Z:Type} (lt:Z->Z->Bool):List Z->Prop:=List.Pairwise fun x y=>lt y x=false
theorem G0 {Z:Type} (lt:Z->Z->Bool) (x:Z):(l:List Z)->(OU lt x l).Perm (x :: l)
 | []=>List.Perm.refl _
 | y :: l=>by
  simp only [OU]
  cases lt y x with
  | true=>exact ((G0 lt x l).cons y).trans (List.Perm.swap x y l)
  | false=>exact List.Perm.refl _
theorem pj {Z:Type} (lt:Z->Z->Bool):(l:List Z)->(Kr lt l).Perm l
 | []=>List.Perm.refl _
 | x :: l=>(G0 lt x _).trans ((pj lt l).cons x)
theorem Fg {Z:Type} {lt:Z->Z->Bool} {p:Z->Prop} (h:Cz lt p) {x:Z} (hx:p x):{l:List Z}->(∀ y∈l,p y)->Asc lt l->Asc lt (OU lt x l)
 | [],_,_=>List.pairwise_singleton _ _
 | y :: l,hp,ha=>by
  have ha':=Z5f.1 ha;simp only [OU]
  cases hyx:lt y x with
  | true=>
   refine Z5f.2 ⟨fun z hz=>?_,Fg h hx (fun z hz=>hp z (by simp [hz])) ha'.2⟩;rcases gX.1 ((G0 lt x l).mem_iff.1 hz) with rfl | hz
   ·cases hxy:lt z y with
    | false=>rfl
    | true=>
     have:=h.trans y z y (hp y (by simp)) hx (hp y (by simp)) hyx hxy;rw [h.irrefl y (hp y (by simp))] at this;cases this
   ·exact ha'.1 z hz
  | false=>
   refine Z5f.2 ⟨fun z hz=>?_,ha⟩;rcases gX.1 hz with rfl | hz
   ·exact hyx
   ·exact h.ntrans z y x (hp z (by simp [hz])) (hp y (by simp)) hx (ha'.1 z hz) hyx
theorem X1 {Z:Type} {lt:Z->Z->Bool} {p:Z->Prop} (h:Cz lt p):(l:List Z)->(∀ y∈l,p y)->Asc lt (Kr lt l)
 | [],_=>List.Pairwise.nil
 | x :: l,hp=>Fg h (hp x (by simp)) (fun y hy=>hp y (LZ _ ((pj lt l).mem_iff.1 hy))) (X1 h l (fun y hy=>hp y (by simp [hy])))
theorem Lj {Z:Type} {lt:Z->Z->Bool} {l m:List Z} (hs:∀ x y,x∈l->y∈l->lt x y=false->lt y x=false->x=y) (hp:l.Perm m) (hl:Asc lt l) (hm:Asc lt m):l=m:=by
 refine List.Perm.eq_of_pairwise (le:=fun x y=>lt y x=false) (fun a b ha hb h1 h2=>?_) hl hm hp;exact hs a b ha (hp.mem_iff.2 hb) h2 h1
def Py {Z:Type} (cf:Z->Z->Int) (x y:Z):Bool:=decide (cf x y < 0)
end Go.Kz
namespace Go.Kz
open Go.Proofs Go.Sort Go.Shelf
def uk {Z:Type} (Fc:Z->Z->Option Int) (x y:Z):Int:=(Fc x y).getD 0
def AI {Z:Type} (p:Z->Bool):List Z->Bool
 | []=>true
 | x :: l=>p x && AI p l
theorem Zz {Z:Type} {p:Z->Bool}:{l:List Z}->(AI p l=true↔∀ x∈l,p x=true)
 | []=>by simp [AI]
 | x :: l=>by simp [AI,Zz (l:=l)]
def Oq {Z:Type} (Fc:Z->Z->Option Int) (l:List Z):Bool:=
 AI (fun x=>AI (fun y=>(Fc x y).isSome) l && !Py (uk Fc) x x && AI (fun y=>AI (fun z=>(!(Py (uk Fc) x y && Py (uk Fc) y z) || Py (uk Fc) x z) && (Py (uk Fc) x y || Py (uk Fc) y z || !Py (uk Fc) x z)) l) l) l
theorem z5n {Z:Type} {Fc:Z->Z->Option Int} {l:List Z} (h:Oq Fc l=true):Cz (Py (uk Fc)) (·∈l)/\∀ x∈l,∀ y∈l,Fc x y=some (uk Fc x y):=by
 simp only [Oq,Zz,zA,A1] at h;refine ⟨⟨fun x hx=>(h x hx).1.2,fun x y z hx hy hz h1 h2=>?_,fun x y z hx hy hz h1 h2=>?_⟩,fun x hx y hy=>?_⟩
 ·have:=((h x hx).2 y hy z hz).1;rw [h1,h2] at this;simpa using this
 ·have:=((h x hx).2 y hy z hz).2;rw [h1,h2] at this;simpa using this
 ·have:=(h x hx).1.1 y hy;rw [Z3a] at this;obtain ⟨v,hv⟩:=this;simp [uk,hv]
theorem z5o {Z:Type} {Fc:Z->Z->Option Int} {l:List Z} (h:Cz (Py (uk Fc)) (·∈l)) (hs:∀ x∈l,∀ y∈l,(Fc x y).isSome=true):Oq Fc l=true:=by
 simp only [Oq,Zz,zA,A1];refine fun x hx=>⟨⟨fun y hy=>hs x hx y hy,h.irrefl x hx⟩,fun y hy z hz=>⟨?_,?_⟩⟩
 ·cases h1:Py (uk Fc) x y <;> cases h2:Py (uk Fc) y z <;> simp;exact h.trans x y z hx hy hz h1 h2
 ·cases h1:Py (uk Fc) x y <;> cases h2:Py (uk Fc) y z <;> simp;exact h.ntrans x y z hx hy hz h1 h2
theorem RH {w:World} {g:z8} {z6:qk} {t:Ty} {d:t.den} {v:Value} (h:zl w g z6 (.data t d) v):t.zV=true/\∃ cs,zC w g none t d cs/\v=jA t.sk.isAgg cs:=by
 simp only [zl] at h;obtain ⟨cs,⟨h1,h2⟩,h3⟩:=h;exact ⟨h1,cs,h2,h3⟩
theorem grown_of {w w':World} (ho:w'.os=w.os) (ht:w'.tape=w.tape) (hp:w'.output=w.output) (hd:w.drawn<=w'.drawn) (hs:w.heap.size<=w'.heap.size) (hk:∀ b,b < w.heap.size->w'.heap[b]? = w.heap[b]?) :
  ∃ q os',w'=grow (w.drewN q) os':=by
 refine ⟨w'.drawn-w.drawn,w'.heap.extract w.heap.size w'.heap.size,?_⟩;have hh:w'.heap=w.heap++w'.heap.extract w.heap.size w'.heap.size:=by
  apply Array.ext
  ·simp;omega
  ·intro i h1 h2;by_cases hi:i < w.heap.size
   ·have:=hk i hi;rw [Z3d h1,Z3d hi] at this;simp only [zI] at this;rw [this,Array.getElem_append_left hi]
   ·rw [Array.getElem_append_right (by omega)];simp;congr 1;omega
 cases w with
 | mk h t d o p=>
  cases w' with
  | mk h' t' d' o' p'=>
   simp only at ho ht hp hd hs hh;subst ho;subst ht;subst hp;simp only [grow,World.drewN,World.mk.injEq,Ds,VL];exact ⟨hh,by omega⟩
theorem MJ {c:Array Value} {off k j r:Nat} (hr:r < k) (h:off+j*k+k<=c.size):(qB c.toList (off+j*k) k)[r]? = c[off+(j*k+r)]? := by
 simp only [qB];rw [List.getElem?_take_of_lt hr,Z27,Z22];congr 1;omega
end Go.Kz
namespace Go.Kz
open Go.Proofs Go.Sort Go.Shelf
noncomputable def Ba:(t:Ty)->t.den->t.den->Bool
 | .int _,a,b=>decide (a=b)
 | .bool,a,b=>a == b
 | .str,a,b=>decide (a=b)
 | .unit,_,_=>true
 | .pair a b,(x,u),(y,v)=>Ba a x y && Ba b u v
 | .arr _ t,x,y=>wA (Ba t) x y
 | .sl _ t,x,y=>wA (Ba t) x y
 | .ptr t,x,y=>Ba t x y
 | .fn _ t,x,y=>Ba t x y
 | .tree _,x,y=>@decide (x=y) (Classical.propDecidable _)
theorem Km {I:Type} {f:I->I->Bool} (hf:∀ x y,f x y=true->x=y):{l m:List I}->wA f l m=true->l=m
 | [],[],_=>rfl
 | x :: l,y :: m,h=>by
  simp only [wA] at h
  cases hb:f x y with
  | false=>rw [hb] at h;simp at h
  | true=>
   rw [hb] at h
   rw [hf x y hb,Km hf h]
 | [],_ :: _,h=>by simp [wA] at h
 | _ :: _,[],h=>by simp [wA] at h
theorem VX:(t:Ty)->(x y:t.den)->Ba t x y=true->x=y
 | .int _,a,b,h=>by simpa [Ba] using h
 | .bool,a,b,h=>by simpa [Ba] using h
 | .str,a,b,h=>by simpa [Ba] using h
 | .unit,_,_,_=>rfl
 | .pair a b,(x,u),(y,v),h=>by
  simp only [Ba,zA] at h
  rw [VX a x y h.1,VX b u v h.2]
 | .arr _ t,x,y,h=>Km (VX t) h
 | .sl _ t,x,y,h=>Km (VX t) h
 | .ptr t,x,y,h=>VX t x y h
 | .fn _ t,x,y,h=>VX t x y h
 | .tree _,x,y,h=>by simpa [Ba] using h
theorem QS {I:Type} {f:I->I->Bool} (hf:∀ x,f x x=true):(l:List I)->wA f l l=true
 | []=>rfl
 | x :: l=>by simp only [wA,hf x,zD];exact QS hf l
theorem uR:(t:Ty)->(x:t.den)->Ba t x x=true
 | .int _,a=>by simp [Ba]
 | .bool,a=>by simp [Ba]
 | .str,a=>by simp [Ba]
 | .unit,_=>rfl
 | .pair a b,(x,u)=>by simp only [Ba,uR a x,uR b u,Bool.and_self]
 | .arr _ t,x=>QS (uR t) x
 | .sl _ t,x=>QS (uR t) x
 | .ptr t,x=>uR t x
 | .fn _ t,x=>uR t x
 | .tree _,x=>by simp [Ba]
def S4 {Z:Type} (eq lt:Z->Z->Bool) (l:List Z):Bool:=AI (fun x=>AI (fun y=>lt x y || lt y x || eq x y) l) l
noncomputable def U6 (t:Ty) (Fc:t.den->t.den->Option Int) (l:List t.den):Option (List t.den):=
 cond (Oq Fc l && S4 (Ba t) (Py (uk Fc)) l && Nat.blt l.length 4611686018427387904) (some (Kr (Py (uk Fc)) l)) none
end Go.Kz
namespace Go.Kz
open Go.Proofs Go.Sort Go.Shelf
structure A2 (w:World) (b:Nat) (W:World):Prop where
 os:W.os=w.os
 tape:W.tape=w.tape
 output:W.output=w.output
 drawn:w.drawn<=W.drawn
 size:w.heap.size<=W.heap.size
 vj:∀ k,k≠b->k < w.heap.size->W.heap[k]? = w.heap[k]?
structure LW (P:Program) (f:FuncId) (agg:Bool) (k:Nat):Prop where
 ent:∀ args w,(callFunc f args).run P w = .ok (.enter f args) w
 nil:∀ a cap fv w,Calls P f #[.slice a 0 cap,fv] w fun e w'=>e = .returned (.tuple #[])/\w'=w
 run:∀ (n:Nat) (_:Inhabited (Fin n)) (g:FuncId) (cb:Array Value) (enc:Fin n->List Value) (cf:Fin n->Fin n->Int) (b off cap:Nat) (c:Array Value) (e:TypeId) (w:World),
  (∀ args w,(callFunc g args).run P w = .ok (.enter g args) w)->SWO (ltOf cf)->(∀ x,(enc x).length=k)->(∀ x,∀ v∈enc x,v.oneCell'=true)->b < w.heap.size->n < 4611686018427387904->
  w.heap[b]? = some (.cells c e (0,0))->off+n*k<=c.size->(∀ i:Fin n,qB c.toList (off+i.1*k) k=enc i)->
  (∀ W,A2 w b W->∀ x y,Calls P g (#[jA agg (enc x),jA agg (enc y)]++cb) W fun e w'=>e = .returned (.int .i64 (cf x y))/\∃ q os',w'=grow (W.drewN q) os')->
  Calls P f #[.slice (some ⟨b,off,none⟩) n cap,.func (.func g) #[] cb] w fun e' w'=>e' = .returned (.tuple #[])/\A2 w b w'/\
   ∃ d:List (Fin n),d.Perm (List.finRange n)/\d.Pairwise (fun x y=>ltOf cf y x=false)/\∃ c',w'.heap[b]? = some (.cells c' e (0,0))/\c'.size=c.size/\∀ (i:Nat) (h:i < d.length),qB c'.toList (off+i*k) k=enc (d.get ⟨i,h⟩)
section
variable {n:Nat} [Inhabited (Fin n)] {enc:Fin n->List Value} {k:Nat} {w:World} {b off:Nat} {c:Array Value} {e:TypeId}
theorem Ke (m:Nat) (d:Array (Fin n)) (os:Array Go.Obj) (hb:b < w.heap.size):A2 w b (sortWorldK enc k w b off m d os):=by
 have hw:(sortWorldK enc k w b off m d os).heap=(w.heap.modify b (onCells (putCells id off (flatK enc k d))))++os:=rfl;refine ⟨rfl,rfl,rfl,Z43 _ _,?_,fun j hj qJ=>?_⟩
 ·rw [hw];simp
 ·rw [hw,Z41 (by simpa using qJ),Array.getElem?_modify,qQ (fun h=>hj h.symm)]
theorem Ol (m:Nat) (d:Array (Fin n)) (os:Array Go.Obj) (hb:b < w.heap.size) (hc:w.heap[b]? = some (.cells c e (0,0))):(sortWorldK enc k w b off m d os).heap[b]? = some (.cells (putCells id off (flatK enc k d) c) e (0,0)):=by
 have hw:(sortWorldK enc k w b off m d os).heap=(w.heap.modify b (onCells (putCells id off (flatK enc k d))))++os:=rfl;rw [hw,Z41 (by simpa using hb),Array.getElem?_modify,yW rfl,hc];rfl
theorem O0 (hk:∀ x,(enc x).length=k) (d:Array (Fin n)) (hle:off+d.size*k<=c.size) (i:Nat) (hi:i < d.size):qB (putCells id off (flatK enc k d) c).toList (off+i*k) k=enc d[i]:=by
 have pN:(putCells id off (flatK enc k d) c).size=c.size:=by simp [putCells]
 have vT:off+i*k+k<=c.size:=by
  have:(i+1)*k<=d.size*k:=kj _ hi;rw [Nat.succ_mul] at this;omega
 have II:(qB (putCells id off (flatK enc k d) c).toList (off+i*k) k).length=k:=yV (by rw [vX,pN];exact vT);have BM:(enc d[i]).length=k:=hk _;refine Z2z fun q=>?_
 by_cases HS:q < k
 ·rw [MJ HS (by rw [pN];exact vT)];have hm:i*k+q < d.size*k:=by
   have:(i+1)*k<=d.size*k:=kj _ hi;rw [Nat.succ_mul] at this;omega
  have hdiv:(i*k+q) / k=i:=by
   rw [Z24,Nat.mul_add_div (by omega),Nat.div_eq_of_lt HS];rfl
  have ztp:(i*k+q) % k=q:=by
   rw [Z24,Nat.mul_add_mod,Z5g HS]
  have Qv:off+(i*k+q) < c.size:=by omega
  rw [putCells,Array.getElem?_mapIdx,Z3d Qv];simp only [Z2o,size_flatK];rw [yW ⟨by omega,by omega⟩];have es:off+(i*k+q)-off=i*k+q:=by omega
  rw [es,get_flatK _ _ _ _ hm,hdiv,ztp,Z3j d i hi];have h8:q < (enc d[i]).length:=by rw [hk];exact HS
  rw [Z3j (enc d[i]) q h8];exact (gj h8).symm
 ·rw [Z3i (by omega),Z3i (by omega)]
theorem holds_of (hk:∀ x,(enc x).length=k) (hc:w.heap[b]? = some (.cells c e (0,0))) (hle:off+n*k<=c.size) (hs:∀ i:Fin n,qB c.toList (off+i.1*k) k=enc i):HoldsK enc k w b off (List.finRange n).toArray:=by
 intro j hj;have v7:j < n*k:=by simpa using hj
 have hp:0 < k:=by
  rcases Z3v k with h | h
  ·rw [h] at v7;simp at v7
  ·exact h
 have hi:j / k < n:=by rw [Nat.div_lt_iff_lt_mul hp];exact v7
 have hr:j % k < k:=Z2w _ hp;refine ⟨?_,by simp [World.frozen?,hc]⟩;rw [get_flatK _ _ _ _ (by simpa using v7)];have e1:((List.finRange n).toArray)[j / k]! = ⟨j / k,hi⟩:=by
  rw [Z3j _ _ (by simpa using hi)];simp
 have zf8:off+j / k*k+k<=c.size:=by
  have:(j / k+1)*k<=n*k:=kj _ hi;rw [Nat.succ_mul] at this;omega
 have h6:=MJ (c:=c) hr zf8;rw [hs ⟨j / k,hi⟩] at h6;have e2:j / k*k+j % k=j:=by rw [Z24];exact Z3x j k
 rw [e2] at h6;simp only [World.cell?,hc,Z5h,Z25,Lp];rw [<-h6];have h8:j % k < (enc ⟨j / k,hi⟩).length:=by rw [hk];exact hr
 simp only [e1,id];rw [Z3j (enc ⟨j / k,hi⟩) (j % k) h8];exact gj h8
theorem Vh {cf:Fin n->Fin n->Int} (hk:∀ x,(enc x).length=k) (hb:b < w.heap.size) (hc:w.heap[b]? = some (.cells c e (0,0))) (hle:off+n*k<=c.size) {d':Array (Fin n)} {m:Nat} {os:Array Go.Obj}
  (hp:PermIn 0 (List.finRange n).toArray.size (List.finRange n).toArray d') (hs:SortedIn (ltOf cf) 0 (List.finRange n).toArray.size d'):A2 w b (sortWorldK enc k w b off m d' os)/\
   ∃ d:List (Fin n),d.Perm (List.finRange n)/\d.Pairwise (fun x y=>ltOf cf y x=false)/\∃ c',(sortWorldK enc k w b off m d' os).heap[b]? = some (.cells c' e (0,0))/\c'.size=c.size/\∀ (i:Nat) (h:i < d.length),qB c'.toList (off+i*k) k=enc (d.get ⟨i,h⟩):=by
 obtain ⟨h1,_,h2⟩:=hp;have MY:d'.size=n:=by simpa using h1
 refine ⟨Ke m d' os hb,d'.toList,?_,?_,_,Ol m d' os hb hc,by simp [putCells],fun i h=>?_⟩
 ·rw [<-h1,Array.extract_size,h1,Array.extract_size] at h2;simpa using h2
 ·rw [Z4s];intro i j hi hj ZI;have:=hs i j (jE _) ZI (by rw [<-h1];simpa using hj);rw [Z3j d' i (by simpa using hi),Z3j d' j (by simpa using hj)] at this;simpa using this
 ·have hi:i < d'.size:=by simpa using h
  rw [O0 hk d' (by rw [MY];exact hle) i hi];simp
end
theorem I2 {P:Program} {Y:Ren} (L:SlLaysF0.n6 P Y) {k:Nat} (aE:∀ w,(isAgg (Y.t 24)).run P w = .ok true w) (zE:∀ w,(Go.sizeOf (Y.t 24)).run P w = .ok k w):LW P (Y.f 6) true k:=by
 refine ⟨L.f6.enters rfl,fun a cap fv w=>AnyF.slices_SortFunc_none L a cap fv w,fun n inst g cb enc cf b off cap c e w eg hO hk h1 hb qK hc hle hs z01=>?_⟩;have gJ:(List.finRange n).toArray.size=n:=by simp
 have h:=AnyQ.slices_SortFunc L k aE zE enc hk h1 cf hO g cb b off cap (List.finRange n).toArray w eg (fun m os dk _ x y=>z01 _ (Ke m dk os hb) x y) (holds_of hk hc hle hs) hb (by rw [gJ];exact qK);rw [gJ] at h;refine Calls.mono h fun e' w' he=>?_
 obtain ⟨rfl,d',m,os,hp,Ep,rfl⟩:=he;exact ⟨rfl,Vh hk hb hc hle (by rw [gJ];exact hp) (by rw [gJ];exact Ep)⟩
theorem CX {n:Nat} [Inhabited (Fin n)] (enc:Fin n->Value) (off:Nat) (d:Array (Fin n)) (c:Array Value):putCells enc off d c=putCells id off (flatK (fun x=>[enc x]) 1 d) c:=by
 simp only [putCells,size_flatK,Z2a];congr 1;funext j x;by_cases h:off<=j/\j < off+d.size
 ·rw [yW h,yW h,get_flatK _ _ _ _ (by omega),Nat.div_one,Nat.mod_one];rfl
 ·rw [qQ h,qQ h]
theorem JE {n:Nat} [Inhabited (Fin n)] (enc:Fin n->Value) (w:World) (b off m:Nat) (d:Array (Fin n)) (os:Array Go.Obj):sortWorld enc w b off m d os=sortWorldK (fun x=>[enc x]) 1 w b off m d os:=by
 have:putCells enc off d=putCells id off (flatK (fun x=>[enc x]) 1 d):=funext fun c=>CX enc off d c
 simp only [sortWorld,sortWorldK,putRowK,putRow,this]
theorem I1 {P:Program} {Y:Ren} (L:SlLaysF.n6 P Y):LW P (Y.f 6) false 1:=by
 refine ⟨L.f6.enters rfl,fun a cap fv w=>AnyF.slices_SortFunc_none { L with } a cap fv w,fun n inst g cb z1d cf b off cap c e w eg hO hk h1 hb qK hc hle hs z01=>?_⟩;have gJ:(List.finRange n).toArray.size=n:=by simp
 let enc:Fin n->Value:=fun x=>(z1d x).headD undef
 have he:z1d=fun x=>[enc x]:=funext fun x=>by
  show z1d x=[(z1d x).headD undef];have:=hk x
  match h:z1d x with
  | [v]=>rfl
  | []=>rw [h] at this;cases this
  | _ :: _ :: _=>rw [h] at this;simp at this
 have hH:=holds_of hk hc hle hs;rw [he] at hH;have h:=Any.slices_SortFunc L enc (fun x=>h1 x _ (by rw [he];simp)) cf hO g cb b off cap (List.finRange n).toArray w eg (fun m os dk _ x y=>by
   rw [JE];exact z01 _ (Ke m dk os hb) x y) (fun j hj=>by
   have:=hH j (by simpa using hj);rw [get_flatK _ _ _ _ (by simpa using hj),Nat.div_one,Nat.mod_one] at this;exact this) hb (by rw [gJ];exact qK)
 rw [gJ] at h;refine Calls.mono h fun e' w' OO=>?_
 obtain ⟨rfl,d',m,os,hp,Ep,rfl⟩:=OO;rw [JE,<-he];exact ⟨rfl,Vh hk hb hc hle (by rw [gJ];exact hp) (by rw [gJ];exact Ep)⟩
theorem zC.R2 {w w':World} {g g':z8} (hr:zO w g w' g'):{o o':AR}->{t:Ty}->{d:t.den}->{cs:List Value}->t.zV=true->zC w g o t d cs->zC w' g' o' t d cs
 | _,_,.int _,_,_,_,h=>h
 | _,_,.bool,_,_,_,h=>h
 | _,_,.str,_,_,_,h=>h
 | _,_,.unit,_,_,_,h=>h
 | _,_,.pair a b,(x,y),_,ht,h=>by
  obtain ⟨c1,c2,rfl,h1,h2⟩:=h;simp only [Ty.zV,zA] at ht
  exact ⟨c1,c2,rfl,zC.R2 hr ht.1 h1,zC.R2 hr ht.2 h2⟩
 | _,_,.arr n t,_,_,ht,h=>⟨h.1,h.2.1,fun i hi=>zC.R2 hr (by simpa [Ty.zV] using ht) (h.2.2 i hi)⟩
 | _,_,.sl false t,l,_,_,h=>by
  obtain ⟨a,cap,rfl,h1,h2,h3⟩:=h;refine ⟨a,cap,rfl,h1,h2,fun hn=>?_⟩;obtain ⟨b,off,c,e,fz,ha,ht,hb,hs,he⟩:=h3 hn;have hk:=hr.zt b ht
  exact ⟨b,off,c,e,fz,ha,hk.1,hk.2.trans hb,hs,fun i hi=>zC.kept hr (he i hi)⟩
 | _,_,.sl true _,_,_,ht,_=>by simp [Ty.zV] at ht
 | _,_,.ptr t,_,_,_,h=>by
  obtain ⟨b,off,c,e,fz,rfl,ht,hb,hs,he⟩:=h;have hk:=hr.zt b ht
  exact ⟨b,off,c,e,fz,rfl,hk.1,hk.2.trans hb,hs,zC.kept hr he⟩
 | _,_,.fn f t,_,_,_,h=>by
  obtain ⟨vs,rfl,he⟩:=h
  exact ⟨vs,rfl,zC.kept hr he⟩
 | _,_,.tree k,_,_,_,h=>by obtain ⟨n,h⟩:=h;exact ⟨n,h.move hr⟩
def V8 (g:z8):z8:={ g with tag:=fun b=>match g.tag b with
 | .ro=>.ro
 | _=>.zn }
theorem OP {Z:Type} {cf:Z->Z->Int} {l:List Z} {eq:Z->Z->Bool} (he:∀ x y,eq x y=true->x=y) (FY:Cz (Py cf) (·∈l)) (z6r:S4 eq (Py cf) l=true) {d:List (Fin l.length)} (hp:d.Perm (List.finRange l.length)) (hd:d.Pairwise (fun x y=>ltOf (fun a b=>cf (l.get a) (l.get b)) y x=false)):Kr (Py cf) l=d.map l.get:=by
 have hl:(List.finRange l.length).map l.get=l:=Z2y (by simp) fun i h1 h2=>by simp
 have p1:(d.map l.get).Perm l:=by
  have:=hp.map l.get
  rwa [hl] at this
 refine (Lj (lt:=Py cf) (fun x y hx hy hxy hyx=>?_) (p1.trans (pj _ l).symm) ?_ (X1 FY l fun y hy=>hy)).symm
 ·have Gd:=p1.mem_iff.1 hx;have hy':=p1.mem_iff.1 hy;simp only [S4,Zz,HJ] at z6r;rcases z6r x Gd y hy' with (h | h) | h
  ·rw [hxy] at h;cases h
  ·rw [hyx] at h;cases h
  ·exact he x y h
 ·unfold Asc;rw [List.pairwise_map];exact hd
theorem EM {P:Program} {f:FuncId} {t:Ty} (qv:t.zV=true) (S:LW P f t.sk.isAgg t.size) {u:Ty} {q:kG} (cv:u.den->q.den) (hcv:∀ w g d vs,u.zV=true->zC w g none u d vs->xA w g q (cv d) vs)
  {g:Nat} (eg:∀ args w,(callFunc g args).run P w = .ok (.enter g args) w) {Fc:t.den×t.den×q.den->Option Int}
  (hc:qD P g (.pure (.pr (.val t) (.pr (.val t) q)) [.int .i64] Fc)) :
  qD P f (.mut ⟨[(0,.ref 0),(1,.val (.fn g u))],[.row t]⟩ [0] ⟨[(0,.ref 0)],[.row t]⟩ fun d=>(U6 t (fun x y=>Fc (x,y,cv d.1.2.1)) d.2.1).map fun l=>(((),()),(l,()))):=by
 intro w g0 d vals r X7 zq Th hF;obtain ⟨⟨d1,d2,d3⟩,l,u0⟩:=d;simp only [wq] at hF;obtain ⟨l',OI,rfl⟩:=hF;replace OI:U6 t (fun x y=>Fc (x,y,cv d2)) l=some l':=OI;unfold U6 at OI;replace OI:=yX OI;obtain ⟨hb,OI⟩:=OI;simp only [zI] at OI;simp only [zA] at hb;obtain ⟨⟨WG,z6r⟩,hb3⟩:=hb;obtain ⟨FY,zug⟩:=z5n WG;have qK:l.length < 4611686018427387904:=zL hb3
 match vals,X7 with
 | [v0,v1],_=>
 obtain ⟨u0,hu0,Rq⟩:=zq.zj 0 (.ref 0 [] 0) rfl;obtain ⟨u1,IA,OX⟩:=zq.zj 1 (.data (.fn g u) d2) rfl;simp at hu0 IA;subst hu0;subst IA;have wC:=zq.heap.z6 0 (.row t l 0) rfl;obtain ⟨_,a,cap,qT,Ci,h1,h2,h3⟩:=wC;simp only [zl] at Rq;obtain ⟨cs,⟨v,rfl,_,hx⟩,Rq⟩:=Rq;have zjv:v0=g0.sv 0 []:=by rw [Rq];exact (hx t l 0 rfl).2 rfl
 obtain ⟨hru,cs1,⟨vs1,zsl,pH⟩,OX⟩:=RH OX;have zkd:u.zV=true:=by simpa [Ty.zV] using hru
 subst zsl;have zsr:v1 = .func (.func g) #[] vs1.toArray:=OX;rw [Ci] at zjv;subst zjv;subst zsr;left;refine ⟨S.ent _ _,?_⟩;have hlen:l'.length=l.length:=by rw [<-OI];exact (pj _ l).length_eq
 have fin:∀ w',Ext w g0 w' g0->zC w' g0 (some (0,[])) (.sl true t) l' [g0.sv 0 []]->
   ∃ v,Ending.returned (.tuple #[]) = .returned v/\∃ g',Ext w g0 w' g'/\yZ w' g' (zF [Obj.row t l' 0])/\
    (∀ k i av,zF [0] k=some i->zF [z7.ref 0 [] 0] k=some av->∃ u,[Value.slice a l.length cap,.func (.func g) #[] vs1.toArray][i]? = some u/\zl w' g' (zF [Obj.row t l' 0]) av u)/\
    zl w' g' (zF [Obj.row t l' 0]) (kF []) v:=by
  intro w' hE hR;refine ⟨.tuple #[],rfl,g0,hE,⟨fun id o ho=>?_,fun b hb=>Z21 (zq.heap.tags b hb) hE.size⟩,fun k i av hk Gr=>?_,?_⟩
  ·cases id with
   | zero=>
    simp only [zF,zI] at ho;subst ho
    exact ⟨qv,hR⟩
   | succ id=>simp [zF] at ho
  ·cases k with
   | zero=>
    simp only [zF,zI] at hk Gr;subst hk;subst Gr;refine ⟨.slice a l.length cap,rfl,?_⟩;simp only [zl]
    refine ⟨[.slice a l.length cap],⟨_,rfl,rfl,fun t' l2 e ho=>⟨jE _,fun _=>Ci.symm⟩⟩,rfl⟩
   | succ k=>simp [zF] at hk
  ·simp only [kF,zl];exact ⟨[],rfl,by simp [jR,qj]⟩
 by_cases Xj:l=[]
 ·have BM:l'=[]:=by rw [<-OI,Xj];rfl
  subst Xj;refine Calls.mono (S.nil a cap _ w) fun e w' he=>?_
  obtain ⟨rfl,rfl⟩:=he;refine fin w' (Ext.refl _ _) ?_;rw [BM];exact ⟨a,cap,qT,Ci,h1,h2,h3⟩
 ·rcases h3 with ⟨_,h3,_⟩ | ⟨b,off,c,e,ha,JV,zQ,hle,jo⟩
  ·exact absurd h3 Xj
  ·have hblk:b < w.heap.size:=zq.heap.tags b (by rw [JV];simp);have inst:Inhabited (Fin l.length):=⟨⟨0,Z3u.2 Xj⟩⟩;have Ru:∀ W,A2 w b W->zO w g0 W (V8 g0):=fun W hN=>⟨fun j hj=>⟨by simp [V8,hj],hN.vj j (fun h=>by subst h;rw [JV] at hj;cases hj) (zq.heap.tags j (by rw [hj];simp))⟩⟩
   have zv1:∀ W,A2 w b W->zO w g0 W g0:=fun W hN=>⟨fun j hj=>⟨hj,hN.vj j (fun h=>by subst h;rw [JV] at hj;cases hj) (zq.heap.tags j (by rw [hj];simp))⟩⟩
   have z01:∀ W,A2 w b W->∀ x y:Fin l.length,Calls P g (#[jA t.sk.isAgg (qB c.toList (off+x.1*t.size) t.size),jA t.sk.isAgg (qB c.toList (off+y.1*t.size) t.size)]++vs1.toArray) W fun e w'=>e = .returned (.int .i64 (uk (fun x y=>Fc (x,y,cv d2)) (l.get x) (l.get y)))/\∃ q os',w'=grow (W.drewN q) os':=by
    intro W hN x y;have hr:∀ x:Fin l.length,∃ cs,zC W (V8 g0) none t (l.get x) cs/\jA t.sk.isAgg (qB c.toList (off+x.1*t.size) t.size)=jA t.sk.isAgg cs:=fun x=>⟨_,zC.R2 (Ru W hN) qv (jo x.1 x.2),rfl⟩
    have:=hc W (V8 g0) (l.get x,l.get y,cv d2) (jA t.sk.isAgg (qB c.toList (off+x.1*t.size) t.size) :: jA t.sk.isAgg (qB c.toList (off+y.1*t.size) t.size) :: vs1) _ (fun j hj=>by
     cases he:g0.tag j with
     | ro=>exact ⟨by simp [V8,he],Z21 (zq.heap.tags j (by rw [he];simp)) hN.size⟩
     | _=>exact absurd (by simp [V8,he]) hj) (Known.kept (Ru W hN) zq.known) ⟨qv,hr x,qv,hr y,hcv _ _ _ _ zkd (zC.R2 (Ru W hN) zkd pH)⟩ (zug _ (Z2c l x) _ (Z2c l y))
    rcases this with ⟨_,h⟩ | ⟨v,w',h,_⟩
    ·have ea:(#[jA t.sk.isAgg (qB c.toList (off+x.1*t.size) t.size),jA t.sk.isAgg (qB c.toList (off+y.1*t.size) t.size)]++vs1.toArray)=(jA t.sk.isAgg (qB c.toList (off+x.1*t.size) t.size) :: jA t.sk.isAgg (qB c.toList (off+y.1*t.size) t.size) :: vs1).toArray:=by simp
     rw [ea];refine Calls.mono h fun e w' he=>?_
     obtain ⟨v,rfl,g',qM,VZ⟩:=he;have hv:=(jF VZ.2).1;refine ⟨by rw [hv],?_⟩;exact grown_of qM.os qM.tape qM.output qM.drawn qM.size fun j hj=>(qM.vj j hj (by
      cases he:g0.tag j <;> simp [V8,he])).1
    ·rw [eg] at h;cases h
   have WG:off+l.length*t.size<=c.size:=Z1e (Nat.add_le_add_left (kj _ h1) _) hle;have zk5:=S.run l.length inst g vs1.toArray (fun i=>qB c.toList (off+i.1*t.size) t.size) (fun x y=>uk (fun x y=>Fc (x,y,cv d2)) (l.get x) (l.get y)) b off cap c e w eg
    ⟨fun x=>FY.irrefl _ (Z2c l x),fun x y z=>FY.trans _ _ _ (Z2c l x) (Z2c l y) (Z2c l z),fun x y z=>FY.ntrans _ _ _ (Z2c l x) (Z2c l y) (Z2c l z)⟩
    (fun x=>(jo x.1 x.2).len) (fun x=>(jo x.1 x.2).one) hblk qK zQ WG (fun _=>rfl) z01
   rw [ha];refine Calls.mono zk5 fun e' w' he=>?_
   obtain ⟨rfl,hN,d,hp,hd,c',G4,pN,zeb⟩:=he;have z6u:l'=d.map l.get:=by rw [<-OI];exact OP (VX t) FY z6r hp hd
   have hre:=fin w' ⟨hN.os,hN.tape,hN.output,hN.drawn,hN.size,fun j hj hjt=>⟨hN.vj j (fun he=>by subst he;rw [JV] at hjt;simp at hjt) hj,rfl⟩⟩ ?_
   ·rw [ha] at hre;exact hre
   ·refine ⟨a,cap,by rw [Ci,hlen],by rw [Ci,hlen],by rw [hlen];exact h1,h2,.inr ⟨b,off,c',e,ha,JV,G4,by rw [pN];exact hle,fun i hi=>?_⟩⟩;have Jd:i < d.length:=by rw [z6u] at hi;simpa using hi
    rw [zeb i Jd];have hx:l'.get ⟨i,hi⟩=l.get (d.get ⟨i,Jd⟩):=by
     subst z6u;simp
    rw [hx];exact zC.R2 (zv1 w' hN) qv (jo (d.get ⟨i,Jd⟩).1 (d.get ⟨i,Jd⟩).2)
theorem z1l (w:World) (g:z8) (d:Ty.unit.den) (vs:List Value) (_:Ty.unit.zV=true) (h:zC w g none .unit d vs):xA w g .un d vs:=by
 have:vs=[]:=h;subst this;trivial
theorem z8l {t:Ty} (ht:t.sk.isAgg=false) (w:World) (g:z8) (d:(Ty.pair t .unit).den) (vs:List Value) (hr:(Ty.pair t .unit).zV=true) (h:zC w g none (.pair t .unit) d vs) (hs:t.size=1):xA w g (.pr (.val t) .un) d vs:=by
 obtain ⟨x,⟨⟩⟩:=d;obtain ⟨c1,c2,rfl,h1,h2⟩:=h;have:c2=[]:=h2;subst this;have hl:c1.length=1:=h1.len.trans hs
 match c1,hl with
 | [v],_=>
  simp only [Ty.zV,zA] at hr;exact ⟨hr.1,⟨[v],h1,by rw [ht];rfl⟩,trivial⟩
end Go.Kz
