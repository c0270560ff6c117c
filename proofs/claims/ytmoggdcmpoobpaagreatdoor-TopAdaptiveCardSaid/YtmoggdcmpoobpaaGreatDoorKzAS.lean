/-
  Sorting lists by a comparison: what slices.SortFunc leaves, in plain data.
-/
import Derived.Test.YtmoggdcmpoobpaaGreatDoorKzAM
import Derived.Shelf.SlSortCmp.WholeK
import Derived.Shelf.SlSortCmp.NoneTotal
import Derived.Test.YtmoggdcmpoobpaaGreatDoorKzAR
set_option linter.unusedVariables false
set_option linter.unusedSimpArgs false
namespace Go.Kz
open Go.Proofs Go.Sort
def TW {Z:Type} (lt:Z->Z->Bool) (x:Z):List Z->List Z
 | []=>[x]
 | y :: l=>cond (lt y x) (y :: TW lt x l) (x :: y :: l)
def Ag {Z:Type} (lt:Z->Z->Bool):List Z->List Z
 | []=>[]
 | x :: l=>TW lt x (Ag lt l)
structure Gu {Z:Type} (lt:Z->Z->Bool) (p:Z->Prop):Prop where
 irrefl:∀ x,p x->lt x x=false
 trans:∀ x y z,p x->p y->p z->lt x y=true->lt y z=true->lt x z=true
 ntrans:∀ x y z,p x->p y->p z->lt x y=false->lt y z=false->lt x z=false
def Asc {Z:Type} (lt:Z->Z->Bool):List Z->Prop:=List.Pairwise fun x y=>lt y x=false
theorem Gf {Z:Type} (lt:Z->Z->Bool) (x:Z):(l:List Z)->(TW lt x l).Perm (x :: l)
 | []=>Z31 _
 | y :: l=>by
  simp only [TW]
  cases lt y x with
  | true=>exact ((Gf lt x l).cons y).trans (List.Perm.swap x y l)
  | false=>exact Z31 _
theorem k9 {Z:Type} (lt:Z->Z->Bool):(l:List Z)->(Ag lt l).Perm l
 | []=>Z31 _
 | x :: l=>(Gf lt x _).trans ((k9 lt l).cons x)
theorem IW {Z:Type} {lt:Z->Z->Bool} {p:Z->Prop} (h:Gu lt p) {x:Z} (hx:p x):{l:List Z}->(∀ y∈l,p y)->Asc lt l->Asc lt (TW lt x l)
 | [],_,_=>List.pairwise_singleton _ _
 | y :: l,hp,ha=>by
  have ha':=Z59.1 ha;simp only [TW]
  cases hyx:lt y x with
  | true=>
   refine Z59.2 ⟨fun z hz=>?_,IW h hx (fun z hz=>hp z (by simp [hz])) ha'.2⟩;rcases pK.1 ((Gf lt x l).mem_iff.1 hz) with rfl | hz
   ·cases hxy:lt z y with
    | false=>rfl
    | true=>
     have:=h.trans y z y (hp y (by simp)) hx (hp y (by simp)) hyx hxy;rw [h.irrefl y (hp y (by simp))] at this;cases this
   ·exact ha'.1 z hz
  | false=>
   refine Z59.2 ⟨fun z hz=>?_,ha⟩;rcases pK.1 hz with rfl | hz
   ·exact hyx
   ·exact h.ntrans z y x (hp z (by simp [hz])) (hp y (by simp)) hx (ha'.1 z hz) hyx
theorem Qv {Z:Type} {lt:Z->Z->Bool} {p:Z->Prop} (h:Gu lt p):(l:List Z)->(∀ y∈l,p y)->Asc lt (Ag lt l)
 | [],_=>List.Pairwise.nil
 | x :: l,hp=>IW h (hp x (by simp)) (fun y hy=>hp y (Th _ ((k9 lt l).mem_iff.1 hy))) (Qv h l (fun y hy=>hp y (by simp [hy])))
theorem BU {Z:Type} {lt:Z->Z->Bool} {l m:List Z} (hs:∀ x y,x∈l->y∈l->lt x y=false->lt y x=false->x=y) (hp:l.Perm m) (hl:Asc lt l) (hm:Asc lt m):l=m:=by
 refine List.Perm.eq_of_pairwise (le:=fun x y=>lt y x=false) (fun a b ha hb h1 h2=>?_) hl hm hp;exact hs a b ha (hp.mem_iff.2 hb) h2 h1
noncomputable def HF {Z:Type} (cf:Z->Z->Int):List Z->List Z
 | []=>[]
 | x :: l=>((@pdq {y // y∈x :: l} ⟨⟨x,Z20⟩⟩ (ltOf fun a b=>cf a.1 b.1) (x :: l).attach.toArray 0 (x :: l).attach.toArray.size (Lib.bitLen (x :: l).attach.toArray.size) true true).toList).map Subtype.val
def Pc {Z:Type} (cf:Z->Z->Int) (x y:Z):Bool:=decide (cf x y < 0)
theorem O7 {Z:Type} {cf:Z->Z->Int} {l:List Z} (h:Gu (Pc cf) (·∈l)):SWO (ltOf fun a b:{y // y∈l}=>cf a.1 b.1):=
 ⟨fun x=>h.irrefl x.1 x.2,fun x y z=>h.trans x.1 y.1 z.1 x.2 y.2 z.2,fun x y z=>h.ntrans x.1 y.1 z.1 x.2 y.2 z.2⟩
theorem HE {Z:Type} {cf:Z->Z->Int} {l:List Z} (h:Gu (Pc cf) (·∈l)):(HF cf l).Perm l/\Asc (Pc cf) (HF cf l):=by
 cases l with
 | nil=>exact ⟨Z31 _,List.Pairwise.nil⟩
 | cons x l=>
  let i:Inhabited {y // y∈x :: l}:=⟨⟨x,Z20⟩⟩;obtain ⟨⟨h1,_,h2⟩,h3⟩:=pdq_sorts (ltOf fun a b:{y // y∈x :: l}=>cf a.1 b.1) (O7 h) (x :: l).attach.toArray 0 (x :: l).attach.toArray.size (Lib.bitLen (x :: l).attach.toArray.size) true true (jt _) (yN _) (Or.inl rfl);have e1:HF cf (x :: l)=((pdq (ltOf fun a b:{y // y∈x :: l}=>cf a.1 b.1) (x :: l).attach.toArray 0 (x :: l).attach.toArray.size (Lib.bitLen (x :: l).attach.toArray.size) true true).toList).map Subtype.val:=rfl;rw [e1];generalize pdq (ltOf fun a b:{y // y∈x :: l}=>cf a.1 b.1) (x :: l).attach.toArray 0 (x :: l).attach.toArray.size (Lib.bitLen (x :: l).attach.toArray.size) true true=d' at *;refine ⟨?_,?_⟩
  ·rw [<-h1,Array.extract_size] at h2;have h2':d'.toList.Perm (x :: l).attach:=by
    refine h2.trans ?_;rw [h1,Array.extract_size]
   have:=h2'.map Subtype.val
   rwa [List.attach_map_subtype_val] at this
  ·unfold Asc;rw [List.pairwise_map,List.pairwise_iff_getElem];intro a b ha hb Jq;have:=h3 a b (jt _) Jq (by rw [<-h1];simpa using hb);rw [Z3h d' a (by simpa using ha),Z3h d' b (by simpa using hb)] at this;simpa [ltOf,Pc] using this
theorem CT {Z:Type} {cf:Z->Z->Int} {l:List Z} (h:Gu (Pc cf) (·∈l)):(HF cf l).length=l.length:=(HE h).1.length_eq
end Go.Kz
namespace Go.Kz
open Go.Proofs Go.Sort Go.Shelf
def kf:(t:Ty)->t.den->List Value
 | .int k,n=>[.int k n]
 | .bool,b=>[.bool b]
 | .str,l=>[.string ⟨l.toArray⟩]
 | .unit,_=>[]
 | .pair a b,(x,y)=>kf a x++kf b y
 | .arr _ t,l=>l.flatMap (kf t)
 | .sl _ _,_=>[]
 | .ptr _,_=>[]
 | .fn _ _,_=>[]
 | .tree _,_=>[]
theorem L1 {Z:Type} {f:Z->List Value} {k:Nat}:{l:List Z}->{cs:List Value}->cs.length=l.length*k->(∀ (i:Nat) (h:i < l.length),qS cs (i*k) k=f (l.get ⟨i,h⟩))->cs=l.flatMap f
 | [],cs,hl,_=>by simp at hl;simp [hl]
 | x :: l,cs,hl,h=>by
  have hk:k<=cs.length:=by rw [hl,Vy,Z42];omega
  have h0:=h 0 (by simp);simp only [Z2d] at h0;have ht:cs.take k=f x:=by rw [<-(show qS cs 0 k=cs.take k by simp [qS])];exact h0
  have hd:cs.drop k=l.flatMap f:=by
   refine L1 (k:=k) ?_ fun i hi=>?_
   ·rw [Hw,hl,Vy,Z42];omega
   ·have:=h (i+1) (by simp;omega);rw [show (x :: l).get ⟨i+1,by simp;omega⟩=l.get ⟨i,hi⟩ from rfl] at this;rw [<-this];simp only [qS,Nd,Z42];congr 2;omega
  rw [Z5a,<-ht,<-hd,Mx]
theorem uD {w:World} {g:z8}:{o:Dr}->{t:Ty}->{d:t.den}->{cs:List Value}->t.qJ=true->zH w g o t d cs->cs=kf t d/\∀ v∈cs,v.oneCell'=true
 | _,.int _,_,_,_,h=>by obtain ⟨rfl,_⟩:=h;exact ⟨rfl,by simp [Value.oneCell']⟩
 | _,.bool,_,_,_,h=>by cases h;exact ⟨rfl,by simp [Value.oneCell']⟩
 | _,.str,_,_,_,h=>by
  obtain ⟨s,rfl,hs,_⟩:=h;subst hs
  exact ⟨by simp [kf],by simp [Value.oneCell']⟩
 | _,.unit,_,_,_,h=>by cases h;exact ⟨rfl,by simp⟩
 | _,.pair a b,(x,y),_,ht,h=>by
  obtain ⟨c1,c2,rfl,h1,h2⟩:=h;simp only [Ty.qJ,zA] at ht;obtain ⟨e1,k1⟩:=uD ht.1 h1;obtain ⟨e2,k2⟩:=uD ht.2 h2;refine ⟨by rw [e1,e2];rfl,fun v hv=>?_⟩;rcases U5.1 hv with hv | hv
  ·exact k1 v hv
  ·exact k2 v hv
 | _,.arr n t,l,cs,ht,h=>by
  obtain ⟨h1,h2,h3⟩:=h;have hs:∀ (i:Nat) (h:i < List.length l),qS cs (i*t.size) t.size=kf t (List.get l ⟨i,h⟩):=fun i hi=>(uD (by simpa [Ty.qJ] using ht) (h3 i hi)).1
  have e:=L1 (f:=kf t) (k:=t.size) (by rw [h2,h1]) hs;refine ⟨e,fun v hv=>?_⟩;rw [e] at hv;obtain ⟨x,hx,hv⟩:=List.mem_flatMap.1 hv;obtain ⟨i,hi,rfl⟩:=Jo.1 hx;have:=(uD (by simpa [Ty.qJ] using ht) (h3 i hi))
  exact this.2 v (by rw [this.1];exact hv)
 | _,.sl _ _,_,_,ht,_=>by simp [Ty.qJ] at ht
 | _,.ptr _,_,_,ht,_=>by simp [Ty.qJ] at ht
 | _,.fn _ _,_,_,ht,_=>by simp [Ty.qJ] at ht
 | _,.tree _,_,_,ht,_=>by simp [Ty.qJ] at ht
def gh {Z:Type} (Fc:Z->Z->Option Int) (x y:Z):Int:=(Fc x y).getD 0
def CQ {Z:Type} (p:Z->Bool):List Z->Bool
 | []=>true
 | x :: l=>p x && CQ p l
theorem Ze {Z:Type} {p:Z->Bool}:{l:List Z}->(CQ p l=true↔∀ x∈l,p x=true)
 | []=>by simp [CQ]
 | x :: l=>by simp [CQ,Ze (l:=l)]
def Mb {Z:Type} (Fc:Z->Z->Option Int) (l:List Z):Bool:=
 CQ (fun x=>CQ (fun y=>(Fc x y).isSome) l && !Pc (gh Fc) x x && CQ (fun y=>CQ (fun z=>(!(Pc (gh Fc) x y && Pc (gh Fc) y z) || Pc (gh Fc) x z) && (Pc (gh Fc) x y || Pc (gh Fc) y z || !Pc (gh Fc) x z)) l) l) l
theorem OJ {Z:Type} {Fc:Z->Z->Option Int} {l:List Z} (h:Mb Fc l=true):Gu (Pc (gh Fc)) (·∈l)/\∀ x∈l,∀ y∈l,Fc x y=some (gh Fc x y):=by
 simp only [Mb,Ze,zA,PO] at h;refine ⟨⟨fun x hx=>(h x hx).1.2,fun x y z hx hy hz h1 h2=>?_,fun x y z hx hy hz h1 h2=>?_⟩,fun x hx y hy=>?_⟩
 ·have:=((h x hx).2 y hy z hz).1;rw [h1,h2] at this;simpa using this
 ·have:=((h x hx).2 y hy z hz).2;rw [h1,h2] at this;simpa using this
 ·have:=(h x hx).1.1 y hy;rw [Z38] at this;obtain ⟨v,hv⟩:=this;simp [gh,hv]
theorem zbh {Z:Type} {Fc:Z->Z->Option Int} {l:List Z} (h:Gu (Pc (gh Fc)) (·∈l)) (hs:∀ x∈l,∀ y∈l,(Fc x y).isSome=true):Mb Fc l=true:=by
 simp only [Mb,Ze,zA,PO];refine fun x hx=>⟨⟨fun y hy=>hs x hx y hy,h.irrefl x hx⟩,fun y hy z hz=>⟨?_,?_⟩⟩
 ·cases h1:Pc (gh Fc) x y <;> cases h2:Pc (gh Fc) y z <;> simp;exact h.trans x y z hx hy hz h1 h2
 ·cases h1:Pc (gh Fc) x y <;> cases h2:Pc (gh Fc) y z <;> simp;exact h.ntrans x y z hx hy hz h1 h2
noncomputable def HI {Z:Type} (Fc:Z->Z->Option Int) (l:List Z):Option (List Z):=
 cond (Mb Fc l && Nat.blt l.length 4611686018427387904) (some (HF (gh Fc) l)) none
theorem z0o {w:World} {g:z8} {z6:qp} {t:Ty} {d:t.den} {v:Value} (h:zr w g z6 (.data t d) v):t.zW=true/\∃ cs,zH w g none t d cs/\v=vN t.sk.isAgg cs:=by
 simp only [zr] at h;obtain ⟨cs,⟨h1,h2⟩,h3⟩:=h;exact ⟨h1,cs,h2,h3⟩
theorem Uw:{t:Ty}->t.qJ=true->t.zW=true
 | .int _,_=>rfl
 | .bool,_=>rfl
 | .str,_=>rfl
 | .unit,_=>rfl
 | .pair a b,h=>by
  simp only [Ty.qJ,zA] at h
  simp only [Ty.zW,Uw h.1,Uw h.2,Z3t]
 | .arr _ t,h=>by
  simp only [Ty.qJ] at h
  simp only [Ty.zW];exact Uw h
 | .sl _ _,h=>by simp [Ty.qJ] at h
 | .ptr _,h=>by simp [Ty.qJ] at h
 | .fn _ _,h=>by simp [Ty.qJ] at h
 | .tree _,h=>by simp [Ty.qJ] at h
def noG:z8:=⟨fun b=>if (tab b).isSome then .ro else .zt,fun _ _=>undef,fun _=>0⟩
theorem Mm {b:Nat} {e:zn8} (h:tab b=some e):noG.tag b = .ro:=by simp [noG,h]
structure z8a (w:World):Prop where
 lt:∀ b e,tab b=some e->b < w.heap.size
 known:Known w noG
theorem zb1 {w:World} {g:z8} (h:Known w g):z8a w:=by
 refine ⟨fun b e he=>?_,fun b e he=>?_⟩
 ·obtain ⟨_,_,c,ty,fz,h3,_⟩:=h b e he;exact (Z24.1 h3).1
 ·obtain ⟨h1,⟨b',off,c',e',fz',hp,_,hb,hs,hl,hc,hr⟩,h3⟩:=h b e he;have hp':=hp;simp only [BL,Value.pointer.injEq,zI,Addr.mk.injEq,U6] at hp;refine ⟨h1,⟨b',off,c',e',fz',hp',by rw [<-hp.1];exact Mm he,hb,hs,hl,hc,fun i hi=>?_⟩,h3⟩;exact zH.qJ (HK b e he) (hr i hi)
theorem z8a.sort {I:Type} [Inhabited I] (enc:I->List Value) (k:Nat) {w:World} (h:z8a w) (qj off m:Nat) (dk:Array I) (os:Array Go.Obj) (hb:∀ e,tab qj≠some e):z8a (sortWorldK enc k w qj off m dk os):=by
 have hw:(sortWorldK enc k w qj off m dk os).heap=(w.heap.modify qj (onCells (putCells id off (flatK enc k dk))))++os:=rfl;have Gl:∀ b e,tab b=some e->(sortWorldK enc k w qj off m dk os).heap[b]? = w.heap[b]? := by
  intro b e he;have qx:=h.lt b e he;rw [hw,Z3z (by simpa using qx),Array.getElem?_modify,qZ];intro hbb;subst hbb;exact hb e he
 refine ⟨fun b e he=>?_,fun b e he=>?_⟩
 ·have:=h.lt b e he;rw [hw];simp;omega
 ·obtain ⟨h1,⟨b',YK,c',e',fz',hp,ht,Z6,hs,hl,hc,hr⟩,c,ty,fz,h3,h4⟩:=h.known b e he;have hp':=hp;simp only [BL,Value.pointer.injEq,zI,Addr.mk.injEq,U6] at hp;refine ⟨h1,⟨b',YK,c',e',fz',hp',ht,by rw [<-hp.1,Gl b e he,hp.1];exact Z6,hs,hl,hc,fun i hi=>?_⟩,c,ty,fz,by rw [Gl b e he];exact h3,h4⟩;exact zH.qJ (HK b e he) (hr i hi)
theorem grown_of {w w':World} (ho:w'.os=w.os) (ht:w'.tape=w.tape) (hp:w'.output=w.output) (hd:w.drawn<=w'.drawn) (hs:w.heap.size<=w'.heap.size) (hk:∀ b,b < w.heap.size->w'.heap[b]? = w.heap[b]?) :
  ∃ q os',w'=grow (w.drewN q) os':=by
 refine ⟨w'.drawn-w.drawn,w'.heap.extract w.heap.size w'.heap.size,?_⟩;have hh:w'.heap=w.heap++w'.heap.extract w.heap.size w'.heap.size:=by
  apply Array.ext
  ·simp;omega
  ·intro i h1 h2;by_cases hi:i < w.heap.size
   ·have:=hk i hi;rw [Z3d h1,Z3d hi] at this;simp only [zI] at this;rw [this,Array.getElem_append_left hi]
   ·rw [Array.getElem_append_right (by omega)];simp;congr 1;omega
 cases w with
 | mk h t d o p=>
  cases w' with
  | mk h' t' d' o' p'=>
   simp only at ho ht hp hd hs hh;subst ho;subst ht;subst hp;simp only [grow,World.drewN,World.mk.injEq,U6,Vq];exact ⟨hh,by omega⟩
theorem z6z {P:Program} {t:Ty} (hns:t.qJ=true) (ve:t.sk.isAgg=true) {g:Nat} {Fc:t.den×t.den×Unit->Option Int} (eg:∀ args w,(callFunc g args).run P w = .ok (.enter g args) w)
  (hc:qB P g (.pure (.pr (.val t) (.pr (.val t) .un)) [.int .i64] Fc)) {l:List t.den} [Inhabited {y // y∈l}] (hF:∀ x∈l,∀ y∈l,Fc (x,y,())=some (gh (fun x y=>Fc (x,y,())) x y)) (zC:∀ x∈l,∃ w g o cs,zH w g o t x cs)
  (qj off size:Nat) (w:World) (hkw:z8a w) (IB:∀ e,tab qj≠some e):CmpLays (α:={y // y∈l}) P g #[] (fun x=>kf t x.1) t.size (fun x y=>gh (fun x y=>Fc (x,y,())) x.1 y.1) qj off size w:=by
 intro m os dk _ x y;have hK:=hkw.sort (fun x:{y // y∈l}=>kf t x.1) t.size qj off m dk os IB;generalize sortWorldK (fun x:{y // y∈l}=>kf t x.1) t.size w qj off m dk os=W at hK ⊢;have hr:∀ x∈l,∃ cs,zH W noG none t x cs/\Value.agg (kf t x).toArray=vN t.sk.isAgg cs:=by
  intro x hx;obtain ⟨w1,g1,o1,cs,h⟩:=zC x hx;refine ⟨cs,zH.qJ hns h,?_⟩;rw [ve,(uD hns h).1];rfl
 have qu:=Uw hns;have:=hc W noG (x.1,y.1,()) [.agg (kf t x.1).toArray,.agg (kf t y.1).toArray] _ (fun b hb=>by
  cases he:tab b with
  | none=>exact absurd (by simp [noG,he]) hb
  | some e=>exact ⟨Mm he,hK.lt b e he⟩) hK.known ⟨qu,hr x.1 x.2,qu,hr y.1 y.2,trivial⟩ (hF x.1 x.2 y.1 y.2)
 rcases this with ⟨_,h⟩ | ⟨v,w',h,_⟩
 ·simp only [Array.append_empty];refine Calls.mono h fun e w' he=>?_
  obtain ⟨v,rfl,g',ql,W4⟩:=he;have hv:=(jT W4.2).1;refine ⟨by rw [hv],?_⟩;exact grown_of ql.os ql.tape ql.output ql.drawn ql.size fun b hb=>(ql.vR b hb (by
   cases he:tab b with
   | none=>exact .inl (by simp [noG,he])
   | some e=>exact .inr (Mm he))).1
 ·rw [eg] at h;cases h
theorem Oi {c:Array Value} {off k j r:Nat} (hr:r < k) (h:off+j*k+k<=c.size):(qS c.toList (off+j*k) k)[r]? = c[off+(j*k+r)]? := by
 simp only [qS];rw [List.getElem?_take_of_lt hr,Z2c,Z2b];congr 1;omega
theorem HH {P:Program} {Y:Ren} (L:SlLaysF0.n6 P Y) {t:Ty} (hns:t.qJ=true) (ve:t.sk.isAgg=true) (aE:∀ w,(isAgg (Y.t 24)).run P w = .ok true w) (zE:∀ w,(Go.sizeOf (Y.t 24)).run P w = .ok t.size w)
  {g:Nat} (eg:∀ args w,(callFunc g args).run P w = .ok (.enter g args) w) {Fc:t.den×t.den×Unit->Option Int}
  (hc:qB P g (.pure (.pr (.val t) (.pr (.val t) .un)) [.int .i64] Fc)) :
  qB P (Y.f 6) (.mut ⟨[(0,.ref 0),(1,.val (.fn g .unit))],[.row t]⟩ [0] ⟨[(0,.ref 0)],[.row t]⟩ fun d=>(HI (fun x y=>Fc (x,y,())) d.2.1).map fun l=>(((),()),(l,()))):=by
 intro w g0 d vals r Ux zy z5b hF;obtain ⟨⟨d1,d2,d3⟩,l,u⟩:=d;simp only [wU] at hF;obtain ⟨l',Nz,rfl⟩:=hF;replace Nz:HI (fun x y=>Fc (x,y,())) l=some l':=Nz;unfold HI at Nz;replace Nz:=y8 Nz;obtain ⟨hb,Nz⟩:=Nz;simp only [zI] at Nz;simp only [zA] at hb;obtain ⟨IX,q1x⟩:=OJ hb.1;have qC:l.length < 4611686018427387904:=zL hb.2;have ef:∀ args w,(callFunc (Y.f 6) args).run P w = .ok (.enter (Y.f 6) args) w:=L.f6.enters rfl
 match vals,Ux with
 | [v0,v1],_=>
 obtain ⟨u0,hu0,hv0⟩:=zy.zk 0 (.ref 0 [] 0) rfl;obtain ⟨u1,N4,Ed⟩:=zy.zk 1 (.data (.fn g .unit) d2) rfl;simp at hu0 N4;subst hu0;subst N4;have vk:=zy.heap.z6 0 (.row t l 0) rfl;obtain ⟨qu,a,cap,qf,AJ,h1,h2,h3⟩:=vk;simp only [zr] at hv0;obtain ⟨cs,⟨v,rfl,_,hx⟩,hv0⟩:=hv0;have zqk:v0=g0.sv 0 []:=by rw [hv0];exact (hx t l 0 rfl).2 rfl
 obtain ⟨_,cs1,⟨vs1,q00,uW⟩,Ed⟩:=z0o Ed;have WX:vs1=[]:=uW;subst WX;subst q00;have q06:v1 = .func (.func g) #[] #[]:=Ed;rw [AJ] at zqk;subst zqk;subst q06;left;refine ⟨ef _ _,?_⟩;have fin:∀ w',(∃ n os c' e b off,a=some ⟨b,off,none⟩/\g0.tag b = .row 0 []/\w'.heap[b]? = some (.cells c' e (0,0))/\off+cap*t.size<=c'.size/\(∀ (i:Nat) (h:i < l'.length),∃ w g o,zH w g o t (l'.get ⟨i,h⟩) (qS c'.toList (off+i*t.size) t.size))/\
   (∀ k,k≠b->k < w.heap.size->w'.heap[k]? = w.heap[k]?)/\w'.os=w.os/\w'.tape=w.tape/\w'.output=w.output/\w.drawn<=w'.drawn/\w.heap.size<=w'.heap.size/\(n:Nat)=n/\(os:Array Go.Obj)=os)\/(a=none/\l'=[]/\cap=0/\w'=w)\/(l=[]/\l'=[]/\w'=w)->
   ∃ v,Ending.returned (.tuple #[]) = .returned v/\∃ g',Ext w g0 w' g'/\yY w' g' (zF [Obj.row t l' 0])/\
    (∀ k i av,zF [0] k=some i->zF [z7.ref 0 [] 0] k=some av->∃ u,[Value.slice a l.length cap,.func (.func g) #[] #[]][i]? = some u/\zr w' g' (zF [Obj.row t l' 0]) av u)/\
    zr w' g' (zF [Obj.row t l' 0]) (gk []) v:=by
  intro w' GZ;have hlen:l'.length=l.length:=by rw [<-Nz];exact CT IX
  have hE:Ext w g0 w' g0/\zH w' g0 (some (0,[])) (.sl true t) l' [g0.sv 0 []]:=by
   rcases GZ with ⟨n,os,c',e,b,off,ha,Jb,zY,hle,js,Gl,ho,ht,hp,hd,hs,_⟩ | ⟨ha,UW,ZF,rfl⟩ | ⟨DY,UW,rfl⟩
   ·refine ⟨⟨ho,ht,hp,hd,hs,fun k hk hkt=>⟨Gl k (fun he=>?_) hk,rfl⟩⟩,a,cap,by rw [AJ,hlen],by rw [AJ,hlen],by rw [hlen];exact h1,h2,.inr ⟨b,off,c',e,ha,Jb,zY,hle,fun i hi=>?_⟩⟩
    ·subst he;rw [Jb] at hkt;simp at hkt
    ·obtain ⟨_,_,_,hr⟩:=js i hi;exact zH.qJ hns hr
   ·exact ⟨Ext.refl _ _,a,cap,by rw [AJ,hlen],by rw [AJ,hlen],by rw [hlen];exact h1,h2,.inl ⟨ha,UW,ZF⟩⟩
   ·refine ⟨Ext.refl _ _,?_⟩;have h3':zH w' g0 (some (0,[])) (.sl true t) l [g0.sv 0 []]:=⟨a,cap,qf,AJ,h1,h2,h3⟩;rw [UW,<-DY];exact h3'
  refine ⟨.tuple #[],rfl,g0,hE.1,⟨fun id o ho=>?_,fun b hb=>Z2o (zy.heap.tags b hb) hE.1.size⟩,fun k i av hk U3=>?_,?_⟩
  ·cases id with
   | zero=>
    simp only [zF,zI] at ho;subst ho
    exact ⟨qu,hE.2⟩
   | succ id=>simp [zF] at ho
  ·cases k with
   | zero=>
    simp only [zF,zI] at hk U3;subst hk;subst U3;refine ⟨.slice a l.length cap,rfl,?_⟩;simp only [zr]
    refine ⟨[.slice a l.length cap],⟨_,rfl,rfl,fun t' l2 e ho=>⟨jt _,fun _=>AJ.symm⟩⟩,rfl⟩
   | succ k=>simp [zF] at hk
  ·simp only [gk,zr];exact ⟨[],rfl,by simp [jS,qk]⟩
 by_cases AP:l=[]
 ·have UW:l'=[]:=by rw [<-Nz,AP];rfl
  subst AP;refine Calls.mono (AnyF.slices_SortFunc_none L a cap _ w) fun e w' he=>?_
  obtain ⟨rfl,rfl⟩:=he;exact fin w' (.inr (.inr ⟨rfl,UW,rfl⟩))
 ·obtain ⟨x0,rr,Od⟩:∃ x0 rr,l=x0 :: rr:=by cases l with | nil=>exact absurd rfl AP | cons x0 rr=>exact ⟨x0,rr,rfl⟩
  let inst:Inhabited {y // y∈l}:=⟨⟨x0,by rw [Od];simp⟩⟩;rcases h3 with ⟨_,h3,_⟩ | ⟨b,off,c,e,ha,Jb,zY,hle,js⟩
  ·exact absurd h3 AP
  ·have hq:l'=((pdq (ltOf fun a b:{y // y∈l}=>gh (fun x y=>Fc (x,y,())) a.1 b.1) l.attach.toArray 0 l.attach.toArray.size (Lib.bitLen l.attach.toArray.size) true true).toList).map Subtype.val:=by
    rw [<-Nz];subst Od;rfl
   have hlen:l'.length=l.length:=by rw [<-Nz];exact CT IX
   have hblk:b < w.heap.size:=zy.heap.tags b (by rw [Jb];simp);have zC:∀ x∈l,∃ w g o cs,zH w g o t x cs:=by
    intro x hx;obtain ⟨i,hi,rfl⟩:=Jo.1 hx;exact ⟨_,_,_,_,js i hi⟩
   have hk:∀ x:{y // y∈l},(kf t x.1).length=t.size:=by
    intro x;obtain ⟨_,_,_,cs,h⟩:=zC x.1 x.2;rw [<-(uD hns h).1,h.len]
   have qE:∀ x:{y // y∈l},∀ v∈kf t x.1,v.oneCell'=true:=by
    intro x v hv;obtain ⟨_,_,_,cs,h⟩:=zC x.1 x.2;obtain ⟨e1,e2⟩:=uD hns h;exact e2 v (by rw [e1];exact hv)
   have zcy:∀ i,i < l.length->off+i*t.size+t.size<=c.size:=by
    intro i hi;have h5:(i+1)*t.size<=cap*t.size:=kn _ (by omega);rw [Z42] at h5;omega
   have vj:∀ i (hi:i < l.length),qS c.toList (off+i*t.size) t.size=kf t (l.get ⟨i,hi⟩):=fun i hi=>(uD hns (js i hi)).1
   have zrr:∀ j,j < l.length*t.size->0 < t.size:=by
    intro j hj;rcases Z3p t.size with h | h
    ·rw [h] at hj;simp at hj
    ·exact h
   have hH:HoldsK (fun x:{y // y∈l}=>kf t x.1) t.size w b off l.attach.toArray:=by
    intro j hj;have ZD:j < l.length*t.size:=by simpa using hj
    have hp:=zrr j ZD;have hi:j / t.size < l.length:=by rw [Nat.div_lt_iff_lt_mul hp];exact ZD
    have hr:j % t.size < t.size:=Z2r _ hp;refine ⟨?_,by simp [World.frozen?,zY]⟩;rw [get_flatK _ _ _ _ (by simpa using ZD)];have e1:(l.attach.toArray)[j / t.size]! = ⟨l[j / t.size],ku hi⟩:=by
     rw [Z3h _ _ (by simpa using hi)];simp
    have h6:=Oi (c:=c) hr (zcy _ hi);rw [vj _ hi] at h6;have e2:j / t.size*t.size+j % t.size=j:=by rw [Z25];exact Z3r j t.size
    rw [e2] at h6;simp only [World.cell?,zY,Z5b,Mu,Dh];rw [<-h6];have AG:(kf t l[j / t.size]).length=t.size:=hk ⟨l[j / t.size],ku hi⟩;have h8:j % t.size < (kf t l[j / t.size]).length:=by rw [AG];exact hr
    simp only [e1,id];rw [Z3h (kf t l[j / t.size]) (j % t.size) h8];exact wP h8
   have zgi:=AnyQ.slices_SortFunc_eq L t.size aE zE (fun x:{y // y∈l}=>kf t x.1) hk qE (fun a b=>gh (fun x y=>Fc (x,y,())) a.1 b.1) (O7 IX) g #[] b off cap l.attach.toArray w eg
    (z6z hns ve eg hc q1x zC b off _ w (zb1 zy.known) (fun e he=>by
     obtain ⟨_,⟨b',_,_,_,_,hp,ht,_⟩,_⟩:=zy.known b e he;simp only [BL,Value.pointer.injEq,zI,Addr.mk.injEq,U6] at hp;rw [<-hp.1,Jb] at ht;cases ht)) hH hblk (by simpa using qC)
   have Z3:l.attach.toArray.size=l.length:=by simp
   rw [ha];rw [Z3] at zgi hq;refine Calls.mono zgi fun e' w' he=>?_
   obtain ⟨rfl,n,os,rfl⟩:=he;generalize pdq (ltOf fun a b:{y // y∈l}=>gh (fun x y=>Fc (x,y,())) a.1 b.1) l.attach.toArray 0 l.length (Lib.bitLen l.length) true true=d' at hq ⊢;have hd':d'.size=l.length:=by rw [<-hlen,hq];simp
   have hw:(sortWorldK (fun x:{y // y∈l}=>kf t x.1) t.size w b off n d' os).heap=(w.heap.modify b (onCells (putCells id off (flatK (fun x:{y // y∈l}=>kf t x.1) t.size d'))))++os:=rfl;have Gl:∀ k,k < w.heap.size->(sortWorldK (fun x:{y // y∈l}=>kf t x.1) t.size w b off n d' os).heap[k]? = if b=k then (w.heap[k]?).map (onCells (putCells id off (flatK (fun x:{y // y∈l}=>kf t x.1) t.size d'))) else w.heap[k]? := by
    intro k hk;rw [hw,Z3z (by simpa using hk),Array.getElem?_modify]
   have uR:(putCells id off (flatK (fun x:{y // y∈l}=>kf t x.1) t.size d') c).size=c.size:=by simp [putCells]
   have hre:=fin (sortWorldK (fun x:{y // y∈l}=>kf t x.1) t.size w b off n d' os) (.inl ⟨n,os,putCells id off (flatK (fun x:{y // y∈l}=>kf t x.1) t.size d') c,e,b,off,ha,Jb,?_,by rw [uR];exact hle,fun i hi=>?_,fun k hk qx=>?_,rfl,rfl,rfl,Nat.le_add_right _ _,?_,rfl,rfl⟩)
   ·rw [ha] at hre;exact hre
   ·rw [Gl b hblk,yQ rfl,zY];rfl
   ·have VU:i < d'.size:=by rw [hd',<-hlen];exact hi
    have hx:l'.get ⟨i,hi⟩=d'[i].1:=by
     have h9:l'[i]? = some d'[i].1:=by rw [hq,Z3e,Z2b,Z3d VU];rfl
     have Ih:=wP hi;rw [h9] at Ih;simp only [zI] at Ih;exact Ih.symm
    obtain ⟨w1,g1,o1,cs,hR⟩:=zC d'[i].1 d'[i].2;refine ⟨w1,g1,o1,?_⟩;rw [hx];have e0:=(uD hns hR).1;have zkq:qS (putCells id off (flatK (fun x:{y // y∈l}=>kf t x.1) t.size d') c).toList (off+i*t.size) t.size=cs:=by
     have w5:=zcy i (by rw [<-hd'];exact VU);have DY:(qS (putCells id off (flatK (fun x:{y // y∈l}=>kf t x.1) t.size d') c).toList (off+i*t.size) t.size).length=t.size:=yW (by rw [vf,uR];exact w5);have UW:cs.length=t.size:=hR.len;refine Z3v fun q=>?_
     by_cases TK:q < t.size
     ·rw [Oi TK (by rw [uR];exact w5)];have hm:i*t.size+q < d'.size*t.size:=by
       have:(i+1)*t.size<=d'.size*t.size:=kn _ VU;rw [Z42] at this;omega
      have hdiv:(i*t.size+q) / t.size=i:=by
       rw [Z25,Nat.mul_add_div (by omega),Nat.div_eq_of_lt TK];rfl
      have q12:(i*t.size+q) % t.size=q:=by
       rw [Z25,Nat.mul_add_mod,Z4o TK]
      have V8:off+(i*t.size+q) < c.size:=by omega
      rw [putCells,Array.getElem?_mapIdx,Z3d V8];simp only [Z23,size_flatK];rw [yQ ⟨by omega,by omega⟩];have es:off+(i*t.size+q)-off=i*t.size+q:=by omega
      rw [es,get_flatK _ _ _ _ hm,hdiv,q12,Z3h d' i VU,e0];have h8:q < (kf t d'[i].1).length:=by rw [hk];exact TK
      rw [Z3h (kf t d'[i].1) q h8];exact (wP h8).symm
     ·rw [Z2g (by omega),Z2g (by omega)]
    rw [zkq];exact hR
   ·rw [Gl k qx,qZ (fun h=>hk h.symm)]
   ·rw [hw];simp
end Go.Kz
namespace Go.Kz
open Go.Proofs Go.Sort Go.Shelf
noncomputable def DB:(t:Ty)->t.den->t.den->Bool
 | .int _,a,b=>decide (a=b)
 | .bool,a,b=>a == b
 | .str,a,b=>decide (a=b)
 | .unit,_,_=>true
 | .pair a b,(x,u),(y,v)=>DB a x y && DB b u v
 | .arr _ t,x,y=>k7 (DB t) x y
 | .sl _ t,x,y=>k7 (DB t) x y
 | .ptr t,x,y=>DB t x y
 | .fn _ t,x,y=>DB t x y
 | .tree _,x,y=>@decide (x=y) (Classical.propDecidable _)
theorem Gc {I:Type} {f:I->I->Bool} (hf:∀ x y,f x y=true->x=y):{l m:List I}->k7 f l m=true->l=m
 | [],[],_=>rfl
 | x :: l,y :: m,h=>by
  simp only [k7] at h
  cases hb:f x y with
  | false=>rw [hb] at h;simp at h
  | true=>
   rw [hb] at h
   rw [hf x y hb,Gc hf h]
 | [],_ :: _,h=>by simp [k7] at h
 | _ :: _,[],h=>by simp [k7] at h
theorem Ww:(t:Ty)->(x y:t.den)->DB t x y=true->x=y
 | .int _,a,b,h=>by simpa [DB] using h
 | .bool,a,b,h=>by simpa [DB] using h
 | .str,a,b,h=>by simpa [DB] using h
 | .unit,_,_,_=>rfl
 | .pair a b,(x,u),(y,v),h=>by
  simp only [DB,zA] at h
  rw [Ww a x y h.1,Ww b u v h.2]
 | .arr _ t,x,y,h=>Gc (Ww t) h
 | .sl _ t,x,y,h=>Gc (Ww t) h
 | .ptr t,x,y,h=>Ww t x y h
 | .fn _ t,x,y,h=>Ww t x y h
 | .tree _,x,y,h=>by simpa [DB] using h
theorem YH {I:Type} {f:I->I->Bool} (hf:∀ x,f x x=true):(l:List I)->k7 f l l=true
 | []=>rfl
 | x :: l=>by simp only [k7,hf x,zB];exact YH hf l
theorem xQ:(t:Ty)->(x:t.den)->DB t x x=true
 | .int _,a=>by simp [DB]
 | .bool,a=>by simp [DB]
 | .str,a=>by simp [DB]
 | .unit,_=>rfl
 | .pair a b,(x,u)=>by simp only [DB,xQ a x,xQ b u,Z3t]
 | .arr _ t,x=>YH (xQ t) x
 | .sl _ t,x=>YH (xQ t) x
 | .ptr t,x=>xQ t x
 | .fn _ t,x=>xQ t x
 | .tree _,x=>by simp [DB]
def zb9 {Z:Type} (eq lt:Z->Z->Bool) (l:List Z):Bool:=CQ (fun x=>CQ (fun y=>lt x y || lt y x || eq x y) l) l
noncomputable def HD (t:Ty) (Fc:t.den->t.den->Option Int) (l:List t.den):Option (List t.den):=
 cond (Mb Fc l && zb9 (DB t) (Pc (gh Fc)) l && Nat.blt l.length 4611686018427387904) (some (Ag (Pc (gh Fc)) l)) none
theorem z1i {t:Ty} {Fc:t.den->t.den->Option Int} {l l':List t.den} (h:HD t Fc l=some l'):HI Fc l=some l':=by
 unfold HD at h;replace h:=y8 h;obtain ⟨hb,h⟩:=h;simp only [zA] at hb;obtain ⟨⟨h1,h2⟩,h3⟩:=hb;simp only [zI] at h;subst h;unfold HI;rw [h1,h3];simp only [Z3t,zB,zI];have IX:=(OJ h1).1;obtain ⟨p1,p2⟩:=HE IX;refine BU (lt:=Pc (gh Fc)) (fun x y hx hy hxy hyx=>?_) (p1.trans (k9 _ l).symm) p2 (Qv IX l fun y hy=>hy);have Gh:=p1.mem_iff.1 hx;have hy':=p1.mem_iff.1 hy;simp only [zb9,Ze,Df] at h2;rcases h2 x Gh y hy' with (h | h) | h
 ·rw [hxy] at h;cases h
 ·rw [hyx] at h;cases h
 ·exact Ww t x y h
theorem LK {P:Program} {f:Nat} {fin:vp} {jC:List Nat} {zm:vp} {F F':fin.den->Option zm.den} (h:qB P f (.mut fin jC zm F)) (hF:∀ d r,F' d=some r->F d=some r):qB P f (.mut fin jC zm F'):=by
 intro w g d vals r h1 h2 h3 h4;exact h w g d vals r h1 h2 h3 (hF d r h4)
theorem Ek {P:Program} {Y:Ren} (L:SlLaysF0.n6 P Y) {t:Ty} (hns:t.qJ=true) (ve:t.sk.isAgg=true) (aE:∀ w,(isAgg (Y.t 24)).run P w = .ok true w) (zE:∀ w,(Go.sizeOf (Y.t 24)).run P w = .ok t.size w)
  {g:Nat} (eg:∀ args w,(callFunc g args).run P w = .ok (.enter g args) w) {Fc:t.den×t.den×Unit->Option Int}
  (hc:qB P g (.pure (.pr (.val t) (.pr (.val t) .un)) [.int .i64] Fc)) :
  qB P (Y.f 6) (.mut ⟨[(0,.ref 0),(1,.val (.fn g .unit))],[.row t]⟩ [0] ⟨[(0,.ref 0)],[.row t]⟩ fun d=>(HD t (fun x y=>Fc (x,y,())) d.2.1).map fun l=>(((),()),(l,()))):=
 LK (HH L hns ve aE zE eg hc) fun d r h=>by
  simp only [wU] at h ⊢;obtain ⟨l',h1,h2⟩:=h;exact ⟨l',z1i h1,h2⟩
end Go.Kz
