/-
  slices.SortFunc at structs: its contract over any program, from the shelf's.
-/
import Derived.Test.YtnjfafnflbackaaKzAP
set_option linter.unusedVariables false
set_option linter.unusedSimpArgs false
namespace Go.Kz
open Go.Proofs Go.Sort Go.Shelf
def zbb:(t:Ty)->t.den->List Value
 | .int k,n=>[.int k n]
 | .bool,b=>[.bool b]
 | .str,l=>[.string ⟨l.toArray⟩]
 | .unit,_=>[]
 | .pair a b,(x,y)=>zbb a x++zbb b y
 | .arr _ t,l=>l.flatMap (zbb t)
 | .sl _ _,_=>[]
 | .ptr _,_=>[]
 | .fn _ _,_=>[]
theorem zsn {β:Type} {f:β->List Value} {k:Nat}:{l:List β}->{cs:List Value}->cs.length=l.length*k->(∀ (i:Nat) (h:i < l.length),seg cs (i*k) k=f (l.get ⟨i,h⟩))->cs=l.flatMap f
 | [],cs,hl,_=>by simp at hl;simp [hl]
 | x :: l,cs,hl,h=>by
  have hk:k≤cs.length:=by rw [hl,List.length_cons,Nat.succ_mul];omega
  have h0:=h 0 (by simp);simp only [Nat.zero_mul] at h0;have ht:cs.take k=f x:=by rw [←(show seg cs 0 k=cs.take k by simp [seg])];exact h0
  have hd:cs.drop k=l.flatMap f:=by
   refine zsn (k:=k) ?_ fun i hi=>?_
   ·rw [List.length_drop,hl,List.length_cons,Nat.succ_mul];omega
   ·have:=h (i+1) (by simp;omega);rw [show (x :: l).get ⟨i+1,by simp;omega⟩=l.get ⟨i,hi⟩ from rfl] at this;rw [←this];simp only [seg,List.drop_drop,Nat.succ_mul];congr 2;omega
  rw [List.flatMap_cons,←ht,←hd,List.take_append_drop]
theorem z88 {w:World} {g:Ghost}:{o:Own}->{t:Ty}->{d:t.den}->{cs:List Value}->t.noSl=true->Rep w g o t d cs->cs=zbb t d∧∀ v∈cs,v.oneCell'=true
 | _,.int _,_,_,_,h=>by obtain ⟨rfl,_⟩:=h;exact ⟨rfl,by simp [Value.oneCell']⟩
 | _,.bool,_,_,_,h=>by cases h;exact ⟨rfl,by simp [Value.oneCell']⟩
 | _,.str,_,_,_,h=>by
  obtain ⟨s,rfl,hs,_⟩:=h;subst hs
  exact ⟨by simp [zbb],by simp [Value.oneCell']⟩
 | _,.unit,_,_,_,h=>by cases h;exact ⟨rfl,by simp⟩
 | _,.pair a b,(x,y),_,ht,h=>by
  obtain ⟨c1,c2,rfl,h1,h2⟩:=h;simp only [Ty.noSl,zA] at ht;obtain ⟨e1,k1⟩:=z88 ht.1 h1;obtain ⟨e2,k2⟩:=z88 ht.2 h2;refine ⟨by rw [e1,e2];rfl,fun v hv=>?_⟩;rcases List.mem_append.1 hv with hv | hv
  ·exact k1 v hv
  ·exact k2 v hv
 | _,.arr n t,l,cs,ht,h=>by
  obtain ⟨h1,h2,h3⟩:=h;have hs:∀ (i:Nat) (h:i < List.length l),seg cs (i*t.size) t.size=zbb t (List.get l ⟨i,h⟩):=fun i hi=>(z88 (by simpa [Ty.noSl] using ht) (h3 i hi)).1
  have e:=zsn (f:=zbb t) (k:=t.size) (by rw [h2,h1]) hs;refine ⟨e,fun v hv=>?_⟩;rw [e] at hv;obtain ⟨x,hx,hv⟩:=List.mem_flatMap.1 hv;obtain ⟨i,hi,rfl⟩:=List.mem_iff_getElem.1 hx;have:=(z88 (by simpa [Ty.noSl] using ht) (h3 i hi))
  exact this.2 v (by rw [this.1];exact hv)
 | _,.sl _ _,_,_,ht,_=>by simp [Ty.noSl] at ht
 | _,.ptr _,_,_,ht,_=>by simp [Ty.noSl] at ht
 | _,.fn _ _,_,_,ht,_=>by simp [Ty.noSl] at ht
def zaf {β:Type} (Fc:β->β->Option Int) (x y:β):Int:=(Fc x y).getD 0
def zyu {β:Type} (p:β->Bool):List β->Bool
 | []=>true
 | x :: l=>p x && zyu p l
theorem z78 {β:Type} {p:β->Bool}:{l:List β}->(zyu p l=true↔∀ x∈l,p x=true)
 | []=>by simp [zyu]
 | x :: l=>by simp [zyu,z78 (l:=l)]
def ordB {β:Type} (Fc:β->β->Option Int) (l:List β):Bool:=
 zyu (fun x=>zyu (fun y=>(Fc x y).isSome) l && !ltI (zaf Fc) x x && zyu (fun y=>zyu (fun z=>(!(ltI (zaf Fc) x y && ltI (zaf Fc) y z) || ltI (zaf Fc) x z) && (ltI (zaf Fc) x y || ltI (zaf Fc) y z || !ltI (zaf Fc) x z)) l) l) l
theorem zw0 {β:Type} {Fc:β->β->Option Int} {l:List β} (h:ordB Fc l=true):OrdOn (ltI (zaf Fc)) (·∈l)∧∀ x∈l,∀ y∈l,Fc x y=some (zaf Fc x y):=by
 simp only [ordB,z78,zA,Bool.not_eq_true'] at h;refine ⟨⟨fun x hx=>(h x hx).1.2,fun x y z hx hy hz h1 h2=>?_,fun x y z hx hy hz h1 h2=>?_⟩,fun x hx y hy=>?_⟩
 ·have:=((h x hx).2 y hy z hz).1;rw [h1,h2] at this;simpa using this
 ·have:=((h x hx).2 y hy z hz).2;rw [h1,h2] at this;simpa using this
 ·have:=(h x hx).1.1 y hy;rw [Option.isSome_iff_exists] at this;obtain ⟨v,hv⟩:=this;simp [zaf,hv]
theorem zw1 {β:Type} {Fc:β->β->Option Int} {l:List β} (h:OrdOn (ltI (zaf Fc)) (·∈l)) (hs:∀ x∈l,∀ y∈l,(Fc x y).isSome=true):ordB Fc l=true:=by
 simp only [ordB,z78,zA,Bool.not_eq_true'];refine fun x hx=>⟨⟨fun y hy=>hs x hx y hy,h.irrefl x hx⟩,fun y hy z hz=>⟨?_,?_⟩⟩
 ·cases h1:ltI (zaf Fc) x y <;> cases h2:ltI (zaf Fc) y z <;> simp;exact h.trans x y z hx hy hz h1 h2
 ·cases h1:ltI (zaf Fc) x y <;> cases h2:ltI (zaf Fc) y z <;> simp;exact h.ntrans x y z hx hy hz h1 h2
noncomputable def zve {β:Type} (Fc:β->β->Option Int) (l:List β):Option (List β):=
 cond (ordB Fc l && Nat.blt l.length 4611686018427387904) (some (zvd (zaf Fc) l)) none
theorem zyy {w:World} {g:Ghost} {objs:z2c} {t:Ty} {d:t.den} {v:Value} (h:VOK w g objs (.data t d) v):t.isRo=true∧∃ cs,Rep w g none t d cs∧v=mkV t.sk.isAgg cs:=by
 simp only [VOK] at h;obtain ⟨cs,⟨h1,h2⟩,h3⟩:=h;exact ⟨h1,cs,h2,h3⟩
theorem zl1:{t:Ty}->t.noSl=true->t.isRo=true
 | .int _,_=>rfl
 | .bool,_=>rfl
 | .str,_=>rfl
 | .unit,_=>rfl
 | .pair a b,h=>by
  simp only [Ty.noSl,zA] at h
  simp only [Ty.isRo,zl1 h.1,zl1 h.2,Bool.and_self]
 | .arr _ t,h=>by
  simp only [Ty.noSl] at h
  simp only [Ty.isRo];exact zl1 h
 | .sl _ _,h=>by simp [Ty.noSl] at h
 | .ptr _,h=>by simp [Ty.noSl] at h
 | .fn _ _,h=>by simp [Ty.noSl] at h
def noG:Ghost:=⟨fun _=>.alien,fun _ _=>undef,fun _=>0⟩
theorem grown_of {w w':World} (ho:w'.os=w.os) (ht:w'.tape=w.tape) (hp:w'.output=w.output) (hd:w.drawn≤w'.drawn) (hs:w.heap.size≤w'.heap.size) (hk:∀ b,b < w.heap.size->w'.heap[b]? = w.heap[b]?) :
  ∃ q os',w'=grow (w.drewN q) os':=by
 refine ⟨w'.drawn-w.drawn,w'.heap.extract w.heap.size w'.heap.size,?_⟩;have hh:w'.heap=w.heap++w'.heap.extract w.heap.size w'.heap.size:=by
  apply Array.ext
  ·simp;omega
  ·intro i h1 h2;by_cases hi:i < w.heap.size
   ·have:=hk i hi;rw [Array.getElem?_eq_getElem h1,Array.getElem?_eq_getElem hi] at this;simp only [zI] at this;rw [this,Array.getElem_append_left hi]
   ·rw [Array.getElem_append_right (by omega)];simp;congr 1;omega
 cases w with
 | mk h t d o p=>
  cases w' with
  | mk h' t' d' o' p'=>
   simp only at ho ht hp hd hs hh;subst ho;subst ht;subst hp;simp only [grow,World.drewN,World.mk.injEq,and_true,true_and];exact ⟨hh,by omega⟩
theorem cmp_lays {P:Program} {t:Ty} (hns:t.noSl=true) (hag:t.sk.isAgg=true) {g:Nat} {Fc:t.den×t.den×Unit->Option Int} (eg:∀ args w,(callFunc g args).run P w = .ok (.enter g args) w)
  (hc:z03 P g (.pure (.pr (.val t) (.pr (.val t) .un)) [.int .i64] Fc)) {l:List t.den} [Inhabited {y // y∈l}] (hF:∀ x∈l,∀ y∈l,Fc (x,y,())=some (zaf (fun x y=>Fc (x,y,())) x y)) (hrep:∀ x∈l,∃ w g o cs,Rep w g o t x cs)
  (blk off size:Nat) (w:World):CmpLays (α:={y // y∈l}) P g #[] (fun x=>zbb t x.1) t.size (fun x y=>zaf (fun x y=>Fc (x,y,())) x.1 y.1) blk off size w:=by
 intro m os dk _ x y;generalize sortWorldK (fun x:{y // y∈l}=>zbb t x.1) t.size w blk off m dk os=W;have hr:∀ x∈l,∃ cs,Rep W noG none t x cs∧Value.agg (zbb t x).toArray=mkV t.sk.isAgg cs:=by
  intro x hx;obtain ⟨w1,g1,o1,cs,h⟩:=hrep x hx;refine ⟨cs,Rep.noSl hns h,?_⟩;rw [hag,(z88 hns h).1];rfl
 have hro:=zl1 hns;have:=hc W noG (x.1,y.1,()) [.agg (zbb t x.1).toArray,.agg (zbb t y.1).toArray] _ (fun b hb=>absurd rfl hb) (fun b e he=>by simp [tab] at he) ⟨hro,hr x.1 x.2,hro,hr y.1 y.2,trivial⟩ (hF x.1 x.2 y.1 y.2);rcases this with ⟨_,h⟩ | ⟨v,w',h,_⟩
 ·simp only [Array.append_empty];refine Calls.mono h fun e w' he=>?_
  obtain ⟨v,rfl,g',hext,hres⟩:=he;have hv:=(z3k hres.2).1;refine ⟨by rw [hv],?_⟩;exact grown_of hext.os hext.tape hext.output hext.drawn hext.size fun b hb=>(hext.keep b hb (.inl rfl)).1
 ·rw [eg] at h;cases h
theorem zx9 {c:Array Value} {off k j r:Nat} (hr:r < k) (h:off+j*k+k≤c.size):(seg c.toList (off+j*k) k)[r]? = c[off+(j*k+r)]? := by
 simp only [seg];rw [List.getElem?_take_of_lt hr,List.getElem?_drop,Array.getElem?_toList];congr 1;omega
theorem zq0 {P:Program} {ρ:Ren} (L:SlLaysF0.n6 P ρ) {t:Ty} (hns:t.noSl=true) (hag:t.sk.isAgg=true) (aE:∀ w,(isAgg (ρ.t 24)).run P w = .ok true w) (zE:∀ w,(Go.sizeOf (ρ.t 24)).run P w = .ok t.size w)
  {g:Nat} (eg:∀ args w,(callFunc g args).run P w = .ok (.enter g args) w) {Fc:t.den×t.den×Unit->Option Int}
  (hc:z03 P g (.pure (.pr (.val t) (.pr (.val t) .un)) [.int .i64] Fc)) :
  z03 P (ρ.f 6) (.mut ⟨[(0,.ref 0),(1,.val (.fn g .unit))],[.row t]⟩ [0] ⟨[(0,.ref 0)],[.row t]⟩ fun d=>(zve (fun x y=>Fc (x,y,())) d.2.1).map fun l=>(((),()),(l,()))):=by
 intro w g0 d vals r hvl hst hfresh hF;obtain ⟨⟨d1,d2,d3⟩,l,u⟩:=d;simp only [Option.map_eq_some_iff] at hF;obtain ⟨l',hl',rfl⟩:=hF;replace hl':zve (fun x y=>Fc (x,y,())) l=some l':=hl';unfold zve at hl';replace hl':=z1l hl';obtain ⟨hb,hl'⟩:=hl';simp only [zI] at hl';simp only [zA] at hb;obtain ⟨hord,hdef⟩:=zw0 hb.1;have hsz:l.length < 4611686018427387904:=zL hb.2;have ef:∀ args w,(callFunc (ρ.f 6) args).run P w = .ok (.enter (ρ.f 6) args) w:=L.f6.enters rfl
 match vals,hvl with
 | [v0,v1],_=>
 obtain ⟨u0,hu0,hv0⟩:=hst.slots 0 (.ref 0 [] 0) rfl;obtain ⟨u1,hu1,hv1⟩:=hst.slots 1 (.data (.fn g .unit) d2) rfl;simp at hu0 hu1;subst hu0;subst hu1;have hrow:=hst.heap.objs 0 (.row t l 0) rfl;obtain ⟨hro,a,cap,hsv,hsv',h1,h2,h3⟩:=hrow;simp only [VOK] at hv0;obtain ⟨cs,⟨v,rfl,_,hx⟩,hv0⟩:=hv0;have hv0':v0=g0.sv 0 []:=by rw [hv0];exact (hx t l 0 rfl).2 rfl
 obtain ⟨_,cs1,⟨vs1,hvs1,hrep1⟩,hv1⟩:=zyy hv1;have hvs:vs1=[]:=hrep1;subst hvs;subst hvs1;have hv1':v1 = .func (.func g) #[] #[]:=hv1;rw [hsv'] at hv0';subst hv0';subst hv1';left;refine ⟨ef _ _,?_⟩;have fin:∀ w',(∃ n os c' e b off,a=some ⟨b,off,none⟩∧g0.tag b = .row 0 []∧w'.heap[b]? = some (.cells c' e (0,0))∧off+cap*t.size≤c'.size∧(∀ (i:Nat) (h:i < l'.length),∃ w g o,Rep w g o t (l'.get ⟨i,h⟩) (seg c'.toList (off+i*t.size) t.size))∧
   (∀ k,k≠b->k < w.heap.size->w'.heap[k]? = w.heap[k]?)∧w'.os=w.os∧w'.tape=w.tape∧w'.output=w.output∧w.drawn≤w'.drawn∧w.heap.size≤w'.heap.size∧(n:Nat)=n∧(os:Array Go.Obj)=os)∨(a=none∧l'=[]∧cap=0∧w'=w)∨(l=[]∧l'=[]∧w'=w)->
   ∃ v,Ending.returned (.tuple #[]) = .returned v∧∃ g',Ext w g0 w' g'∧HeapOK w' g' (z12 [Obj.row t l' 0])∧
    (∀ k i av,z12 [0] k=some i->z12 [AVal.ref 0 [] 0] k=some av->∃ u,[Value.slice a l.length cap,.func (.func g) #[] #[]][i]? = some u∧VOK w' g' (z12 [Obj.row t l' 0]) av u)∧
    VOK w' g' (z12 [Obj.row t l' 0]) (z6g []) v:=by
  intro w' hw';have hlen:l'.length=l.length:=by rw [←hl'];exact zme hord
  have hE:Ext w g0 w' g0∧Rep w' g0 (some (0,[])) (.sl true t) l' [g0.sv 0 []]:=by
   rcases hw' with ⟨n,os,c',e,b,off,ha,htg,hcell,hle,hel,hoth,ho,ht,hp,hd,hs,_⟩ | ⟨ha,hl2,hcap,rfl⟩ | ⟨hl1,hl2,rfl⟩
   ·refine ⟨⟨ho,ht,hp,hd,hs,fun k hk hkt=>⟨hoth k (fun he=>?_) hk,rfl⟩⟩,a,cap,by rw [hsv',hlen],by rw [hsv',hlen],by rw [hlen];exact h1,h2,.inr ⟨b,off,c',e,ha,htg,hcell,hle,fun i hi=>?_⟩⟩
    ·subst he;rw [htg] at hkt;simp at hkt
    ·obtain ⟨_,_,_,hr⟩:=hel i hi;exact Rep.noSl hns hr
   ·exact ⟨Ext.refl _ _,a,cap,by rw [hsv',hlen],by rw [hsv',hlen],by rw [hlen];exact h1,h2,.inl ⟨ha,hl2,hcap⟩⟩
   ·refine ⟨Ext.refl _ _,?_⟩;have h3':Rep w' g0 (some (0,[])) (.sl true t) l [g0.sv 0 []]:=⟨a,cap,hsv,hsv',h1,h2,h3⟩;rw [hl2,←hl1];exact h3'
  refine ⟨.tuple #[],rfl,g0,hE.1,⟨fun id o ho=>?_,fun b hb=>Nat.lt_of_lt_of_le (hst.heap.tags b hb) hE.1.size⟩,fun k i av hk hav=>?_,?_⟩
  ·cases id with
   | zero=>
    simp only [z12,zI] at ho;subst ho
    exact ⟨hro,hE.2⟩
   | succ id=>simp [z12] at ho
  ·cases k with
   | zero=>
    simp only [z12,zI] at hk hav;subst hk;subst hav;refine ⟨.slice a l.length cap,rfl,?_⟩;simp only [VOK]
    refine ⟨[.slice a l.length cap],⟨_,rfl,rfl,fun t' l2 e ho=>⟨Nat.zero_le _,fun _=>hsv'.symm⟩⟩,rfl⟩
   | succ k=>simp [z12] at hk
  ·simp only [z6g,VOK];exact ⟨[],rfl,by simp [z3p,z1o]⟩
 by_cases hl0:l=[]
 ·have hl2:l'=[]:=by rw [←hl',hl0];rfl
  subst hl0;refine Calls.mono (AnyF.slices_SortFunc_none L a cap _ w) fun e w' he=>?_
  obtain ⟨rfl,rfl⟩:=he;exact fin w' (.inr (.inr ⟨rfl,hl2,rfl⟩))
 ·obtain ⟨x0,rr,hcons⟩:∃ x0 rr,l=x0 :: rr:=by cases l with | nil=>exact absurd rfl hl0 | cons x0 rr=>exact ⟨x0,rr,rfl⟩
  let inst:Inhabited {y // y∈l}:=⟨⟨x0,by rw [hcons];simp⟩⟩;rcases h3 with ⟨_,h3,_⟩ | ⟨b,off,c,e,ha,htg,hcell,hle,hel⟩
  ·exact absurd h3 hl0
  ·have hq:l'=((pdq (ltOf fun a b:{y // y∈l}=>zaf (fun x y=>Fc (x,y,())) a.1 b.1) l.attach.toArray 0 l.attach.toArray.size (Lib.bitLen l.attach.toArray.size) true true).toList).map Subtype.val:=by
    rw [←hl'];subst hcons;rfl
   have hlen:l'.length=l.length:=by rw [←hl'];exact zme hord
   have hblk:b < w.heap.size:=hst.heap.tags b (by rw [htg];simp);have hrep:∀ x∈l,∃ w g o cs,Rep w g o t x cs:=by
    intro x hx;obtain ⟨i,hi,rfl⟩:=List.mem_iff_getElem.1 hx;exact ⟨_,_,_,_,hel i hi⟩
   have hk:∀ x:{y // y∈l},(zbb t x.1).length=t.size:=by
    intro x;obtain ⟨_,_,_,cs,h⟩:=hrep x.1 x.2;rw [←(z88 hns h).1,h.len]
   have hone:∀ x:{y // y∈l},∀ v∈zbb t x.1,v.oneCell'=true:=by
    intro x v hv;obtain ⟨_,_,_,cs,h⟩:=hrep x.1 x.2;obtain ⟨e1,e2⟩:=z88 hns h;exact e2 v (by rw [e1];exact hv)
   have hbnd:∀ i,i < l.length->off+i*t.size+t.size≤c.size:=by
    intro i hi;have h5:(i+1)*t.size≤cap*t.size:=Nat.mul_le_mul_right _ (by omega);rw [Nat.succ_mul] at h5;omega
   have hcells:∀ i (hi:i < l.length),seg c.toList (off+i*t.size) t.size=zbb t (l.get ⟨i,hi⟩):=fun i hi=>(z88 hns (hel i hi)).1
   have hkpos:∀ j,j < l.length*t.size->0 < t.size:=by
    intro j hj;rcases Nat.eq_zero_or_pos t.size with h | h
    ·rw [h] at hj;simp at hj
    ·exact h
   have hH:HoldsK (fun x:{y // y∈l}=>zbb t x.1) t.size w b off l.attach.toArray:=by
    intro j hj;have hj':j < l.length*t.size:=by simpa using hj
    have hp:=hkpos j hj';have hi:j / t.size < l.length:=by rw [Nat.div_lt_iff_lt_mul hp];exact hj'
    have hr:j % t.size < t.size:=Nat.mod_lt _ hp;refine ⟨?_,by simp [World.frozen?,hcell]⟩;rw [get_flatK _ _ _ _ (by simpa using hj')];have e1:(l.attach.toArray)[j / t.size]! = ⟨l[j / t.size],List.getElem_mem hi⟩:=by
     rw [getElem!_pos _ _ (by simpa using hi)];simp
    have h6:=zx9 (c:=c) hr (hbnd _ hi);rw [hcells _ hi] at h6;have e2:j / t.size*t.size+j % t.size=j:=by rw [Nat.mul_comm];exact Nat.div_add_mod j t.size
    rw [e2] at h6;simp only [World.cell?,hcell,Option.isSome_none,Bool.false_eq_true,if_false];rw [←h6];have hlenx:(zbb t l[j / t.size]).length=t.size:=hk ⟨l[j / t.size],List.getElem_mem hi⟩;have h8:j % t.size < (zbb t l[j / t.size]).length:=by rw [hlenx];exact hr
    simp only [e1,id];rw [getElem!_pos (zbb t l[j / t.size]) (j % t.size) h8];exact List.getElem?_eq_getElem h8
   have hsort:=AnyQ.slices_SortFunc_eq L t.size aE zE (fun x:{y // y∈l}=>zbb t x.1) hk hone (fun a b=>zaf (fun x y=>Fc (x,y,())) a.1 b.1) (zvb hord) g #[] b off cap l.attach.toArray w eg
    (cmp_lays hns hag eg hc hdef hrep b off _ w) hH hblk (by simpa using hsz)
   have hsz2:l.attach.toArray.size=l.length:=by simp
   rw [ha];rw [hsz2] at hsort hq;refine Calls.mono hsort fun e' w' he=>?_
   obtain ⟨rfl,n,os,rfl⟩:=he;generalize pdq (ltOf fun a b:{y // y∈l}=>zaf (fun x y=>Fc (x,y,())) a.1 b.1) l.attach.toArray 0 l.length (Lib.bitLen l.length) true true=d' at hq ⊢;have hd':d'.size=l.length:=by rw [←hlen,hq];simp
   have hw:(sortWorldK (fun x:{y // y∈l}=>zbb t x.1) t.size w b off n d' os).heap=(w.heap.modify b (onCells (putCells id off (flatK (fun x:{y // y∈l}=>zbb t x.1) t.size d'))))++os:=rfl;have hoth:∀ k,k < w.heap.size->(sortWorldK (fun x:{y // y∈l}=>zbb t x.1) t.size w b off n d' os).heap[k]? = if b=k then (w.heap[k]?).map (onCells (putCells id off (flatK (fun x:{y // y∈l}=>zbb t x.1) t.size d'))) else w.heap[k]? := by
    intro k hk;rw [hw,Array.getElem?_append_left (by simpa using hk),Array.getElem?_modify]
   have hcs:(putCells id off (flatK (fun x:{y // y∈l}=>zbb t x.1) t.size d') c).size=c.size:=by simp [putCells]
   have hre:=fin (sortWorldK (fun x:{y // y∈l}=>zbb t x.1) t.size w b off n d' os) (.inl ⟨n,os,putCells id off (flatK (fun x:{y // y∈l}=>zbb t x.1) t.size d') c,e,b,off,ha,htg,?_,by rw [hcs];exact hle,fun i hi=>?_,fun k hk hlt=>?_,rfl,rfl,rfl,Nat.le_add_right _ _,?_,rfl,rfl⟩)
   ·rw [ha] at hre;exact hre
   ·rw [hoth b hblk,if_pos rfl,hcell];rfl
   ·have hi2:i < d'.size:=by rw [hd',←hlen];exact hi
    have hx:l'.get ⟨i,hi⟩=d'[i].1:=by
     have h9:l'[i]? = some d'[i].1:=by rw [hq,List.getElem?_map,Array.getElem?_toList,Array.getElem?_eq_getElem hi2];rfl
     have h10:=List.getElem?_eq_getElem hi;rw [h9] at h10;simp only [zI] at h10;exact h10.symm
    obtain ⟨w1,g1,o1,cs,hR⟩:=hrep d'[i].1 d'[i].2;refine ⟨w1,g1,o1,?_⟩;rw [hx];have e0:=(z88 hns hR).1;have hseg:seg (putCells id off (flatK (fun x:{y // y∈l}=>zbb t x.1) t.size d') c).toList (off+i*t.size) t.size=cs:=by
     have hb2:=hbnd i (by rw [←hd'];exact hi2);have hl1:(seg (putCells id off (flatK (fun x:{y // y∈l}=>zbb t x.1) t.size d') c).toList (off+i*t.size) t.size).length=t.size:=z20 (by rw [Array.length_toList,hcs];exact hb2);have hl2:cs.length=t.size:=hR.len;refine List.ext_getElem? fun q=>?_
     by_cases hq2:q < t.size
     ·rw [zx9 hq2 (by rw [hcs];exact hb2)];have hm:i*t.size+q < d'.size*t.size:=by
       have:(i+1)*t.size≤d'.size*t.size:=Nat.mul_le_mul_right _ hi2;rw [Nat.succ_mul] at this;omega
      have hdiv:(i*t.size+q) / t.size=i:=by
       rw [Nat.mul_comm,Nat.mul_add_div (by omega),Nat.div_eq_of_lt hq2];rfl
      have hmod:(i*t.size+q) % t.size=q:=by
       rw [Nat.mul_comm,Nat.mul_add_mod,Nat.mod_eq_of_lt hq2]
      have hin:off+(i*t.size+q) < c.size:=by omega
      rw [putCells,Array.getElem?_mapIdx,Array.getElem?_eq_getElem hin];simp only [Option.map_some,size_flatK];rw [if_pos ⟨by omega,by omega⟩];have es:off+(i*t.size+q)-off=i*t.size+q:=by omega
      rw [es,get_flatK _ _ _ _ hm,hdiv,hmod,getElem!_pos d' i hi2,e0];have h8:q < (zbb t d'[i].1).length:=by rw [hk];exact hq2
      rw [getElem!_pos (zbb t d'[i].1) q h8];exact (List.getElem?_eq_getElem h8).symm
     ·rw [List.getElem?_eq_none (by omega),List.getElem?_eq_none (by omega)]
    rw [hseg];exact hR
   ·rw [hoth k hlt,if_neg (fun h=>hk h.symm)]
   ·rw [hw];simp
end Go.Kz
