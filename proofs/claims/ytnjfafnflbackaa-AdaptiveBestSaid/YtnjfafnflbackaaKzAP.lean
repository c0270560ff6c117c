/-
  Sorting lists by a comparison: what slices.SortFunc leaves, in plain data.
-/
import Derived.Test.YtnjfafnflbackaaKzAR
import Derived.Shelf.SlSortCmp.WholeK
import Derived.Shelf.SlSortCmp.NoneTotal
set_option linter.unusedVariables false
set_option linter.unusedSimpArgs false
namespace Go.Kz
open Go.Proofs Go.Sort
def insD {β:Type} (lt:β->β->Bool) (x:β):List β->List β
 | []=>[x]
 | y :: l=>cond (lt y x) (y :: insD lt x l) (x :: y :: l)
def znl {β:Type} (lt:β->β->Bool):List β->List β
 | []=>[]
 | x :: l=>insD lt x (znl lt l)
structure OrdOn {β:Type} (lt:β->β->Bool) (p:β->Prop):Prop where
 irrefl:∀ x,p x->lt x x=false
 trans:∀ x y z,p x->p y->p z->lt x y=true->lt y z=true->lt x z=true
 ntrans:∀ x y z,p x->p y->p z->lt x y=false->lt y z=false->lt x z=false
def Asc {β:Type} (lt:β->β->Bool):List β->Prop:=List.Pairwise fun x y=>lt y x=false
theorem zge {β:Type} (lt:β->β->Bool) (x:β):(l:List β)->(insD lt x l).Perm (x :: l)
 | []=>List.Perm.refl _
 | y :: l=>by
  simp only [insD]
  cases lt y x with
  | true=>exact ((zge lt x l).cons y).trans (List.Perm.swap x y l)
  | false=>exact List.Perm.refl _
theorem z3r {β:Type} (lt:β->β->Bool):(l:List β)->(znl lt l).Perm l
 | []=>List.Perm.refl _
 | x :: l=>(zge lt x _).trans ((z3r lt l).cons x)
theorem zsi {β:Type} {lt:β->β->Bool} {p:β->Prop} (h:OrdOn lt p) {x:β} (hx:p x):{l:List β}->(∀ y∈l,p y)->Asc lt l->Asc lt (insD lt x l)
 | [],_,_=>List.pairwise_singleton _ _
 | y :: l,hp,ha=>by
  have ha':=List.pairwise_cons.1 ha;simp only [insD]
  cases hyx:lt y x with
  | true=>
   refine List.pairwise_cons.2 ⟨fun z hz=>?_,zsi h hx (fun z hz=>hp z (by simp [hz])) ha'.2⟩;rcases List.mem_cons.1 ((zge lt x l).mem_iff.1 hz) with rfl | hz
   ·cases hxy:lt z y with
    | false=>rfl
    | true=>
     have:=h.trans y z y (hp y (by simp)) hx (hp y (by simp)) hyx hxy;rw [h.irrefl y (hp y (by simp))] at this;cases this
   ·exact ha'.1 z hz
  | false=>
   refine List.pairwise_cons.2 ⟨fun z hz=>?_,ha⟩;rcases List.mem_cons.1 hz with rfl | hz
   ·exact hyx
   ·exact h.ntrans z y x (hp z (by simp [hz])) (hp y (by simp)) hx (ha'.1 z hz) hyx
theorem za3 {β:Type} {lt:β->β->Bool} {p:β->Prop} (h:OrdOn lt p):(l:List β)->(∀ y∈l,p y)->Asc lt (znl lt l)
 | [],_=>List.Pairwise.nil
 | x :: l,hp=>zsi h (hp x (by simp)) (fun y hy=>hp y (List.mem_cons_of_mem _ ((z3r lt l).mem_iff.1 hy))) (za3 h l (fun y hy=>hp y (by simp [hy])))
theorem zk3 {β:Type} {lt:β->β->Bool} {l m:List β} (hs:∀ x y,x∈l->y∈l->lt x y=false->lt y x=false->x=y) (hp:l.Perm m) (hl:Asc lt l) (hm:Asc lt m):l=m:=by
 refine List.Perm.eq_of_pairwise (le:=fun x y=>lt y x=false) (fun a b ha hb h1 h2=>?_) hl hm hp;exact hs a b ha (hp.mem_iff.2 hb) h2 h1
noncomputable def zvd {β:Type} (cf:β->β->Int):List β->List β
 | []=>[]
 | x :: l=>((@pdq {y // y∈x :: l} ⟨⟨x,List.mem_cons_self⟩⟩ (ltOf fun a b=>cf a.1 b.1) (x :: l).attach.toArray 0 (x :: l).attach.toArray.size (Lib.bitLen (x :: l).attach.toArray.size) true true).toList).map Subtype.val
def ltI {β:Type} (cf:β->β->Int) (x y:β):Bool:=decide (cf x y < 0)
theorem zvb {β:Type} {cf:β->β->Int} {l:List β} (h:OrdOn (ltI cf) (·∈l)):SWO (ltOf fun a b:{y // y∈l}=>cf a.1 b.1):=
 ⟨fun x=>h.irrefl x.1 x.2,fun x y z=>h.trans x.1 y.1 z.1 x.2 y.2 z.2,fun x y z=>h.ntrans x.1 y.1 z.1 x.2 y.2 z.2⟩
theorem zri {β:Type} {cf:β->β->Int} {l:List β} (h:OrdOn (ltI cf) (·∈l)):(zvd cf l).Perm l∧Asc (ltI cf) (zvd cf l):=by
 cases l with
 | nil=>exact ⟨List.Perm.refl _,List.Pairwise.nil⟩
 | cons x l=>
  let i:Inhabited {y // y∈x :: l}:=⟨⟨x,List.mem_cons_self⟩⟩;obtain ⟨⟨h1,_,h2⟩,h3⟩:=pdq_sorts (ltOf fun a b:{y // y∈x :: l}=>cf a.1 b.1) (zvb h) (x :: l).attach.toArray 0 (x :: l).attach.toArray.size (Lib.bitLen (x :: l).attach.toArray.size) true true (Nat.zero_le _) (Nat.le_refl _) (Or.inl rfl);have e1:zvd cf (x :: l)=((pdq (ltOf fun a b:{y // y∈x :: l}=>cf a.1 b.1) (x :: l).attach.toArray 0 (x :: l).attach.toArray.size (Lib.bitLen (x :: l).attach.toArray.size) true true).toList).map Subtype.val:=rfl;rw [e1];generalize pdq (ltOf fun a b:{y // y∈x :: l}=>cf a.1 b.1) (x :: l).attach.toArray 0 (x :: l).attach.toArray.size (Lib.bitLen (x :: l).attach.toArray.size) true true=d' at *;refine ⟨?_,?_⟩
  ·rw [←h1,Array.extract_size] at h2;have h2':d'.toList.Perm (x :: l).attach:=by
    refine h2.trans ?_;rw [h1,Array.extract_size]
   have:=h2'.map Subtype.val
   rwa [List.attach_map_subtype_val] at this
  ·unfold Asc;rw [List.pairwise_map,List.pairwise_iff_getElem];intro a b ha hb hab;have:=h3 a b (Nat.zero_le _) hab (by rw [←h1];simpa using hb);rw [getElem!_pos d' a (by simpa using ha),getElem!_pos d' b (by simpa using hb)] at this;simpa [ltOf,ltI] using this
theorem zme {β:Type} {cf:β->β->Int} {l:List β} (h:OrdOn (ltI cf) (·∈l)):(zvd cf l).length=l.length:=(zri h).1.length_eq
end Go.Kz
