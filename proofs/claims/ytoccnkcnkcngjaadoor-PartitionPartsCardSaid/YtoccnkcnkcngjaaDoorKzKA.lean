/-
  Parts replaced; abstract values in cells.
-/
import Derived.Test.YtoccnkcnkcngjaaDoorKzD
set_option linter.unusedVariables false
set_option linter.unusedSimpArgs false
namespace Go.Kz
variable {R:Type}
theorem Rep.anyOwn {w:World} {g:Ghost}:{o o':Own}→{t:Ty}→{d:t.den}→{cs:List Value}→t.isRo=true→Rep w g o t d cs→Rep w g o' t d cs
 | _,_,.int _,_,_,_,h=>h
 | _,_,.bool,_,_,_,h=>h
 | _,_,.str,_,_,_,h=>h
 | _,_,.unit,_,_,_,h=>h
 | _,_,.pair a b,(x,y),_,ht,h=>by
  simp only [Ty.isRo,Bool.and_eq_true] at ht
  obtain ⟨c1,c2,rfl,h1,h2⟩:=h
  exact ⟨c1,c2,rfl,Rep.anyOwn ht.1 h1,Rep.anyOwn ht.2 h2⟩
 | _,_,.arr n t,_,_,ht,h=>⟨h.1,h.2.1,fun i hi=>Rep.anyOwn (by simpa [Ty.isRo] using ht) (h.2.2 i hi)⟩
 | _,_,.sl false t,_,_,_,h=>h
 | _,_,.sl true t,_,_,ht,_=>by simp [Ty.isRo] at ht
 | _,_,.ptr t,_,_,_,h=>h
 | _,_,.fn f t,_,_,_,h=>h
theorem castK_some {a b:Ty} {d:a.den} {k:b.den→Option R} {r:R} (h:castK a b d k=some r):∃ e:a=b,k (cast (congrArg Ty.den e) d)=some r:=by
 unfold castK at h
 split at h
 ·rename_i x hx;exact ⟨x.down,h⟩
 ·simp at h
theorem setI_length {α:Type} (l:List α) (i:Int) (x:α):(setI l i x).length=l.length:=by simp [setI]
theorem setI_get {α:Type} (l:List α) (i:Int) (x:α) (j:Nat) (hj:j < (setI l i x).length) :
  (setI l i x).get ⟨j,hj⟩=if i.toNat=j then x else l.get ⟨j,by simpa [setI] using hj⟩:=by
 simp [setI,List.getElem_set]
theorem setK_rep {w:World} {g:Ghost}:{t:Ty}→{d:t.den}→{p:Path}→{u:Ty}→{e:u.den}→{k:t.den→Option R}→{r:R}→{cs ecs:List Value}→
  t.isRo=true→Rep w g none t d cs→Rep w g none u e ecs→setK t d p u e k=some r→
  ∃ d' off,k d'=some r∧t.sk.off p=some (off,u.sk)∧Rep w g none t d' (splice cs off ecs)
 | t,d,[],u,e,k,r,cs,ecs,ht,hrep,hnew,h=>by
  have hk:castK u t e k=some r:=by cases t <;> simpa [setK] using h
  obtain ⟨rfl,hk⟩:=castK_some hk
  refine ⟨e,0,hk,by simp [Sk.off],?_⟩
  have:splice cs 0 ecs=ecs:=by
   simp only [splice,List.take_zero,List.nil_append,Nat.zero_add]
   rw [hnew.len,←hrep.len];simp
  rw [this];exact hnew
 | .pair a b,(x,y),.fst :: p,u,e,k,r,cs,ecs,ht,hrep,hnew,h=>by
  simp only [setK] at h
  obtain ⟨c1,c2,rfl,h1,h2⟩:=hrep
  simp only [Ty.isRo,Bool.and_eq_true] at ht
  obtain ⟨d',off,hk,ho,hr⟩:=setK_rep ht.1 h1 hnew h
  refine ⟨_,off,hk,by simpa [Ty.sk,Sk.off] using ho,?_⟩
  have:=Sk.off_le ho
  rw [Ty.sk_size,Ty.sk_size] at this
  rw [splice_append_left _ _ _ _ (by rw [h1.len,hnew.len];exact this)]
  exact ⟨_,_,rfl,hr,h2⟩
 | .pair a b,(x,y),.snd :: p,u,e,k,r,cs,ecs,ht,hrep,hnew,h=>by
  simp only [setK] at h
  obtain ⟨c1,c2,rfl,h1,h2⟩:=hrep
  simp only [Ty.isRo,Bool.and_eq_true] at ht
  obtain ⟨d',off,hk,ho,hr⟩:=setK_rep ht.2 h2 hnew h
  refine ⟨_,a.sk.size+off,hk,by simp [Ty.sk,Sk.off,ho],?_⟩
  rw [splice_append_right _ _ _ _ _ (by rw [h1.len,Ty.sk_size])]
  exact ⟨_,_,rfl,h1,hr⟩
 | .arr n t,l,.idx i :: p,u,e,k,r,cs,ecs,ht,hrep,hnew,h=>by
  simp only [setK,Option.bind_eq_some_iff] at h
  obtain ⟨x,hx,h⟩:=h
  obtain ⟨h0,hi,rfl,hlt⟩:=idx_some hx
  have ht':t.isRo=true:=by simpa [Ty.isRo] using ht
  have hl:=hrep.1
  have hcl:=hrep.2.1
  have hn:i.toNat < n:=by rw [←hl];exact hi
  obtain ⟨d',off,hk,ho,hr⟩:=setK_rep ht' (hrep.2.2 _ hi) hnew h
  have hle:=Sk.off_le ho
  rw [Ty.sk_size,Ty.sk_size] at hle
  have hin:(i.toNat+1)*t.size≤n*t.size:=Nat.mul_le_mul_right _ hn
  rw [Nat.add_mul] at hin
  refine ⟨_,i.toNat*t.sk.size+off,hk,?_,?_⟩
  ·simp only [Ty.sk,Sk.off]
   rw [if_pos ⟨h0,by omega⟩,ho];rfl
  ·rw [Ty.sk_size]
   refine ⟨by rw [setI_length];exact hl,?_,fun j hj=>?_⟩
   ·rw [splice_length _ _ _ (by rw [hnew.len];omega)];exact hcl
   ·rw [setI_get]
    split
    ·rename_i hij
     subst hij
     rw [splice_seg_inner _ _ _ _ _ (by rw [hnew.len];exact hle) (by omega)]
     exact hr
    ·rename_i hij
     have hj':j < List.length l:=by simpa [setI] using hj
     have hjn:j < n:=by rw [←hl];exact hj'
     rcases Nat.lt_or_gt_of_ne hij with hlt' | hgt
     ·have h3:(i.toNat+1)*t.size≤j*t.size:=Nat.mul_le_mul_right _ hlt'
      rw [Nat.add_mul] at h3
      rw [seg_splice_after _ _ _ _ _ (by rw [hnew.len];omega) (by rw [hnew.len];omega)]
      exact hrep.2.2 j hj'
     ·have h3:(j+1)*t.size≤i.toNat*t.size:=Nat.mul_le_mul_right _ hgt
      rw [Nat.add_mul] at h3
      rw [seg_splice_before _ _ _ _ _ (by omega) (by omega)]
      exact hrep.2.2 j hj'
 | .sl true t,l,.idx i :: p,_,_,k,r,cs,_,ht,hrep,_,h=>by simp [Ty.isRo] at ht
 | .sl false t,l,s :: p,_,_,k,r,cs,_,ht,hrep,_,h=>by cases s <;> simp [setK] at h
 | .sl true t,l,.fst :: p,_,_,k,r,cs,_,ht,hrep,_,h=>by simp [setK] at h
 | .sl true t,l,.snd :: p,_,_,k,r,cs,_,ht,hrep,_,h=>by simp [setK] at h
 | .int _,_,s :: _,_,_,_,_,_,_,_,_,_,h=>by cases s <;> simp [setK] at h
 | .bool,_,s :: _,_,_,_,_,_,_,_,_,_,h=>by cases s <;> simp [setK] at h
 | .str,_,s :: _,_,_,_,_,_,_,_,_,_,h=>by cases s <;> simp [setK] at h
 | .unit,_,s :: _,_,_,_,_,_,_,_,_,_,h=>by cases s <;> simp [setK] at h
 | .ptr _,_,s :: _,_,_,_,_,_,_,_,_,_,h=>by cases s <;> simp [setK] at h
 | .fn _ _,_,s :: _,_,_,_,_,_,_,_,_,_,h=>by cases s <;> simp [setK] at h
 | .pair _ _,_,.idx _ :: _,_,_,_,_,_,_,_,_,_,h=>by simp [setK] at h
 | .arr _ _,_,.fst :: _,_,_,_,_,_,_,_,_,_,h=>by simp [setK] at h
 | .arr _ _,_,.snd :: _,_,_,_,_,_,_,_,_,_,h=>by simp [setK] at h
abbrev Objs:=Nat→Option Obj
def place (g:Ghost) (id:Nat):(t:Ty)→(pre:Path)→(b off:Nat)→Path→Option (Nat×Nat)
 | _,_,b,off,[]=>some (b,off)
 | .pair a _,pre,b,off,.fst :: p=>place g id a (pre++[.fst]) b off p
 | .pair a c,pre,b,off,.snd :: p=>place g id c (pre++[.snd]) b (off+a.size) p
 | .arr _ t,pre,b,off,.idx i :: p=>place g id t (pre++[.idx i]) b (off+i.toNat*t.size) p
 | .sl true t,pre,_,_,.idx i :: p=>match g.sv id pre with
  | .slice (some a) _ _=>place g id t (pre++[.idx i]) a.block (a.off+i.toNat*t.size) p
  | _=>none
 | _,_,_,_,_=>none
def subSlice (v:Value) (size:Nat) (a b:Int):Value:=match v with
 | .slice x _ cap=>.slice (if cap-a.toNat=0 then x else x.map (·.add (a.toNat*size))) (b-a).toNat (cap-a.toNat)
 | v=>v
def AVal.isAgg:AVal→Bool
 | .data t _=>t.sk.isAgg
 | .agg _=>true
 | _=>false
def mkV (agg:Bool) (cs:List Value):Value:=if agg then .agg cs.toArray else cs.headD undef
def AOK (w:World) (g:Ghost) (objs:Objs):AVal→List Value→Prop
 | .data t d,cs=>t.isRo=true∧Rep w g none t d cs
 | .nilS,cs=>cs=[.slice none 0 0]
 | .ref id p ep,cs=>∃ v,cs=[v]∧v.oneCell'=true∧∀ t l e,objs id=some (.row t l e)→ep≤e∧(e=ep→v=g.sv id p)
 | .view id p ep a b,cs=>∃ v,cs=[v]∧v.oneCell'=true∧∀ t l e,objs id=some (.row t l e)→ep≤e∧
   (e=ep→p=[]∧0≤a∧a≤b∧b≤(l.length:Int)∧v=subSlice (g.sv id p) t.size a b)
 | .bptr id p,cs=>∃ v,cs=[v]∧v.oneCell'=true∧∀ a,objs id=some (.cell a)→∃ off s,a.sk.off p=some (off,s)∧v = .pointer (some ⟨g.blk id,off,none⟩)
 | .eptr id p ep,cs=>∃ v,cs=[v]∧v.oneCell'=true∧∀ t l e,objs id=some (.row t l e)→ep≤e∧
   (e=ep→p≠[]∧∃ b off,place g id (.sl true t) [] 0 0 p=some (b,off)∧v = .pointer (some ⟨b,off,none⟩))
 | .mref id,cs=>∃ v,cs=[v]∧v.oneCell'=true∧∀ kt vt m,objs id=some (.map kt vt m)→v = .map (some (g.blk id))
 | .nv pt id p ep,cs=>∃ v,cs=[v]∧v.oneCell'=true∧∀ t l e i h,objs id=some (.nest t l e i h)→ep≤nep pt p e i∧
   (nep pt p e i=ep→(pt=false→v=g.sv id p)∧(pt=true→p≠[]∧∃ b off,place g id (.sl true t) [] 0 0 p=some (b,off)∧v = .pointer (some ⟨b,off,none⟩)))
 | .clos f c,cs=>∃ vs,cs=[.func (.func f) #[] vs.toArray]∧AOK w g objs c vs
 | .ifc t c,cs=>∃ x cs',cs=[.iface t x]∧AOK w g objs c cs'∧x=mkV c.isAgg cs'
 | .agg c,cs=>AOK w g objs c cs
 | .tup _,_=>False
 | .pr a b,cs=>∃ c1 c2,cs=c1++c2∧AOK w g objs a c1∧AOK w g objs b c2
 | .un,cs=>cs=[]
theorem AOK.len {w:World} {g:Ghost} {objs:Objs}:{a:AVal}→{cs:List Value}→AOK w g objs a cs→cs.length=a.sk.size
 | .data t d,_,h=>by rw [h.2.len];simp [AVal.sk,Ty.sk_size]
 | .nilS,_,h=>by cases h;rfl
 | .ref _ _ _,_,h=>by obtain ⟨v,rfl,_⟩:=h;rfl
 | .view _ _ _ _ _,_,h=>by obtain ⟨v,rfl,_⟩:=h;rfl
 | .bptr _ _,_,h=>by obtain ⟨v,rfl,_⟩:=h;rfl
 | .eptr _ _ _,_,h=>by obtain ⟨v,rfl,_⟩:=h;rfl
 | .mref _,_,h=>by obtain ⟨v,rfl,_⟩:=h;rfl
 | .nv _ _ _ _,_,h=>by obtain ⟨v,rfl,_⟩:=h;rfl
 | .clos _ _,_,h=>by obtain ⟨v,rfl,_⟩:=h;rfl
 | .ifc _ _,_,h=>by obtain ⟨x,cs,rfl,_⟩:=h;rfl
 | .agg c,_,h=>AOK.len (a:=c) h
 | .tup _,_,h=>h.elim
 | .pr a b,_,h=>by
  obtain ⟨c1,c2,rfl,h1,h2⟩:=h
  simp only [List.length_append,AVal.sk,Sk.size,h1.len,h2.len]
 | .un,_,h=>by cases h;rfl
mutual
def VOK (w:World) (g:Ghost) (objs:Objs):AVal→Value→Prop
 | .tup c,v=>∃ vs,v = .tuple vs.toArray∧VsOK w g objs c vs
 | .pr _ _,_=>False
 | .un,_=>False
 | a,v=>∃ cs,AOK w g objs a cs∧v=mkV a.isAgg cs
def VsOK (w:World) (g:Ghost) (objs:Objs):AVal→List Value→Prop
 | .pr a b,vs=>∃ v r,vs=v :: r∧VOK w g objs a v∧VsOK w g objs b r
 | .un,vs=>vs=[]
 | _,_=>False
end
end Go.Kz
namespace Go.Kz
variable {R:Type}
theorem getA_rep {w:World} {g:Ghost} {objs:Objs}:{a:AVal}→{p:Path}→{k:AVal→Option R}→{r:R}→{cs:List Value}→
  AOK w g objs a cs→getA a p k=some r→
  ∃ a' off,k a'=some r∧a.sk.off p=some (off,a'.sk)∧AOK w g objs a' (seg cs off a'.sk.size)∧∀ m,m∉a.ids→m∉a'.ids
 | a,[],k,r,cs,hok,h=>by
  have hk:k a=some r:=by cases a <;> simpa [getA] using h
  exact ⟨a,0,hk,by simp [Sk.off],by rw [←hok.len,seg_all];exact hok,fun m hm=>hm⟩
 | .agg c,s :: p,k,r,cs,hok,h=>by
  simp only [getA] at h
  exact getA_rep (a:=c) (show AOK w g objs c cs from hok) h
 | .pr a b,.fst :: p,k,r,cs,hok,h=>by
  simp only [getA] at h
  obtain ⟨c1,c2,rfl,h1,h2⟩:=hok
  obtain ⟨a',off,hk,ho,hr,hi⟩:=getA_rep h1 h
  have:=Sk.off_le ho
  refine ⟨a',off,hk,by simpa [AVal.sk,Sk.off] using ho,?_,fun m hm=>hi m (by simp [AVal.ids] at hm;exact hm.1)⟩
  rw [seg_append_left _ _ _ _ (by rw [h1.len];exact this)];exact hr
 | .pr a b,.snd :: p,k,r,cs,hok,h=>by
  simp only [getA] at h
  obtain ⟨c1,c2,rfl,h1,h2⟩:=hok
  obtain ⟨a',off,hk,ho,hr,hi⟩:=getA_rep h2 h
  refine ⟨a',a.sk.size+off,hk,by simp [AVal.sk,Sk.off,ho],?_,fun m hm=>hi m (by simp [AVal.ids] at hm;exact hm.2)⟩
  rw [seg_append_right' _ _ _ _ _ h1.len.symm];exact hr
 | .data t d,s :: p,k,r,cs,hok,h=>by
  have h':getK t d (s :: p) (fun u e=>k (.data u e))=some r:=by cases s <;> simpa [getA] using h
  obtain ⟨u,e,off,hk,hu,ho,hr⟩:=getK_rep hok.1 hok.2 h'
  exact ⟨.data u e,off,hk,by simpa [AVal.sk] using ho,⟨hu,by simpa [AVal.sk,Ty.sk_size] using hr⟩,fun m _=>by simp [AVal.ids]⟩
 | .nilS,s :: _,_,_,_,_,h=>by cases s <;> simp [getA] at h
 | .ref _ _ _,s :: _,_,_,_,_,h=>by cases s <;> simp [getA] at h
 | .view _ _ _ _ _,s :: _,_,_,_,_,h=>by cases s <;> simp [getA] at h
 | .bptr _ _,s :: _,_,_,_,_,h=>by cases s <;> simp [getA] at h
 | .eptr _ _ _,s :: _,_,_,_,_,h=>by cases s <;> simp [getA] at h
 | .mref _,s :: _,_,_,_,_,h=>by cases s <;> simp [getA] at h
 | .nv _ _ _ _,s :: _,_,_,_,_,h=>by cases s <;> simp [getA] at h
 | .clos _ _,s :: _,_,_,_,_,h=>by cases s <;> simp [getA] at h
 | .tup _,s :: _,_,_,_,_,h=>by cases s <;> simp [getA] at h
 | .un,s :: _,_,_,_,_,h=>by cases s <;> simp [getA] at h
 | .pr _ _,.idx _ :: _,_,_,_,_,h=>by simp [getA] at h
theorem splitC_rep {w:World} {g:Ghost} {objs:Objs}:{t:Ty}→{d:t.den}→{cs:List Value}→t.isRo=true→Rep w g none t d cs→
  (splitC t d).sk=t.sk→AOK w g objs (splitC t d) cs
 | .pair a b,(x,y),cs,ht,h,hs=>by
  obtain ⟨c1,c2,rfl,h1,h2⟩:=h
  simp only [Ty.isRo,Bool.and_eq_true] at ht
  simp only [splitC,AVal.sk,Ty.sk,Sk.pair.injEq,true_and] at hs
  exact ⟨c1,c2,rfl,⟨ht.1,h1⟩,splitC_rep ht.2 h2 hs⟩
 | .unit,_,cs,_,h,_=>h
 | .int _,_,_,_,_,hs=>by simp [splitC,AVal.sk,Ty.sk] at hs
 | .bool,_,_,_,_,hs=>by simp [splitC,AVal.sk,Ty.sk] at hs
 | .str,_,_,_,_,hs=>by simp [splitC,AVal.sk,Ty.sk] at hs
 | .arr _ _,_,_,_,_,hs=>by simp [splitC,AVal.sk,Ty.sk] at hs
 | .sl _ _,_,_,_,_,hs=>by simp [splitC,AVal.sk,Ty.sk] at hs
 | .ptr _,_,_,_,_,hs=>by simp [splitC,AVal.sk,Ty.sk] at hs
 | .fn _ _,_,_,_,_,hs=>by simp [splitC,AVal.sk,Ty.sk] at hs
theorem splitC_ids:(t:Ty)→(d:t.den)→(splitC t d).ids=[]
 | .pair a b,(x,y)=>by simp [splitC,AVal.ids,splitC_ids b y]
 | .int _,_=>by simp [splitC,AVal.ids]
 | .bool,_=>by simp [splitC,AVal.ids]
 | .str,_=>by simp [splitC,AVal.ids]
 | .unit,_=>by simp [splitC,AVal.ids]
 | .arr _ _,_=>by simp [splitC,AVal.ids]
 | .sl _ _,_=>by simp [splitC,AVal.ids]
 | .ptr _,_=>by simp [splitC,AVal.ids]
 | .fn _ _,_=>by simp [splitC,AVal.ids]
theorem splice_zero_append (c1 c2 ecs:List Value) (h:ecs.length=c1.length):splice (c1++c2) 0 ecs=ecs++c2:=by
 simp only [splice,List.take_zero,List.nil_append,Nat.zero_add,h,List.drop_left]
theorem setSplit_rep {w:World} {g:Ghost} {objs:Objs} {new:AVal} {ecs:List Value} (hn:AOK w g objs new ecs) :
  {t:Ty}→{d:t.den}→{p:Path}→{k:AVal→Option R}→{r:R}→{cs:List Value}→{off:Nat}→
  t.isRo=true→Rep w g none t d cs→t.sk.off p=some (off,new.sk)→setSplit new t d p k=some r→
  ∃ u,k u=some r∧(∀ m,m∉new.ids→m∉u.ids)∧(u.sk=t.sk→AOK w g objs u (splice cs off ecs))
 | .pair a b,(x,y),[.fst],k,r,cs,off,ht,h,ho,hk=>by
  obtain ⟨c1,c2,rfl,h1,h2⟩:=h
  simp only [Ty.isRo,Bool.and_eq_true] at ht
  simp only [Ty.sk,Sk.off,Option.some.injEq,Prod.mk.injEq] at ho
  obtain ⟨rfl,hs⟩:=ho
  refine ⟨_,hk,fun m hm=>by simp [AVal.ids,splitC_ids,hm],fun he=>?_⟩
  simp only [AVal.sk,Ty.sk,Sk.pair.injEq] at he
  rw [splice_zero_append _ _ _ (by rw [hn.len,h1.len,←hs,Ty.sk_size])]
  exact ⟨ecs,c2,rfl,hn,splitC_rep ht.2 h2 he.2⟩
 | .pair a b,(x,y),.fst :: s :: p,k,r,cs,off,ht,h,ho,hk=>by
  obtain ⟨c1,c2,rfl,h1,h2⟩:=h
  simp only [Ty.isRo,Bool.and_eq_true] at ht
  simp only [Ty.sk,Sk.off] at ho
  simp only [setSplit] at hk
  obtain ⟨u,hu,hi,hok⟩:=setSplit_rep hn ht.1 h1 ho hk
  refine ⟨_,hu,fun m hm=>by simp [AVal.ids,splitC_ids,hi m hm],fun he=>?_⟩
  simp only [AVal.sk,Ty.sk,Sk.pair.injEq] at he
  have:=Sk.off_le ho
  rw [Ty.sk_size] at this
  rw [splice_append_left _ _ _ _ (by rw [h1.len,hn.len];exact this)]
  exact ⟨_,c2,rfl,hok he.1,splitC_rep ht.2 h2 he.2⟩
 | .pair a b,(x,y),.snd :: p,k,r,cs,off,ht,h,ho,hk=>by
  obtain ⟨c1,c2,rfl,h1,h2⟩:=h
  simp only [Ty.isRo,Bool.and_eq_true] at ht
  simp only [Ty.sk,Sk.off,Option.map_eq_some_iff,Prod.mk.injEq] at ho
  obtain ⟨⟨o,s⟩,ho,rfl,rfl⟩:=ho
  have hk':setSplit new b y p (fun u=>k (.pr (.data a x) u))=some r:=by simpa [setSplit] using hk
  obtain ⟨u,hu,hi,hok⟩:=setSplit_rep hn ht.2 h2 ho hk'
  refine ⟨_,hu,fun m hm=>by simp [AVal.ids,hi m hm],fun he=>?_⟩
  simp only [AVal.sk,Ty.sk,Sk.pair.injEq] at he
  rw [splice_append_right _ _ _ _ _ (by rw [h1.len,Ty.sk_size])]
  exact ⟨c1,_,rfl,⟨ht.1,h1⟩,hok he.2⟩
 | .pair _ _,_,[],_,_,_,_,_,_,_,hk=>by simp [setSplit] at hk
 | .pair _ _,_,.idx _ :: _,_,_,_,_,_,_,_,hk=>by simp [setSplit] at hk
 | .int _,_,_,_,_,_,_,_,_,_,hk=>by simp [setSplit] at hk
 | .bool,_,_,_,_,_,_,_,_,_,hk=>by simp [setSplit] at hk
 | .str,_,_,_,_,_,_,_,_,_,hk=>by simp [setSplit] at hk
 | .unit,_,_,_,_,_,_,_,_,_,hk=>by simp [setSplit] at hk
 | .arr _ _,_,_,_,_,_,_,_,_,_,hk=>by simp [setSplit] at hk
 | .sl _ _,_,_,_,_,_,_,_,_,_,hk=>by simp [setSplit] at hk
 | .ptr _,_,_,_,_,_,_,_,_,_,hk=>by simp [setSplit] at hk
 | .fn _ _,_,_,_,_,_,_,_,_,_,hk=>by simp [setSplit] at hk
theorem setA_rep {w:World} {g:Ghost} {objs:Objs} {new:AVal} {ecs:List Value} (hn:AOK w g objs new ecs) :
  {a:AVal}→{p:Path}→{k:AVal→Option R}→{r:R}→{cs:List Value}→{off:Nat}→
  AOK w g objs a cs→a.sk.off p=some (off,new.sk)→setA new a p k=some r→
  ∃ a',k a'=some r∧a'.sk=a.sk∧AOK w g objs a' (splice cs off ecs)∧∀ m,m∉a.ids→m∉new.ids→m∉a'.ids
 | a,[],k,r,cs,off,hok,ho,h=>by
  have hk:k new=some r:=by cases a <;> simpa [setA] using h
  simp only [Sk.off,Option.some.injEq,Prod.mk.injEq] at ho
  obtain ⟨rfl,hs⟩:=ho
  have:splice cs 0 ecs=ecs:=by
   simp only [splice,List.take_zero,List.nil_append,Nat.zero_add]
   rw [hn.len,←hs,←hok.len];simp
  exact ⟨new,hk,hs.symm,by rw [this];exact hn,fun m _ h=>h⟩
 | .agg c,s :: p,k,r,cs,off,hok,ho,h=>by
  simp only [setA] at h
  obtain ⟨a',hk,hs,hr,hi⟩:=setA_rep hn (a:=c) (show AOK w g objs c cs from hok) ho h
  exact ⟨.agg a',hk,hs,hr,hi⟩
 | .pr a b,.fst :: p,k,r,cs,off,hok,ho,h=>by
  simp only [setA] at h
  obtain ⟨c1,c2,rfl,h1,h2⟩:=hok
  have ho':a.sk.off p=some (off,new.sk):=by simpa [AVal.sk,Sk.off] using ho
  obtain ⟨a',hk,hs,hr,hi⟩:=setA_rep hn h1 ho' h
  have:=Sk.off_le ho'
  refine ⟨.pr a' b,hk,by simp [AVal.sk,hs],?_,fun m hm hn=>by simp [AVal.ids] at hm ⊢;exact ⟨hi m hm.1 hn,hm.2⟩⟩
  rw [splice_append_left _ _ _ _ (by rw [h1.len,hn.len];exact this)]
  exact ⟨_,_,rfl,hr,h2⟩
 | .pr a b,.snd :: p,k,r,cs,off,hok,ho,h=>by
  simp only [setA] at h
  obtain ⟨c1,c2,rfl,h1,h2⟩:=hok
  simp only [AVal.sk,Sk.off,Option.map_eq_some_iff,Prod.mk.injEq] at ho
  obtain ⟨⟨o,s⟩,ho,rfl,rfl⟩:=ho
  obtain ⟨a',hk,hs,hr,hi⟩:=setA_rep hn h2 ho h
  refine ⟨.pr a a',hk,by simp [AVal.sk,hs],?_,fun m hm hn=>by simp [AVal.ids] at hm ⊢;exact ⟨hm.1,hi m hm.2 hn⟩⟩
  rw [splice_append_right _ _ _ _ _ h1.len.symm]
  exact ⟨_,_,rfl,h1,hr⟩
 | .data t d,s :: p,k,r,cs,off,hok,ho,h=>by
  have h':cond (fitsAt t (s :: p) new) (setFit new t d (s :: p) k)
   (setSplit new t d (s :: p) fun u=>cond (u.sk.same t.sk) (k (.agg u)) none)=some r:=by cases s <;> simpa [setA] using h
  cases hf:fitsAt t (s :: p) new with
  | true=>
   rw [hf] at h'
   cases new with
   | data u e=>
    obtain ⟨d',off',hk,ho',hr⟩:=setK_rep hok.1 hok.2 hn.2 h'
    simp only [AVal.sk] at ho
    rw [ho'] at ho
    simp only [Option.some.injEq,Prod.mk.injEq] at ho
    obtain ⟨rfl,_⟩:=ho
    exact ⟨_,hk,rfl,⟨hok.1,hr⟩,fun m _ _=>by simp [AVal.ids]⟩
   | _=>simp [setFit] at h'
  | false=>
   rw [hf] at h'
   obtain ⟨u,hu,hi,hok'⟩:=setSplit_rep hn hok.1 hok.2 (by simpa [AVal.sk] using ho) h'
   cases hs:u.sk.same t.sk with
   | true=>
    rw [hs] at hu
    exact ⟨.agg u,hu,Sk.same_eq hs,hok' (Sk.same_eq hs),fun m _ hm=>hi m hm⟩
   | false=>rw [hs] at hu;simp at hu
 | .nilS,s :: _,_,_,_,_,_,_,h=>by cases s <;> simp [setA] at h
 | .ref _ _ _,s :: _,_,_,_,_,_,_,h=>by cases s <;> simp [setA] at h
 | .view _ _ _ _ _,s :: _,_,_,_,_,_,_,h=>by cases s <;> simp [setA] at h
 | .bptr _ _,s :: _,_,_,_,_,_,_,h=>by cases s <;> simp [setA] at h
 | .eptr _ _ _,s :: _,_,_,_,_,_,_,h=>by cases s <;> simp [setA] at h
 | .mref _,s :: _,_,_,_,_,_,_,h=>by cases s <;> simp [setA] at h
 | .nv _ _ _ _,s :: _,_,_,_,_,_,_,h=>by cases s <;> simp [setA] at h
 | .clos _ _,s :: _,_,_,_,_,_,_,h=>by cases s <;> simp [setA] at h
 | .tup _,s :: _,_,_,_,_,_,_,h=>by cases s <;> simp [setA] at h
 | .un,s :: _,_,_,_,_,_,_,h=>by cases s <;> simp [setA] at h
 | .pr _ _,.idx _ :: _,_,_,_,_,_,_,h=>by simp [setA] at h
end Go.Kz
namespace Go.Kz
def MapRep (w:World) (g:Ghost) (kt vt:Ty):List MapEntry→List (kt.den×vt.den)→Prop
 | [],[]=>True
 | e :: es,(k,v) :: m=>(∃ cs,Rep w g none kt k cs∧e.key=mkV kt.sk.isAgg cs)∧(∃ cs,Rep w g none vt v cs∧e.val=mkV vt.sk.isAgg cs)∧MapRep w g kt vt es m
 | _,_=>False
theorem MapRep.kept {w w':World} {g g':Ghost} (hr:RoKept w g w' g') {kt vt:Ty}:{es:List MapEntry}→{m:List (kt.den×vt.den)}→MapRep w g kt vt es m→MapRep w' g' kt vt es m
 | [],[],_=>trivial
 | _ :: _,(_,_) :: _,⟨⟨c1,h1,e1⟩,⟨c2,h2,e2⟩,h⟩=>⟨⟨c1,h1.kept hr,e1⟩,⟨c2,h2.kept hr,e2⟩,MapRep.kept hr h⟩
 | [],_ :: _,h=>h.elim
 | _ :: _,[],h=>h.elim
structure Near (w:World) (g:Ghost) (w':World) (g':Ghost) (id:Nat) (p:Path) (b0:Nat):Prop where
 ro:RoKept w g w' g'
 sv:∀ q,¬ p <+: q→g'.sv id q=g.sv id q
 blk:∀ q b,g.tag b = .row id q→¬ p <+: q→g'.tag b = .row id q∧(b≠b0→w'.heap[b]? = w.heap[b]?)
def HoleOK (w:World) (g:Ghost) (id:Nat) (t:Ty) (l:List t.den) (p:Path):Prop:=
 (∃ bk o cap,g.sv id [] = .slice (some ⟨bk,o,none⟩) l.length cap)∧
 ∃ v b0 off c e pre,tyR t p=some v∧place g id (.sl true t) [] 0 0 p=some (b0,off)∧g.tag b0 = .row id pre∧pre.length < p.length∧w.heap[b0]? = some (.cells c e (0,0))∧off < c.size∧
  ∀ (w':World) (g':Ghost) (l1:List v.den) (x:Value),Near w g w' g' id p b0→w'.heap[b0]? = some (.cells (splice c.toList off [x]).toArray e (0,0))→Rep w' g' (some (id,p)) (.sl true v) l1 [x]→
   ∀ {R:Type} (f:List t.den→Option R) (r:R),setK (.sl true t) l p (.sl true v) l1 f=some r→∃ l2,f l2=some r∧Rep w' g' (some (id,[])) (.sl true t) l2 [g'.sv id []]
def ObjOK (w:World) (g:Ghost) (objs:Objs) (id:Nat):Obj→Prop
 | .row t l _=>t.isRo=true∧Rep w g (some (id,[])) (.sl true t) l [g.sv id []]
 | .cell a=>∃ c e,w.heap[g.blk id]? = some (.cells c e (0,0))∧g.tag (g.blk id) = .box id∧AOK w g objs a c.toList
 | .map kt vt m=>∃ es clock,w.heap[g.blk id]? = some (.map es clock)∧g.tag (g.blk id) = .box id∧kt.isRo=true∧vt.isRo=true∧MapRep w g kt vt es.toList m
 | .nest t l _ _ none=>Rep w g (some (id,[])) (.sl true t) l [g.sv id []]
 | .nest t l _ _ (some p)=>HoleOK w g id t l p
structure HeapOK (w:World) (g:Ghost) (objs:Objs):Prop where
 objs:∀ id o,objs id=some o→ObjOK w g objs id o
 tags:∀ b,g.tag b≠.alien→b < w.heap.size
def Known (w:World) (g:Ghost):Prop:=∀ b e,tab b=some e→e.t.isRo=true∧Rep w g none (.ptr (.arr e.n e.t)) e.l [.pointer (some ⟨b,0,none⟩)]
theorem Known.kept {w w':World} {g g':Ghost} (hr:RoKept w g w' g') (h:Known w g):Known w' g':=fun b e he=>⟨(h b e he).1,(h b e he).2.kept hr⟩
structure StOK (n:Nat) (g:Ghost) (w:World) (a:Act) (σ:St):Prop where
 slots:∀ i av,σ.slots i=some av→∃ v,a.tmps[i]? = some v∧VOK w g σ.objs av v
 heap:HeapOK w g σ.objs
 size:a.tmps.size=n
 defers:a.defers=[]
 known:Known w g
structure Fresh (g:Ghost) (σ:St) (m:Nat):Prop where
 objs:σ.objs m=none
 row:∀ b p,g.tag b≠.row m p
 box:∀ b,g.tag b≠.box m
 slots:∀ i av,σ.slots i=some av→m∉av.ids
 cells:∀ id av,σ.objs id=some (.cell av)→m∉av.ids
structure Ext (w:World) (g:Ghost) (w':World) (g':Ghost):Prop where
 os:w'.os=w.os
 tape:w'.tape=w.tape
 output:w'.output=w.output
 drawn:w.drawn≤w'.drawn
 size:w.heap.size≤w'.heap.size
 keep:∀ b,b < w.heap.size→(g.tag b = .alien∨g.tag b = .ro)→w'.heap[b]? = w.heap[b]?∧g'.tag b=g.tag b
theorem Ext.refl (w:World) (g:Ghost):Ext w g w g:=⟨rfl,rfl,rfl,Nat.le_refl _,Nat.le_refl _,fun _ _ _=>⟨rfl,rfl⟩⟩
theorem Ext.trans {w w' w'':World} {g g' g'':Ghost} (h:Ext w g w' g') (k:Ext w' g' w'' g''):Ext w g w'' g'':=by
 refine ⟨k.os.trans h.os,k.tape.trans h.tape,k.output.trans h.output,Nat.le_trans h.drawn k.drawn,Nat.le_trans h.size k.size,fun b hb ht=>?_⟩
 obtain ⟨h1,h2⟩:=h.keep b hb ht
 obtain ⟨k1,k2⟩:=k.keep b (Nat.lt_of_lt_of_le hb h.size) (by rw [h2];exact ht)
 exact ⟨k1.trans h1,k2.trans h2⟩
theorem Ext.ro {w w':World} {g g':Ghost} (h:Ext w g w' g') (ht:∀ b,g.tag b≠.alien→b < w.heap.size):RoKept w g w' g':=
 ⟨fun b hb=>let k:=h.keep b (ht b (by rw [hb];simp)) (.inr hb);⟨k.2.trans hb,k.1⟩⟩
def IdKept (g g':Ghost) (id:Nat) (o o':Option Obj):Prop:=
 o'=none∨
 (∃ t l l' e e',o=some (.row t l e)∧o'=some (.row t l' e')∧(e < e'∨(e'=e∧l'.length=l.length∧∀ p,g'.sv id p=g.sv id p)))∨
 (∃ a a',o=some (.cell a)∧o'=some (.cell a')∧a'.sk=a.sk∧g'.blk id=g.blk id)∨
 (∃ kt vt m m',o=some (.map kt vt m)∧o'=some (.map kt vt m')∧g'.blk id=g.blk id)∨
 (∃ t l l' e e' i i' h h',o=some (.nest t l e i h)∧o'=some (.nest t l' e' i' h')∧e≤e'∧i≤i'∧(e=e'→g'.sv id []=g.sv id [])∧(i=i'→∀ p,g'.sv id p=g.sv id p))
theorem place_congr {g g':Ghost} {id:Nat} (h:∀ p,g'.sv id p=g.sv id p):{t:Ty}→{pre:Path}→{b off:Nat}→{p:Path}→
  place g' id t pre b off p=place g id t pre b off p
 | _,_,_,_,[]=>by simp [place]
 | .pair a c,pre,b,off,.fst :: p=>by simp only [place];exact place_congr h
 | .pair a c,pre,b,off,.snd :: p=>by simp only [place];exact place_congr h
 | .arr n t,pre,b,off,.idx i :: p=>by simp only [place];exact place_congr h
 | .sl true t,pre,b,off,.idx i :: p=>by
  simp only [place,h]
  split
  ·exact place_congr h
  ·rfl
 | .sl false t,_,_,_,s :: _=>by cases s <;> simp [place]
 | .sl true t,_,_,_,.fst :: _=>by simp [place]
 | .sl true t,_,_,_,.snd :: _=>by simp [place]
 | .int _,_,_,_,s :: _=>by cases s <;> simp [place]
 | .bool,_,_,_,s :: _=>by cases s <;> simp [place]
 | .str,_,_,_,s :: _=>by cases s <;> simp [place]
 | .unit,_,_,_,s :: _=>by cases s <;> simp [place]
 | .ptr _,_,_,_,s :: _=>by cases s <;> simp [place]
 | .fn _ _,_,_,_,s :: _=>by cases s <;> simp [place]
 | .pair _ _,_,_,_,.idx _ :: _=>by simp [place]
 | .arr _ _,_,_,_,.fst :: _=>by simp [place]
 | .arr _ _,_,_,_,.snd :: _=>by simp [place]
theorem AOK.frame {w w':World} {g g':Ghost} {objs objs':Objs} (hr:RoKept w g w' g'):{a:AVal}→{cs:List Value}→
  (∀ id,id∈a.ids→IdKept g g' id (objs id) (objs' id))→AOK w g objs a cs→AOK w' g' objs' a cs
 | .data t d,_,_,h=>⟨h.1,h.2.kept hr⟩
 | .nilS,_,_,h=>h
 | .ref id p ep,_,hi,⟨v,hv,hone,h⟩=>by
  refine ⟨v,hv,hone,fun t l e ho=>?_⟩
  rcases hi id (by simp [AVal.ids]) with hk | ⟨t0,l0,l1,e0,e1,h0,h1,hk⟩ | ⟨a,a',h0,h1,_⟩ | ⟨kt',vt',m0,m1,h0,h1,hmb⟩ | ⟨t0,l0,l1,e0,e1,i0,i1,h0',h1',h0,h1,hk⟩
  ·rw [hk] at ho;simp at ho
  ·rw [h1] at ho
   simp only [Option.some.injEq,Obj.row.injEq] at ho
   obtain ⟨rfl,hl,rfl⟩:=ho
   have:=h _ _ _ h0
   rcases hk with hk | ⟨rfl,_,hsv⟩
   ·exact ⟨by omega,fun he=>by omega⟩
   ·exact ⟨this.1,fun he=>by rw [hsv];exact this.2 he⟩
  ·rw [h1] at ho;simp at ho
  ·rw [h1] at ho;simp at ho
  ·rw [h1] at ho;simp at ho
 | .view id p ep a b,_,hi,⟨v,hv,hone,h⟩=>by
  refine ⟨v,hv,hone,fun t l e ho=>?_⟩
  rcases hi id (by simp [AVal.ids]) with hk | ⟨t0,l0,l1,e0,e1,h0,h1,hk⟩ | ⟨a,a',h0,h1,_⟩ | ⟨kt',vt',m0,m1,h0,h1,hmb⟩ | ⟨t0,l0,l1,e0,e1,i0,i1,h0',h1',h0,h1,hk⟩
  ·rw [hk] at ho;simp at ho
  ·rw [h1] at ho
   simp only [Option.some.injEq,Obj.row.injEq] at ho
   obtain ⟨rfl,hl,rfl⟩:=ho
   have:=h _ _ _ h0
   rcases hk with hk | ⟨rfl,hlen,hsv⟩
   ·exact ⟨by omega,fun he=>by omega⟩
   ·refine ⟨this.1,fun he=>?_⟩
    obtain ⟨hp,ha,hab,hb,hvv⟩:=this.2 he
    refine ⟨hp,ha,hab,?_,by rw [hsv];exact hvv⟩
    have:l=l1:=(eq_of_heq hl).symm
    rw [this,hlen];exact hb
  ·rw [h1] at ho;simp at ho
  ·rw [h1] at ho;simp at ho
  ·rw [h1] at ho;simp at ho
 | .bptr id p,_,hi,⟨v,hv,hone,h⟩=>by
  refine ⟨v,hv,hone,fun a ho=>?_⟩
  rcases hi id (by simp [AVal.ids]) with hk | ⟨t0,l0,l1,e0,e1,h0,h1,hk⟩ | ⟨a0,a1,h0,h1,hs,hb⟩ | ⟨kt',vt',m0,m1,h0,h1,hmb⟩ | ⟨t0,l0,l1,e0,e1,i0,i1,h0',h1',h0,h1,hk⟩
  ·rw [hk] at ho;simp at ho
  ·rw [h1] at ho;simp at ho
  ·rw [h1] at ho
   simp only [Option.some.injEq,Obj.cell.injEq] at ho
   subst ho
   rw [hs,hb]
   exact h _ h0
  ·rw [h1] at ho;simp at ho
  ·rw [h1] at ho;simp at ho
 | .eptr id p ep,_,hi,⟨v,hv,hone,h⟩=>by
  refine ⟨v,hv,hone,fun t l e ho=>?_⟩
  rcases hi id (by simp [AVal.ids]) with hk | ⟨t0,l0,l1,e0,e1,h0,h1,hk⟩ | ⟨a,a',h0,h1,_⟩ | ⟨kt',vt',m0,m1,h0,h1,hmb⟩ | ⟨t0,l0,l1,e0,e1,i0,i1,h0',h1',h0,h1,hk⟩
  ·rw [hk] at ho;simp at ho
  ·rw [h1] at ho
   simp only [Option.some.injEq,Obj.row.injEq] at ho
   obtain ⟨rfl,hl,rfl⟩:=ho
   have:=h _ _ _ h0
   rcases hk with hk | ⟨rfl,hlen,hsv⟩
   ·exact ⟨by omega,fun he=>by omega⟩
   ·exact ⟨this.1,fun he=>by rw [place_congr hsv];exact this.2 he⟩
  ·rw [h1] at ho;simp at ho
  ·rw [h1] at ho;simp at ho
  ·rw [h1] at ho;simp at ho
 | .mref id,_,hi,⟨v,hv,hone,h⟩=>by
  refine ⟨v,hv,hone,fun kt vt m ho=>?_⟩
  rcases hi id (by simp [AVal.ids]) with hk | ⟨t0,l0,l1,e0,e1,h0,h1,hk⟩ | ⟨a,a',h0,h1,_⟩ | ⟨kt',vt',m0,m1,h0,h1,hmb⟩ | ⟨t0,l0,l1,e0,e1,i0,i1,h0',h1',h0,h1,hk⟩
  ·rw [hk] at ho;simp at ho
  ·rw [h1] at ho;simp at ho
  ·rw [h1] at ho;simp at ho
  ·rw [h1] at ho
   simp only [Option.some.injEq,Obj.map.injEq] at ho
   obtain ⟨rfl,rfl,_⟩:=ho
   rw [hmb];exact h _ _ _ h0
  ·rw [h1] at ho;simp at ho
 | .nv pt id p ep,_,hi,⟨v,hv,hone,h⟩=>by
  refine ⟨v,hv,hone,fun t l e i h' ho=>?_⟩
  rcases hi id (by simp [AVal.ids]) with hk | ⟨t0,l0,l1,e0,e1,h0,h1,hk⟩ | ⟨a,a',h0,h1,_⟩ | ⟨kt',vt',m0,m1,h0,h1,hmb⟩ | ⟨t0,l0,l1,e0,e1,i0,i1,h0',h1',h0,h1,he,hi,hse,hsi⟩
  ·rw [hk] at ho;simp at ho
  ·rw [h1] at ho;simp at ho
  ·rw [h1] at ho;simp at ho
  ·rw [h1] at ho;simp at ho
  ·rw [h1] at ho
   simp only [Option.some.injEq,Obj.nest.injEq] at ho
   obtain ⟨rfl,_,rfl,rfl,_⟩:=ho
   obtain ⟨hle,hx⟩:=h _ _ _ _ _ h0
   have hmono:nep pt p e0 i0≤nep pt p e1 i1:=by
    unfold nep;split
    ·exact he
    ·exact hi
   refine ⟨Nat.le_trans hle hmono,fun heq=>?_⟩
   have heq0:nep pt p e0 i0=ep:=by omega
   obtain ⟨hx1,hx2⟩:=hx heq0
   refine ⟨fun hp=>?_,fun hp=>?_⟩
   ·subst hp
    rw [hx1 rfl]
    cases p with
    | nil=>
     simp only [nep] at heq heq0
     exact (hse (by omega)).symm
    | cons s q=>
     simp only [nep] at heq heq0
     exact (hsi (by omega) _).symm
   ·subst hp
    have hii:i0=i1:=by
     simp only [nep] at heq heq0;omega
    rw [place_congr (hsi hii)]
    exact hx2 rfl
 | .clos f c,_,hi,⟨vs,hv,h⟩=>⟨vs,hv,AOK.frame hr (a:=c) (fun id h=>hi id h) h⟩
 | .ifc t c,_,hi,⟨x,cs',hv,h,hx⟩=>⟨x,cs',hv,AOK.frame hr (a:=c) (fun id h=>hi id h) h,hx⟩
 | .agg c,_,hi,h=>AOK.frame hr (a:=c) (fun id h=>hi id h) h
 | .tup _,_,_,h=>h.elim
 | .pr a b,_,hi,⟨c1,c2,hc,h1,h2⟩=>
  ⟨c1,c2,hc,AOK.frame hr (fun id h=>hi id (by simp [AVal.ids,h])) h1,AOK.frame hr (fun id h=>hi id (by simp [AVal.ids,h])) h2⟩
 | .un,_,_,h=>h
theorem VOK_of_cells {w:World} {g:Ghost} {objs:Objs} {a:AVal} {v:Value} {cs:List Value} (h:AOK w g objs a cs) (hv:v=mkV a.isAgg cs)
  (h1:∀ x y,a≠.pr x y) (h2:a≠.un):VOK w g objs a v:=by
 cases a with
 | tup c=>exact h.elim
 | pr x y=>exact absurd rfl (h1 x y)
 | un=>exact absurd rfl h2
 | _=>exact ⟨cs,h,hv⟩
theorem VOK_cells {w:World} {g:Ghost} {objs:Objs} {a:AVal} {v:Value} (h:VOK w g objs a v) (ht:∀ c,a≠.tup c) :
  ∃ cs,AOK w g objs a cs∧v=mkV a.isAgg cs:=by
 cases a with
 | tup c=>exact absurd rfl (ht c)
 | pr x y=>exact h.elim
 | un=>exact h.elim
 | _=>exact h
mutual
theorem VOK.frame {w w':World} {g g':Ghost} {objs objs':Objs} (hr:RoKept w g w' g'):{a:AVal}→{v:Value}→
  (∀ id,id∈a.ids→IdKept g g' id (objs id) (objs' id))→VOK w g objs a v→VOK w' g' objs' a v
 | .tup c,_,hi,h=>by
  simp only [VOK] at h ⊢
  obtain ⟨vs,hv,h⟩:=h
  exact ⟨vs,hv,VsOK.frame hr (a:=c) (fun id h=>hi id (by simpa [AVal.ids] using h)) h⟩
 | .pr _ _,_,_,h=>by simp only [VOK] at h
 | .un,_,_,h=>by simp only [VOK] at h
 | .data t d,_,hi,h=>by simp only [VOK] at h ⊢;obtain ⟨cs,h,hv⟩:=h;exact ⟨cs,AOK.frame hr hi h,hv⟩
 | .nilS,_,hi,h=>by simp only [VOK] at h ⊢;obtain ⟨cs,h,hv⟩:=h;exact ⟨cs,AOK.frame hr hi h,hv⟩
 | .ref _ _ _,_,hi,h=>by simp only [VOK] at h ⊢;obtain ⟨cs,h,hv⟩:=h;exact ⟨cs,AOK.frame hr hi h,hv⟩
 | .view _ _ _ _ _,_,hi,h=>by simp only [VOK] at h ⊢;obtain ⟨cs,h,hv⟩:=h;exact ⟨cs,AOK.frame hr hi h,hv⟩
 | .bptr _ _,_,hi,h=>by simp only [VOK] at h ⊢;obtain ⟨cs,h,hv⟩:=h;exact ⟨cs,AOK.frame hr hi h,hv⟩
 | .eptr _ _ _,_,hi,h=>by simp only [VOK] at h ⊢;obtain ⟨cs,h,hv⟩:=h;exact ⟨cs,AOK.frame hr hi h,hv⟩
 | .mref _,_,hi,h=>by simp only [VOK] at h ⊢;obtain ⟨cs,h,hv⟩:=h;exact ⟨cs,AOK.frame hr hi h,hv⟩
 | .nv _ _ _ _,_,hi,h=>by simp only [VOK] at h ⊢;obtain ⟨cs,h,hv⟩:=h;exact ⟨cs,AOK.frame hr hi h,hv⟩
 | .clos _ _,_,hi,h=>by simp only [VOK] at h ⊢;obtain ⟨cs,h,hv⟩:=h;exact ⟨cs,AOK.frame hr hi h,hv⟩
 | .ifc _ _,_,hi,h=>by simp only [VOK] at h ⊢;obtain ⟨cs,h,hv⟩:=h;exact ⟨cs,AOK.frame hr hi h,hv⟩
 | .agg _,_,hi,h=>by simp only [VOK] at h ⊢;obtain ⟨cs,h,hv⟩:=h;exact ⟨cs,AOK.frame hr hi h,hv⟩
theorem VsOK.frame {w w':World} {g g':Ghost} {objs objs':Objs} (hr:RoKept w g w' g'):{a:AVal}→{vs:List Value}→
  (∀ id,id∈a.ids→IdKept g g' id (objs id) (objs' id))→VsOK w g objs a vs→VsOK w' g' objs' a vs
 | .pr a b,_,hi,h=>by
  simp only [VsOK] at h ⊢
  obtain ⟨v,r,hv,h1,h2⟩:=h
  exact ⟨v,r,hv,VOK.frame hr (fun id h=>hi id (by simp [AVal.ids,h])) h1,VsOK.frame hr (fun id h=>hi id (by simp [AVal.ids,h])) h2⟩
 | .un,_,_,h=>by simp only [VsOK] at h ⊢;exact h
 | .tup _,_,_,h=>by simp only [VsOK] at h
 | .data _ _,_,_,h=>by simp only [VsOK] at h
 | .nilS,_,_,h=>by simp only [VsOK] at h
 | .ref _ _ _,_,_,h=>by simp only [VsOK] at h
 | .view _ _ _ _ _,_,_,h=>by simp only [VsOK] at h
 | .bptr _ _,_,_,h=>by simp only [VsOK] at h
 | .eptr _ _ _,_,_,h=>by simp only [VsOK] at h
 | .mref _,_,_,h=>by simp only [VsOK] at h
 | .nv _ _ _ _,_,_,h=>by simp only [VsOK] at h
 | .clos _ _,_,_,h=>by simp only [VsOK] at h
 | .ifc _ _,_,_,h=>by simp only [VsOK] at h
 | .agg _,_,_,h=>by simp only [VsOK] at h
end
structure Same (w:World) (g:Ghost) (w':World) (g':Ghost) (id:Nat):Prop where
 row:Moved w g w' g' id [] id []
 blk:g'.blk id=g.blk id
 box:g.tag (g.blk id) = .box id→g'.tag (g.blk id) = .box id∧w'.heap[g.blk id]? = w.heap[g.blk id]?
theorem ObjOK.frame {w w':World} {g g':Ghost} {objs objs':Objs} (hr:RoKept w g w' g') {id:Nat} {o:Obj} (hs:Same w g w' g' id)
  (hi:∀ a,o = .cell a→∀ id,id∈a.ids→IdKept g g' id (objs id) (objs' id)) (h:ObjOK w g objs id o):ObjOK w' g' objs' id o:=by
 cases o with
 | row t l e=>
  refine ⟨h.1,?_⟩
  have:=hs.row.sv []
  simp only [List.append_nil] at this
  rw [this]
  exact Rep.move hr (o:=some (id,[])) (o':=some (id,[])) hs.row h.2
 | cell a=>
  obtain ⟨c,e,hc,ht,hok⟩:=h
  obtain ⟨h1,h2⟩:=hs.box ht
  refine ⟨c,e,?_,?_,AOK.frame hr (hi a rfl) hok⟩
  ·rw [hs.blk,h2];exact hc
  ·rw [hs.blk];exact h1
 | map kt vt m=>
  obtain ⟨es,ck,hc,ht,h1,h2,hm⟩:=h
  obtain ⟨k1,k2⟩:=hs.box ht
  exact ⟨es,ck,by rw [hs.blk,k2];exact hc,by rw [hs.blk];exact k1,h1,h2,hm.kept hr⟩
 | nest t l e i hole=>
  have hsv:∀ q,g'.sv id q=g.sv id q:=fun q=>by have:=hs.row.sv q;simpa using this
  have hblk:∀ q b,g.tag b = .row id q→g'.tag b = .row id q∧w'.heap[b]? = w.heap[b]? := fun q b hb=>by have:=hs.row.blk q b (by simpa using hb);simpa using this
  cases hole with
  | none=>
   have h':Rep w g (some (id,[])) (.sl true t) l [g.sv id []]:=h
   show Rep w' g' (some (id,[])) (.sl true t) l [g'.sv id []]
   rw [hsv]
   exact Rep.move hr (o:=some (id,[])) (o':=some (id,[])) hs.row h'
  | some p=>
   obtain ⟨⟨bk,o0,cap0,hsv0⟩,v,b0,off,c,ee,pre,hty,hpl,htag,hpre,hcell,hoff,hw⟩:=h
   obtain ⟨k1,k2⟩:=hblk _ _ htag
   refine ⟨⟨bk,o0,cap0,by rw [hsv];exact hsv0⟩,v,b0,off,c,ee,pre,hty,by rw [place_congr hsv];exact hpl,k1,hpre,by rw [k2];exact hcell,hoff,fun w2 g2 l1 x hn hc2 hrep R f r hset=>?_⟩
   refine hw w2 g2 l1 x ⟨⟨fun b hb=>?_⟩,fun q hq=>(hn.sv q hq).trans (hsv q),fun q b hb hq=>?_⟩ hc2 hrep f r hset
   ·obtain ⟨j1,j2⟩:=hr.blk b hb
    obtain ⟨m1,m2⟩:=hn.ro.blk b j1
    exact ⟨m1,m2.trans j2⟩
   ·obtain ⟨j1,j2⟩:=hblk q b hb
    obtain ⟨m1,m2⟩:=hn.blk q b j1 hq
    exact ⟨m1,fun hne=>(m2 hne).trans j2⟩
theorem IdKept.refl (g:Ghost) (id:Nat) (o:Option Obj):IdKept g g id o o:=by
 cases o with
 | none=>exact .inl rfl
 | some o=>cases o with
  | row t l e=>exact .inr (.inl ⟨t,l,l,e,e,rfl,rfl,.inr ⟨rfl,rfl,fun _=>rfl⟩⟩)
  | cell a=>exact .inr (.inr (.inl ⟨a,a,rfl,rfl,rfl,rfl⟩))
  | map k v m=>exact .inr (.inr (.inr (.inl ⟨k,v,m,m,rfl,rfl,rfl⟩)))
  | nest t l e i h=>exact .inr (.inr (.inr (.inr ⟨t,l,l,e,e,i,i,h,h,rfl,rfl,Nat.le_refl _,Nat.le_refl _,fun _=>rfl,fun _ _=>rfl⟩)))
theorem IdKept.same {w w':World} {g g':Ghost} {id:Nat} {o:Option Obj} (hs:Same w g w' g' id):IdKept g g' id o o:=by
 cases o with
 | none=>exact .inl rfl
 | some o=>cases o with
  | row t l e=>exact .inr (.inl ⟨t,l,l,e,e,rfl,rfl,.inr ⟨rfl,rfl,fun p=>by have:=hs.row.sv p;simpa using this⟩⟩)
  | cell a=>exact .inr (.inr (.inl ⟨a,a,rfl,rfl,rfl,hs.blk⟩))
  | map k v m=>exact .inr (.inr (.inr (.inl ⟨k,v,m,m,rfl,rfl,hs.blk⟩)))
  | nest t l e i h=>exact .inr (.inr (.inr (.inr ⟨t,l,l,e,e,i,i,h,h,rfl,rfl,Nat.le_refl _,Nat.le_refl _,fun _=>by have:=hs.row.sv [];simpa using this,fun _ p=>by have:=hs.row.sv p;simpa using this⟩)))
theorem put_get {a:Act} {d:Option Nat} {v:Value} {i:Nat}:(a.put d v).tmps[i]? = if d=some i∧i < a.tmps.size then some v else a.tmps[i]? := by
 cases d with
 | none=>simp [Act.put]
 | some j=>
  simp only [Act.put,Option.some.injEq]
  rw [Array.getElem?_setIfInBounds]
  by_cases h:j=i
  ·subst h
   by_cases h2:j < a.tmps.size
   ·simp [h2]
   ·simp [h2]
  ·simp [h]
theorem put_size {a:Act} {d:Option Nat} {v:Value}:(a.put d v).tmps.size=a.tmps.size:=by cases d <;> simp [Act.put]
theorem put_defers {a:Act} {d:Option Nat} {v:Value}:(a.put d v).defers=a.defers:=by cases d <;> simp [Act.put]
theorem eval_tmp {a:Act} {t:Nat} {v:Value} (h:a.tmps[t]? = some v):a.eval (.tmp t)=v:=by
 simp [Act.eval,Array.getD_eq_getD_getElem?,h]
end Go.Kz
namespace Go.Kz
variable {R:Type}
def Agree (w w':World):Prop:=∀ b,b < w.heap.size→w'.heap[b]? = w.heap[b]?
theorem Agree.refl (w:World):Agree w w:=fun _ _=>rfl
def AgP (o:Oper) (w w':World):Prop:=isP o=false→Agree w w'
theorem AgP.refl (o:Oper) (w:World):AgP o w w:=fun _=>Agree.refl w
def Post (n:Nat) (k:St→Option R) (r:R) (g:Ghost) (w:World) (σ:St) (base:Nat) (mo:Bool) (K:Act→World→Prop):Prop:=
 ∀ σ' g' a' w',k σ'=some r→StOK n g' w' a' σ'→Ext w g w' g'→(∀ m,(m < base∨base+8≤m)→Fresh g σ m→Fresh g' σ' m)→σ'.next=σ.next→(mo=false→Agree w w')→K a' w'
theorem StOK.put {n:Nat} {g:Ghost} {w:World} {a:Act} {σ:St} (h:StOK n g w a σ) {d:Nat} (hd:d < n) {av:AVal} {v:Value} (hv:VOK w g σ.objs av v) :
  StOK n g w (a.put (some d) v) (σ.set d av):=by
 refine ⟨fun i x hx=>?_,h.heap,by rw [put_size];exact h.size,by rw [put_defers];exact h.defers,h.known⟩
 simp only [St.set,upd] at hx
 rw [put_get]
 by_cases hi:i=d
 ·subst hi
  have:Nat.beq i i=true:=Nat.beq_refl i
  rw [this] at hx
  simp only [cond_true,Option.some.injEq] at hx
  subst hx
  exact ⟨v,by rw [if_pos ⟨rfl,by rw [h.size];exact hd⟩],hv⟩
 ·have:Nat.beq i d=false:=by
   cases hb:Nat.beq i d with
   | true=>exact absurd (Nat.eq_of_beq_eq_true hb) hi
   | false=>rfl
  rw [this] at hx
  simp only [cond_false] at hx
  obtain ⟨u,hu,hok⟩:=h.slots i x hx
  exact ⟨u,by rw [if_neg (by intro hh;simp at hh;exact hi hh.1.symm)];exact hu,hok⟩
theorem StOK.putU {n:Nat} {g:Ghost} {w:World} {a:Act} {σ:St} (h:StOK n g w a σ) (d:Option Nat) (v:Value):StOK n g w (a.put d v) (σ.unset d):=by
 cases d with
 | none=>exact h
 | some d=>
  refine ⟨fun i x hx=>?_,h.heap,by rw [put_size];exact h.size,by rw [put_defers];exact h.defers,h.known⟩
  simp only [St.unset,upd] at hx
  rw [put_get]
  cases hb:Nat.beq i d with
  | true=>rw [hb] at hx;simp at hx
  | false=>
   rw [hb] at hx
   simp only [cond_false] at hx
   obtain ⟨u,hu,hok⟩:=h.slots i x hx
   refine ⟨u,?_,hok⟩
   rw [if_neg (by intro hh;simp at hh;rw [hh.1] at hb;rw [Nat.beq_refl] at hb;simp at hb)];exact hu
theorem Fresh.set {g:Ghost} {σ:St} {m:Nat} (h:Fresh g σ m) (d:Nat) {av:AVal} (hv:m∉av.ids):Fresh g (σ.set d av) m:=by
 refine ⟨h.objs,h.row,h.box,fun i x hx=>?_,h.cells⟩
 simp only [St.set,upd] at hx
 cases hb:Nat.beq i d with
 | true=>rw [hb] at hx;simp at hx;subst hx;exact hv
 | false=>rw [hb] at hx;exact h.slots i x hx
theorem Fresh.unset {g:Ghost} {σ:St} {m:Nat} (h:Fresh g σ m) (d:Option Nat):Fresh g (σ.unset d) m:=by
 cases d with
 | none=>exact h
 | some d=>
  refine ⟨h.objs,h.row,h.box,fun i x hx=>?_,h.cells⟩
  simp only [St.unset,upd] at hx
  cases hb:Nat.beq i d with
  | true=>rw [hb] at hx;simp at hx
  | false=>rw [hb] at hx;exact h.slots i x hx
theorem putK_some {c:Ctx} {σ:St} {d:Option Nat} {av:AVal} {k:St→Option R} {r:R} (h:σ.putK c d av k=some r) :
  (d=none∧k σ=some r)∨∃ i,d=some i∧i < c.ntmps∧k (σ.set i av)=some r:=by
 cases d with
 | none=>exact .inl ⟨rfl,h⟩
 | some i=>
  simp only [St.putK] at h
  cases hb:Nat.blt i c.ntmps with
  | false=>rw [hb] at h;simp at h
  | true=>
   rw [hb] at h
   refine .inr ⟨i,rfl,?_,h⟩
   have:=Nat.le_of_ble_eq_true hb
   omega
structure Yield (P:Program) (o:Oper) (a:Act) (w:World) (g:Ghost) (σ:St) (c:Ctx) (k:St→Option R) (r:R):Prop where
 out:∃ av v,(∀ w',AgP o w w'→(execOp a.eval o).run P w' = .ok (.value v) w')∧VOK w g σ.objs av v∧(∀ m,Fresh g σ m→m∉av.ids)∧σ.putK c o.dst av k=some r
theorem yld {P:Program} {o:Oper} {a:Act} {w:World} {c:Ctx} {σ:St} {g:Ghost} {k:St→Option R} {r:R} {av:AVal} {v:Value}
  (hrun:∀ w',AgP o w w'→(execOp a.eval o).run P w' = .ok (.value v) w') (hv:VOK w g σ.objs av v) (hids:∀ m,Fresh g σ m→m∉av.ids) (h:σ.putK c o.dst av k=some r):Yield P o a w g σ c k r:=
 ⟨av,v,hrun,hv,hids,h⟩
theorem wp_pure {P:Program} {o:Oper} {a:Act} {w:World} {K:Act→World→Prop} {Q:Exit→Act→World→Prop} {c:Ctx} {σ:St} {g:Ghost} {k:St→Option R} {r:R} {base:Nat} {mo:Bool}
  {av:AVal} {v:Value} (hst:StOK c.ntmps g w a σ) (hrun:(execOp a.eval o).run P w = .ok (.value v) w)
  (hv:VOK w g σ.objs av v) (hids:∀ m,Fresh g σ m→m∉av.ids) (h:σ.putK c o.dst av k=some r) (hK:Post c.ntmps k r g w σ base mo K):o.wp P a w K Q:=by
 unfold Oper.wp
 rw [hrun,Oper.upon_value]
 rcases putK_some h with ⟨hd,hk⟩ | ⟨i,hd,hi,hk⟩
 ·rw [hd];exact hK σ g a w hk hst (Ext.refl _ _) (fun m _ hm=>hm) rfl (fun _=>Agree.refl w)
 ·rw [hd];exact hK _ g _ w hk (hst.put hi hv) (Ext.refl _ _) (fun m _ hm=>hm.set i (hids m hm)) rfl (fun _=>Agree.refl w)
theorem Yield.wp {P:Program} {o:Oper} {a:Act} {w:World} {K:Act→World→Prop} {Q:Exit→Act→World→Prop} {c:Ctx} {σ:St} {g:Ghost} {k:St→Option R} {r:R} {base:Nat} {mo:Bool}
  (hy:Yield P o a w g σ c k r) (hst:StOK c.ntmps g w a σ) (hK:Post c.ntmps k r g w σ base mo K):o.wp P a w K Q:=by
 obtain ⟨av,v,h1,h2,h3,h4⟩:=hy.out
 exact wp_pure hst (h1 w (AgP.refl o w)) h2 h3 h4 hK
theorem VOK_int {w:World} {g:Ghost} {objs:Objs} {k:IntKind} {n:Int} {v:Value} (h:VOK w g objs (.data (.int k) n) v):v = .int k n∧k.min≤n∧n≤k.max:=by
 simp only [VOK] at h
 obtain ⟨cs,⟨_,hc,h1,h2⟩,hv⟩:=h
 subst hc
 exact ⟨hv,h1,h2⟩
theorem VOK_int_mk {w:World} {g:Ghost} {objs:Objs} {k:IntKind} {n:Int} (h:k.min≤n∧n≤k.max):VOK w g objs (.data (.int k) n) (.int k n):=by
 simp only [VOK]
 exact ⟨[.int k n],⟨rfl,rfl,h⟩,rfl⟩
theorem VOK_bool {w:World} {g:Ghost} {objs:Objs} {b:Bool} {v:Value} (h:VOK w g objs (.data .bool b) v):v = .bool b:=by
 simp only [VOK] at h
 obtain ⟨cs,⟨_,hc⟩,hv⟩:=h
 cases hc
 exact hv
theorem VOK_bool_mk {w:World} {g:Ghost} {objs:Objs} (b:Bool):VOK w g objs (.data .bool b) (.bool b):=by
 simp only [VOK]
 exact ⟨[.bool b],⟨rfl,rfl⟩,rfl⟩
theorem VOK_nil {w:World} {g:Ghost} {objs:Objs} {v:Value}:VOK w g objs .nilS v↔v = .slice none 0 0:=by
 simp only [VOK]
 exact ⟨fun ⟨cs,h,hv⟩=>by cases h;exact hv,fun h=>⟨_,rfl,h⟩⟩
theorem wrap_has (k:IntKind) (n:Int):k.min≤k.wrap n∧k.wrap n≤k.max:=by
 cases k <;> simp only [IntKind.wrap,IntKind.min,IntKind.max,IntKind.bits,IntKind.signed] <;> simp <;> (try split) <;> omega
theorem ev_ok {n:Nat} {g:Ghost} {w:World} {a:Act} {σ:St} (hst:StOK n g w a σ) {x:Operand} {av:AVal} (h:ev σ x=some av) :
  VOK w g σ.objs av (a.eval x)∧∀ m,Fresh g σ m→m∉av.ids:=by
 cases x with
 | tmp t=>
  obtain ⟨v,hv,hok⟩:=hst.slots t av h
  rw [eval_tmp hv]
  exact ⟨hok,fun m hm=>hm.slots t av h⟩
 | const v=>
  cases v with
  | int k i=>
   simp only [ev] at h
   cases hb:(decide (k.min≤i) && decide (i≤k.max)) with
   | false=>rw [hb] at h;simp at h
   | true=>
    rw [hb] at h
    simp only [cond_true,Option.some.injEq] at h
    subst h
    simp at hb
    exact ⟨VOK_int_mk hb,fun m _=>by simp [AVal.ids]⟩
  | bool b=>
   simp only [ev,Option.some.injEq] at h
   subst h
   exact ⟨VOK_bool_mk b,fun m _=>by simp [AVal.ids]⟩
  | string s=>
   simp only [ev] at h
   cases hb:Nat.ble s.size 100000 with
   | false=>rw [hb] at h;simp at h
   | true=>
    rw [hb] at h
    simp only [cond_true,Option.some.injEq] at h
    subst h
    refine ⟨?_,fun m _=>by simp [AVal.ids]⟩
    have:=Nat.le_of_ble_eq_true hb
    simp only [VOK]
    exact ⟨[.string s],⟨rfl,s,rfl,rfl,by unfold maxLen;omega⟩,rfl⟩
  | slice b l cp=>
   cases b with
   | some _=>simp [ev] at h
   | none=>
    cases l with
    | succ _=>simp [ev] at h
    | zero=>
     cases cp with
     | succ _=>simp [ev] at h
     | zero=>
      simp only [ev,Option.some.injEq] at h
      subst h
      exact ⟨VOK_nil.2 rfl,fun m _=>by simp [AVal.ids]⟩
  | _=>simp [ev] at h
 | global b=>
  simp only [ev] at h
  split at h
  ·rename_i e he
   simp only [Option.some.injEq] at h
   subst h
   obtain ⟨h1,h2⟩:=hst.known b e he
   refine ⟨?_,fun m _=>by simp [AVal.ids]⟩
   simp only [VOK]
   exact ⟨[.pointer (some ⟨b,0,none⟩)],⟨h1,h2⟩,rfl⟩
  ·simp at h
 | func f=>
  simp only [ev,Option.some.injEq] at h
  subst h
  refine ⟨?_,fun m _=>by simp [AVal.ids]⟩
  simp only [VOK]
  exact ⟨[.func (.func f) #[] #[]],⟨[],rfl,rfl⟩,rfl⟩
theorem evs_ok {n:Nat} {g:Ghost} {w:World} {a:Act} {σ:St} (hst:StOK n g w a σ):{l:List Operand}→{av:AVal}→evs σ l=some av→
  VsOK w g σ.objs av (l.map a.eval)∧∀ m,Fresh g σ m→m∉av.ids
 | [],av,h=>by
  simp only [evs,Option.some.injEq] at h
  subst h
  exact ⟨by simp [VsOK],fun m _=>by simp [AVal.ids]⟩
 | x :: l,av,h=>by
  simp only [evs] at h
  split at h
  ·rename_i a1 c1 h1 h2
   simp only [Option.some.injEq] at h
   subst h
   have e1:=ev_ok hst h1
   have e2:=evs_ok hst h2
   refine ⟨?_,fun m hm=>?_⟩
   ·simp only [VsOK,List.map_cons]
    exact ⟨_,_,rfl,e1.1,e2.1⟩
   ·simp only [AVal.ids,List.mem_append,not_or]
    exact ⟨e1.2 m hm,e2.2 m hm⟩
  ·simp at h
end Go.Kz
namespace Go.Kz
variable {R:Type}
section
variable {P:Program} {o:Oper} {a:Act} {w:World} {K:Act→World→Prop} {Q:Exit→Act→World→Prop} {c:Ctx} {σ:St} {g:Ghost} {k:St→Option R} {r:R} {base:Nat}
theorem op_move {x:Operand} (ho:o.op = .move x∨o.op = .assign x) (hst:StOK c.ntmps g w a σ) (h:opK0 c σ base o k=some r):Yield P o a w g σ c k r:=by
 rcases ho with ho | ho <;> simp only [opK0,ho] at h <;> split at h
 ·rename_i av hav
  obtain ⟨hv,hf⟩:=ev_ok hst hav
  exact yld (v:=a.eval x) (fun _ _=>by simp [execOp,ho]) hv hf h
 ·simp at h
 ·rename_i av hav
  obtain ⟨hv,hf⟩:=ev_ok hst hav
  exact yld (v:=a.eval x) (fun _ _=>by simp [execOp,ho]) hv hf h
 ·simp at h
theorem op_pick {t x y:Operand} (ho:o.op = .pick t x y) (hst:StOK c.ntmps g w a σ) (h:opK0 c σ base o k=some r):Yield P o a w g σ c k r:=by
 simp only [opK0,ho] at h
 split at h
 ·rename_i b hb
  have ht:=VOK_bool (ev_ok hst hb).1
  cases b with
  | true=>
   simp only [cond_true] at h
   split at h
   ·rename_i av hav
    obtain ⟨hv,hf⟩:=ev_ok hst hav
    exact yld (v:=a.eval x) (fun _ _=>by simp [execOp,ho,ht,asBool]) hv hf h
   ·simp at h
  | false=>
   simp only [cond_false] at h
   split at h
   ·rename_i av hav
    obtain ⟨hv,hf⟩:=ev_ok hst hav
    exact yld (v:=a.eval y) (fun _ _=>by simp [execOp,ho,ht,asBool]) hv hf h
   ·simp at h
 ·simp at h
structure Plain (f:AVal→Option R) (r:R) (s:Sem Value) (P:Program):Prop where
 out:∃ av v,f av=some r∧(∀ w,s.run P w = .ok v w)∧av.ids=[]∧∀ w g objs,VOK w g objs av v
theorem Plain.int {f:AVal→Option R} {s:Sem Value} {k:IntKind} {n:Int} (h:f (.data (.int k) n)=some r) (hs:∀ w,s.run P w = .ok (.int k n) w) (hn:k.min≤n∧n≤k.max):Plain f r s P:=
 ⟨_,_,h,hs,rfl,fun _ _ _=>VOK_int_mk hn⟩
theorem Plain.bool {f:AVal→Option R} {s:Sem Value} {b:Bool} (h:f (.data .bool b)=some r) (hs:∀ w,s.run P w = .ok (.bool b) w):Plain f r s P:=
 ⟨_,_,h,hs,rfl,fun _ _ _=>VOK_bool_mk b⟩
theorem binInt_ok {op:BinOp} {kd:IntKind} {x y:Int} {f:AVal→Option R} (hx:kd.min≤x∧x≤kd.max) (T:TypeId) (hsh:isShift op=false)
  (h:binInt op kd x y f=some r):Plain f r (binOp op T (.int kd x) (.int kd y)) P:=by
 cases op <;> simp only [binInt] at h <;> simp only [isShift] at hsh
 case add=>exact .int h (fun _=>by simp [binOp,Op.intArith]) (wrap_has _ _)
 case sub=>exact .int h (fun _=>by simp [binOp,Op.intArith]) (wrap_has _ _)
 case mul=>exact .int h (fun _=>by simp [binOp,Op.intArith]) (wrap_has _ _)
 case quo=>
  cases hb:(y == 0) with
  | true=>rw [hb] at h;simp at h
  | false=>
   rw [hb] at h
   have hy:¬ y=0:=by simpa using hb
   exact .int h (fun _=>by simp [binOp,Op.intDiv,hy]) (wrap_has _ _)
 case rem=>
  cases hb:(y == 0) with
  | true=>rw [hb] at h;simp at h
  | false=>
   rw [hb] at h
   have hy:¬ y=0:=by simpa using hb
   refine .int h (fun _=>by simp [binOp,Op.intDiv,hy]) ?_
   have h0:kd.min≤0∧0≤kd.max:=by cases kd <;> simp [IntKind.min,IntKind.max,IntKind.bits,IntKind.signed]
   have h3:(x.tmod y).natAbs≤x.natAbs:=by rw [Int.natAbs_tmod];exact Nat.mod_le _ _
   rcases Int.le_total 0 x with hp | hp
   ·have h1:=Int.tmod_nonneg y hp
    omega
   ·have h1:x.tmod y≤0:=by
     have:=Int.tmod_nonneg y (a:=-x) (by omega)
     rw [Int.neg_tmod] at this;omega
    omega
 case and=>exact .int h (fun _=>by simp [binOp,Op.intBits]) (wrap_has _ _)
 case or=>exact .int h (fun _=>by simp [binOp,Op.intBits]) (wrap_has _ _)
 case xor=>exact .int h (fun _=>by simp [binOp,Op.intBits]) (wrap_has _ _)
 case andNot=>exact .int h (fun _=>by simp [binOp,Op.intBits]) (wrap_has _ _)
 case eql=>exact .bool h (fun _=>by simp [binOp,Op.intCmp])
 case neq=>exact .bool h (fun _=>by simp [binOp,Op.intCmp])
 case lss=>exact .bool h (fun _=>by simp [binOp,Op.intCmp])
 case leq=>exact .bool h (fun _=>by simp [binOp,Op.intCmp])
 case gtr=>exact .bool h (fun _=>by simp [binOp,Op.intCmp])
 case geq=>exact .bool h (fun _=>by simp [binOp,Op.intCmp])
 all_goals simp at hsh h
theorem shiftInt_ok {op:BinOp} {kd j:IntKind} {x y:Int} {f:AVal→Option R} (hx:kd.min≤x∧x≤kd.max) (T:TypeId)
  (h:shiftInt op kd x y f=some r):Plain f r (binOp op T (.int kd x) (.int j y)) P:=by
 cases op <;> simp only [shiftInt] at h
 case shl=>
  cases hb:decide (y < 0) with
  | true=>rw [hb] at h;simp at h
  | false=>
   rw [hb] at h
   have hy:¬ y < 0:=by simpa using hb
   exact .int h (fun _=>by simp [binOp,Op.shift,hy]) (wrap_has _ _)
 case shr=>
  cases hb:decide (y < 0) with
  | true=>rw [hb] at h;simp at h
  | false=>
   rw [hb] at h
   have hy:¬ y < 0:=by simpa using hb
   refine .int h (fun _=>by simp [binOp,Op.shift,hy]) ?_
   have h0:kd.min≤0∧0≤kd.max:=by cases kd <;> simp [IntKind.min,IntKind.max,IntKind.bits,IntKind.signed]
   have h2:(1:Int)≤2 ^ (min y.toNat kd.bits):=by
    have:=Nat.one_le_two_pow (n:=min y.toNat kd.bits)
    exact_mod_cast this
   generalize hz:(2:Int) ^ (min y.toNat kd.bits)=z at h2
   rw [Int.fdiv_eq_ediv_of_nonneg _ (by omega)]
   rcases Int.le_total 0 x with hp | hp
   ·have h3:=Int.ediv_nonneg hp (show 0≤z by omega)
    have h4:=Int.ediv_le_self z hp
    omega
   ·have h3:x / z≤0:=Int.ediv_le_of_le_mul (by omega) (by omega)
    have h4:x≤x / z:=by
     have:=Int.le_ediv_of_mul_le (a:=x) (b:=x) (c:=z) (by omega) (by
      have:=Int.mul_le_mul_of_nonpos_left (a:=x) (b:=z) (c:=1) hp h2
      rw [Int.mul_one] at this;exact this)
     exact this
    omega
 all_goals simp at h
end
end Go.Kz
namespace Go.Kz
variable {R:Type}
theorem nbeq {a b:Nat}:(Nat.beq a b=true)=(a=b):=propext ⟨Nat.eq_of_beq_eq_true,fun h=>h ▸ Nat.beq_refl a⟩
def zeroCells:Ty→List Value
 | .int k=>[.int k 0]
 | .bool=>[.bool false]
 | .str=>[.string ByteArray.empty]
 | .unit=>[]
 | .pair a b=>zeroCells a++zeroCells b
 | .arr n t=>(List.replicate n (zeroCells t)).flatten
 | .sl _ _=>[.slice none 0 0]
 | .ptr _=>[.pointer none]
 | .fn _ _=>[.nilFunc]
structure InfoOK (P:Program) (T:TypeId) (t:Ty):Prop where
 info:∃ i z,P.info? T=some i∧i.size=t.size∧i.bytes≤32768∧i.zero=some z∧z.cells.toList=zeroCells t∧0 < i.size
mutual
def TyOK (P:Program):Ty→TypeId→Prop
 | .int k,T=>P.underlying T=some (.int k)∧InfoOK P T (.int k)
 | .bool,T=>P.underlying T=some .bool∧InfoOK P T .bool
 | .str,T=>P.underlying T=some .string∧InfoOK P T .str
 | .unit,_=>False
 | .pair a b,T=>(∃ fs,P.underlying T=some (.struct fs)∧FsOK P (.pair a b) fs.toList 0)∧InfoOK P T (.pair a b)
 | .arr n t,T=>(∃ E,P.underlying T=some (.array n E)∧TyOK P t E)∧InfoOK P T (.arr n t)
 | .sl o t,T=>(∃ E,P.underlying T=some (.slice E)∧TyOK P t E)∧InfoOK P T (.sl o t)
 | .ptr t,T=>(∃ E,P.underlying T=some (.pointer E))∧InfoOK P T (.ptr t)
 | .fn f c,T=>(∃ a b d,P.underlying T=some (.func a b d))∧InfoOK P T (.fn f c)
def FsOK (P:Program):Ty→List Field→Nat→Prop
 | .pair a b,f :: fs,off=>f.offset=off∧TyOK P a f.type∧FsOK P b fs (off+a.size)
 | .unit,[],_=>True
 | _,_,_=>False
end
theorem TyOK.info {P:Program} {t:Ty} {T:TypeId} (h:TyOK P t T):InfoOK P T t:=by
 cases t <;> simp only [TyOK] at h <;> first | exact h.2 | exact h.elim
def sameZ:Value→Value→Bool
 | .int j a,.int k b=>(match decEq j k with
   | isTrue _=>true
   | isFalse _=>false) && decide (a=b)
 | .bool a,.bool b=>a == b
 | .string a,.string b=>Nat.beq a.size 0 && Nat.beq b.size 0
 | .slice none a b,.slice none c d=>Nat.beq a c && Nat.beq b d
 | .pointer none,.pointer none=>true
 | .nilFunc,.nilFunc=>true
 | _,_=>false
def samesZ:List Value→List Value→Bool
 | [],[]=>true
 | a :: l,b :: m=>sameZ a b && samesZ l m
 | _,_=>false
theorem sameZ_eq {a b:Value} (h:sameZ a b=true):a=b:=by
 unfold sameZ at h
 split at h
 ·rename_i j a k b
  simp only [Bool.and_eq_true,decide_eq_true_eq] at h
  obtain ⟨h1,rfl⟩:=h
  split at h1
  ·rename_i h2 _;rw [h2]
  ·simp at h1
 ·simpa using h
 ·rename_i a b
  simp only [Bool.and_eq_true,nbeq] at h
  have ha:a=ByteArray.empty:=by
   cases a with | mk a=>congr 1;exact Array.eq_empty_of_size_eq_zero h.1
  have hb:b=ByteArray.empty:=by
   cases b with | mk a=>congr 1;exact Array.eq_empty_of_size_eq_zero h.2
  rw [ha,hb]
 ·simp only [Bool.and_eq_true,nbeq] at h
  rw [h.1,h.2]
 ·rfl
 ·rfl
 ·simp at h
theorem samesZ_eq:{a b:List Value}→samesZ a b=true→a=b
 | [],[],_=>rfl
 | a :: l,b :: m,h=>by
  simp only [samesZ,Bool.and_eq_true] at h
  rw [sameZ_eq h.1,samesZ_eq h.2]
 | [],_ :: _,h=>by simp [samesZ] at h
 | _ :: _,[],h=>by simp [samesZ] at h
def infoB (P:Program) (T:TypeId) (t:Ty):Bool:=
 match P.info? T with
 | some i=>match i.zero with
  | some z=>Nat.beq i.size t.size && Nat.ble i.bytes 32768 && samesZ z.cells.toList (zeroCells t) && Nat.blt 0 i.size
  | none=>false
 | none=>false
theorem infoB_ok {P:Program} {T:TypeId} {t:Ty} (h:infoB P T t=true):InfoOK P T t:=by
 unfold infoB at h
 split at h
 ·rename_i i hi
  split at h
  ·rename_i z hz
   simp only [Bool.and_eq_true,nbeq] at h
   exact ⟨⟨i,z,hi,h.1.1.1,Nat.le_of_ble_eq_true h.1.1.2,hz,samesZ_eq h.1.2,Nat.le_of_ble_eq_true h.2⟩⟩
  ·simp at h
 ·simp at h
def tyFB (P:Program):Ty→(TypeId→Bool)×(List Field→Nat→Bool)
 | .int k=>(fun T=>(match P.underlying T with
  | some (.int j)=>(match decEq j k with
   | isTrue _=>true
   | isFalse _=>false)
  | _=>false) && infoB P T (.int k),fun _ _=>false)
 | .bool=>(fun T=>(match P.underlying T with
  | some .bool=>true
  | _=>false) && infoB P T .bool,fun _ _=>false)
 | .str=>(fun T=>(match P.underlying T with
  | some .string=>true
  | _=>false) && infoB P T .str,fun _ _=>false)
 | .unit=>(fun _=>false,fun fs _=>match fs with
  | []=>true
  | _=>false)
 | .pair a b=>
  let f:List Field→Nat→Bool:=fun fs off=>match fs with
   | f :: fs=>Nat.beq f.offset off && (tyFB P a).1 f.type && (tyFB P b).2 fs (off+a.size)
   | []=>false
  (fun T=>(match P.underlying T with
   | some (.struct fs)=>f fs.toList 0
   | _=>false) && infoB P T (.pair a b),f)
 | .arr n t=>(fun T=>(match P.underlying T with
  | some (.array m E)=>Nat.beq m n && (tyFB P t).1 E
  | _=>false) && infoB P T (.arr n t),fun _ _=>false)
 | .sl o t=>(fun T=>(match P.underlying T with
  | some (.slice E)=>(tyFB P t).1 E
  | _=>false) && infoB P T (.sl o t),fun _ _=>false)
 | .ptr t=>(fun T=>(match P.underlying T with
  | some (.pointer _)=>true
  | _=>false) && infoB P T (.ptr t),fun _ _=>false)
 | .fn f c=>(fun T=>(match P.underlying T with
  | some (.func _ _ _)=>true
  | _=>false) && infoB P T (.fn f c),fun _ _=>false)
def tyB (P:Program) (t:Ty) (T:TypeId):Bool:=(tyFB P t).1 T
def fsB (P:Program) (t:Ty) (fs:List Field) (off:Nat):Bool:=(tyFB P t).2 fs off
theorem tyB_int {P:Program} {k:IntKind} {T:TypeId}:tyB P (.int k) T=((match P.underlying T with
  | some (.int j)=>(match decEq j k with
   | isTrue _=>true
   | isFalse _=>false)
  | _=>false) && infoB P T (.int k)):=rfl
theorem tyB_bool {P:Program} {T:TypeId}:tyB P .bool T=((match P.underlying T with
  | some .bool=>true
  | _=>false) && infoB P T .bool):=rfl
theorem tyB_str {P:Program} {T:TypeId}:tyB P .str T=((match P.underlying T with
  | some .string=>true
  | _=>false) && infoB P T .str):=rfl
theorem tyB_ptr {P:Program} {t:Ty} {T:TypeId}:tyB P (.ptr t) T=((match P.underlying T with
  | some (.pointer _)=>true
  | _=>false) && infoB P T (.ptr t)):=rfl
theorem tyB_fn {P:Program} {f:Nat} {c:Ty} {T:TypeId}:tyB P (.fn f c) T=((match P.underlying T with
  | some (.func _ _ _)=>true
  | _=>false) && infoB P T (.fn f c)):=rfl
theorem tyB_pair {P:Program} {a b:Ty} {T:TypeId}:tyB P (.pair a b) T=((match P.underlying T with
  | some (.struct fs)=>fsB P (.pair a b) fs.toList 0
  | _=>false) && infoB P T (.pair a b)):=rfl
theorem tyB_arr {P:Program} {n:Nat} {t:Ty} {T:TypeId}:tyB P (.arr n t) T=((match P.underlying T with
  | some (.array m E)=>Nat.beq m n && tyB P t E
  | _=>false) && infoB P T (.arr n t)):=rfl
theorem tyB_sl {P:Program} {o:Bool} {t:Ty} {T:TypeId}:tyB P (.sl o t) T=((match P.underlying T with
  | some (.slice E)=>tyB P t E
  | _=>false) && infoB P T (.sl o t)):=rfl
theorem fsB_pair {P:Program} {a b:Ty} {f:Field} {fs:List Field} {off:Nat}:fsB P (.pair a b) (f :: fs) off=(Nat.beq f.offset off && tyB P a f.type && fsB P b fs (off+a.size)):=rfl
mutual
theorem tyB_ok {P:Program}:{t:Ty}→{T:TypeId}→tyB P t T=true→TyOK P t T
 | .int k,T,h=>by
  simp only [tyB_int,Bool.and_eq_true] at h
  simp only [TyOK]
  refine ⟨?_,infoB_ok h.2⟩
  have h1:=h.1
  split at h1
  ·rename_i j hj
   split at h1
   ·rename_i hk _;rw [hj,hk]
   ·simp at h1
  ·simp at h1
 | .bool,T,h=>by
  simp only [tyB_bool,Bool.and_eq_true] at h
  simp only [TyOK]
  refine ⟨?_,infoB_ok h.2⟩
  have h1:=h.1
  split at h1
  ·rename_i hj;exact hj
  ·simp at h1
 | .str,T,h=>by
  simp only [tyB_str,Bool.and_eq_true] at h
  simp only [TyOK]
  refine ⟨?_,infoB_ok h.2⟩
  have h1:=h.1
  split at h1
  ·rename_i hj;exact hj
  ·simp at h1
 | .unit,_,h=>by simp [tyB,tyFB] at h
 | .pair a b,T,h=>by
  simp only [tyB_pair,Bool.and_eq_true] at h
  simp only [TyOK]
  refine ⟨?_,infoB_ok h.2⟩
  have h1:=h.1
  split at h1
  ·rename_i fs hj;exact ⟨fs,hj,fsB_ok h1⟩
  ·simp at h1
 | .arr n t,T,h=>by
  simp only [tyB_arr,Bool.and_eq_true] at h
  simp only [TyOK]
  refine ⟨?_,infoB_ok h.2⟩
  have h1:=h.1
  split at h1
  ·rename_i m E hj
   simp only [Bool.and_eq_true,nbeq] at h1
   exact ⟨E,by rw [hj,h1.1],tyB_ok h1.2⟩
  ·simp at h1
 | .sl o t,T,h=>by
  simp only [tyB_sl,Bool.and_eq_true] at h
  simp only [TyOK]
  refine ⟨?_,infoB_ok h.2⟩
  have h1:=h.1
  split at h1
  ·rename_i E hj;exact ⟨E,hj,tyB_ok h1⟩
  ·simp at h1
 | .ptr t,T,h=>by
  simp only [tyB_ptr,Bool.and_eq_true] at h
  simp only [TyOK]
  refine ⟨?_,infoB_ok h.2⟩
  have h1:=h.1
  split at h1
  ·rename_i E hj;exact ⟨E,hj⟩
  ·simp at h1
 | .fn f c,T,h=>by
  simp only [tyB_fn,Bool.and_eq_true] at h
  simp only [TyOK]
  refine ⟨?_,infoB_ok h.2⟩
  have h1:=h.1
  split at h1
  ·rename_i a b d hj;exact ⟨a,b,d,hj⟩
  ·simp at h1
theorem fsB_ok {P:Program}:{t:Ty}→{fs:List Field}→{off:Nat}→fsB P t fs off=true→FsOK P t fs off
 | .pair a b,f :: fs,off,h=>by
  simp only [fsB_pair,Bool.and_eq_true,nbeq] at h
  simp only [FsOK]
  exact ⟨h.1.1,tyB_ok h.1.2,fsB_ok h.2⟩
 | .unit,[],_,_=>by simp only [FsOK]
 | .unit,_ :: _,_,h=>by simp [fsB,tyFB] at h
 | .pair _ _,[],_,h=>by simp [fsB,tyFB] at h
 | .int _,_,_,h=>by simp [fsB,tyFB] at h
 | .bool,_,_,h=>by simp [fsB,tyFB] at h
 | .str,_,_,h=>by simp [fsB,tyFB] at h
 | .arr _ _,_,_,h=>by simp [fsB,tyFB] at h
 | .sl _ _,_,_,h=>by simp [fsB,tyFB] at h
 | .ptr _,_,_,h=>by simp [fsB,tyFB] at h
 | .fn _ _,_,_,h=>by simp [fsB,tyFB] at h
end
def TtOK (P:Program) (tt:Nat→Option Ty):Prop:=∀ T u,tt T=some u→TyOK P u T
def ttB (P:Program):List (Nat×Ty)→Bool
 | []=>true
 | (T,u) :: l=>tyB P u T && ttB P l
theorem ttB_ok {P:Program}:{l:List (Nat×Ty)}→ttB P l=true→TtOK P (getL l)
 | [],_,_,_,h=>by simp [getL] at h
 | (T,u) :: l,hb,T',u',h=>by
  simp only [ttB,Bool.and_eq_true] at hb
  simp only [getL] at h
  cases he:Nat.beq T T' with
  | true=>
   rw [he] at h
   simp only [cond_true,Option.some.injEq] at h
   subst h
   rw [←Nat.eq_of_beq_eq_true he]
   exact tyB_ok hb.1
  | false=>
   rw [he] at h
   exact ttB_ok hb.2 T' u' h
end Go.Kz
namespace Go.Kz
variable {R:Type}
def tyS:Ty→Path→Option Sk
 | t,[]=>some t.sk
 | .pair a _,.fst :: p=>tyS a p
 | .pair _ b,.snd :: p=>tyS b p
 | .arr _ t,.idx _ :: p=>tyS t p
 | .sl true t,.idx _ :: p=>tyS t p
 | _,_=>none
def tyU:Ty→Path→Option Ty
 | t,[]=>some t
 | .pair a _,.fst :: p=>tyU a p
 | .pair _ b,.snd :: p=>tyU b p
 | .arr _ t,.idx _ :: p=>tyU t p
 | .sl true t,.idx _ :: p=>tyU t p
 | _,_=>none
theorem tyU_Q:{t:Ty}→{p:Path}→{v:Ty}→tyU t p=some (.sl true v)→tyQ t p=some v
 | t,[],v,h=>by
  simp only [tyU,Option.some.injEq] at h
  subst h;rfl
 | .pair a _,.fst :: p,v,h=>by simp only [tyU,tyQ] at h ⊢;exact tyU_Q h
 | .pair _ b,.snd :: p,v,h=>by simp only [tyU,tyQ] at h ⊢;exact tyU_Q h
 | .arr _ t,.idx _ :: p,v,h=>by simp only [tyU,tyQ] at h ⊢;exact tyU_Q h
 | .sl true t,.idx _ :: p,v,h=>by simp only [tyU,tyQ] at h ⊢;exact tyU_Q h
 | .sl true _,.fst :: _,_,h | .sl true _,.snd :: _,_,h=>by simp [tyU] at h
 | .sl false _,s :: _,_,h=>by cases s <;> simp [tyU] at h
 | .int _,s :: _,_,h=>by cases s <;> simp [tyU] at h
 | .bool,s :: _,_,h=>by cases s <;> simp [tyU] at h
 | .str,s :: _,_,h=>by cases s <;> simp [tyU] at h
 | .unit,s :: _,_,h=>by cases s <;> simp [tyU] at h
 | .ptr _,s :: _,_,h=>by cases s <;> simp [tyU] at h
 | .fn _ _,s :: _,_,h=>by cases s <;> simp [tyU] at h
 | .pair _ _,.idx _ :: _,_,h=>by simp [tyU] at h
 | .arr _ _,.fst :: _,_,h | .arr _ _,.snd :: _,_,h=>by simp [tyU] at h
theorem place_elem {g:Ghost} {id:Nat} {j:Int} {bk o n cp:Nat}:{t:Ty}→{pre:Path}→{b off:Nat}→{p:Path}→{v:Ty}→{x:Nat×Nat}→tyQ t p=some v→place g id t pre b off p=some x→
  g.sv id (pre++p) = .slice (some ⟨bk,o,none⟩) n cp→place g id t pre b off (p++[.idx j])=some (bk,o+j.toNat*v.size)
 | .sl true t,pre,b,off,[],v,x,hq,_,hsv=>by
  simp only [tyQ,Option.some.injEq] at hq
  subst hq
  simp only [List.append_nil] at hsv
  simp [place,hsv]
 | .pair a _,pre,b,off,.fst :: p,v,x,hq,hp,hsv=>by
  simp only [tyQ,place,List.cons_append] at hq hp ⊢
  exact place_elem hq hp (by rw [List.append_assoc];exact hsv)
 | .pair _ c,pre,b,off,.snd :: p,v,x,hq,hp,hsv=>by
  simp only [tyQ,place,List.cons_append] at hq hp ⊢
  exact place_elem hq hp (by rw [List.append_assoc];exact hsv)
 | .arr _ t,pre,b,off,.idx i :: p,v,x,hq,hp,hsv=>by
  simp only [tyQ,place,List.cons_append] at hq hp ⊢
  exact place_elem hq hp (by rw [List.append_assoc];exact hsv)
 | .sl true t,pre,b,off,.idx i :: p,v,x,hq,hp,hsv=>by
  simp only [tyQ,place,List.cons_append] at hq hp ⊢
  split at hp
  ·exact place_elem hq hp (by rw [List.append_assoc];exact hsv)
  ·simp at hp
 | .sl true _,_,_,_,.fst :: _,_,_,h,_,_ | .sl true _,_,_,_,.snd :: _,_,_,h,_,_=>by simp [tyQ] at h
 | .sl false _,_,_,_,p,_,_,h,_,_=>by cases p with | nil=>simp [tyQ] at h | cons s q=>cases s <;> simp [tyQ] at h
 | .int _,_,_,_,p,_,_,h,_,_=>by cases p with | nil=>simp [tyQ] at h | cons s q=>cases s <;> simp [tyQ] at h
 | .bool,_,_,_,p,_,_,h,_,_=>by cases p with | nil=>simp [tyQ] at h | cons s q=>cases s <;> simp [tyQ] at h
 | .str,_,_,_,p,_,_,h,_,_=>by cases p with | nil=>simp [tyQ] at h | cons s q=>cases s <;> simp [tyQ] at h
 | .unit,_,_,_,p,_,_,h,_,_=>by cases p with | nil=>simp [tyQ] at h | cons s q=>cases s <;> simp [tyQ] at h
 | .ptr _,_,_,_,p,_,_,h,_,_=>by cases p with | nil=>simp [tyQ] at h | cons s q=>cases s <;> simp [tyQ] at h
 | .fn _ _,_,_,_,p,_,_,h,_,_=>by cases p with | nil=>simp [tyQ] at h | cons s q=>cases s <;> simp [tyQ] at h
 | .pair _ _,_,_,_,[],_,_,h,_,_=>by simp [tyQ] at h
 | .pair _ _,_,_,_,.idx _ :: _,_,_,h,_,_=>by simp [tyQ] at h
 | .arr _ _,_,_,_,[],_,_,h,_,_=>by simp [tyQ] at h
 | .arr _ _,_,_,_,.fst :: _,_,_,h,_,_ | .arr _ _,_,_,_,.snd :: _,_,_,h,_,_=>by simp [tyQ] at h
theorem pre_not {p q:Path} (h:q.length < p.length):¬ p <+: q:=by
 rintro ⟨r,hr⟩
 have:=congrArg List.length hr
 rw [List.length_append] at this;omega
theorem seg_split (l:List Value) (off n m:Nat) (h:off+(n+m)≤l.length):seg l off (n+m)=seg l off n++seg l (off+n) m:=by
 simp only [seg]
 rw [←List.drop_drop,←List.take_add]
theorem splice_one {l:List Value} {off:Nat} {x:Value} (h:off < l.length):seg (splice l off [x]) off 1=[x]:=seg_splice_same l off [x] (by simp only [List.length_singleton];omega)
theorem Near.side {w w':World} {g g':Ghost} {id b0:Nat} {p q:Path} (hn:Near w g w' g' id p b0) (hq:∀ r,¬ p <+: q++r) (hB:∀ r,g.tag b0≠.row id (q++r)):Moved w g w' g' id q id q:=
 ⟨fun r=>hn.sv _ (hq r),fun r b hb=>let h:=hn.blk _ b hb (hq r);⟨h.1,h.2 (fun he=>hB r (he ▸ hb))⟩⟩
def FocusAt (w:World) (g:Ghost) (id:Nat) (t:Ty):Prop:=
 ∀ {R:Type} {pre:Path} {d:t.den} {p:Path} {v:Ty} {k:(u:Ty)→u.den→Option R} {r:R} {b off:Nat} {c:Array Value} {e:TypeId} {pb:Path},
  tyQ t p=some v→g.tag b = .row id pb→pb.length < pre.length→w.heap[b]? = some (.cells c e (0,0))→off+t.size≤c.size→Rep w g (some (id,pre)) t d (seg c.toList off t.size)→getK t d p k=some r→
  ∃ (l1:List v.den) (bh oh:Nat) (ch:Array Value) (eh:TypeId) (ph:Path),k (.sl true v) l1=some r∧place g id t pre b off p=some (bh,oh)∧g.tag bh = .row id ph∧ph.length < (pre++p).length∧
   w.heap[bh]? = some (.cells ch eh (0,0))∧oh < ch.size∧Rep w g (some (id,pre++p)) (.sl true v) l1 (seg ch.toList oh 1)∧(bh=b∨(bh≠b∧pre <+: ph))∧
   ∀ (w':World) (g':Ghost) (l':List v.den) (x:Value),Near w g w' g' id (pre++p) bh→w'.heap[bh]? = some (.cells (splice ch.toList oh [x]).toArray eh (0,0))→Rep w' g' (some (id,pre++p)) (.sl true v) l' [x]→
    ∀ {R':Type} (f:t.den→Option R') (r':R'),setK t d p (.sl true v) l' f=some r'→
     ∃ d',f d'=some r'∧∃ c',w'.heap[b]? = some (.cells c' e (0,0))∧c'.size=c.size∧(∀ a n,a+n≤off∨off+t.size≤a→seg c'.toList a n=seg c.toList a n)∧Rep w' g' (some (id,pre)) t d' (seg c'.toList off t.size)
theorem focus_row {w:World} {g:Ghost} {id:Nat} {t:Ty} (ih:FocusAt w g id t) {pre:Path} {l:List t.den} {i:Int} {p:Path} {v:Ty} {k:(u:Ty)→u.den→Option R} {r:R} {hd:Value}
  (hty:tyQ t p=some v) (hrep:Rep w g (some (id,pre)) (.sl true t) l [hd]) (h:getK (.sl true t) l (.idx i :: p) k=some r) :
  ∃ (l1:List v.den) (bh oh:Nat) (ch:Array Value) (eh:TypeId) (ph:Path),k (.sl true v) l1=some r∧(∀ b off,place g id (.sl true t) pre b off (.idx i :: p)=some (bh,oh))∧g.tag bh = .row id ph∧
   ph.length < (pre ++ .idx i :: p).length∧pre <+: ph∧w.heap[bh]? = some (.cells ch eh (0,0))∧oh < ch.size∧Rep w g (some (id,pre ++ .idx i :: p)) (.sl true v) l1 (seg ch.toList oh 1)∧
   ∀ (w':World) (g':Ghost) (l':List v.den) (x:Value),Near w g w' g' id (pre ++ .idx i :: p) bh→w'.heap[bh]? = some (.cells (splice ch.toList oh [x]).toArray eh (0,0))→Rep w' g' (some (id,pre ++ .idx i :: p)) (.sl true v) l' [x]→
    ∀ {R':Type} (f:List t.den→Option R') (r':R'),setK (.sl true t) l (.idx i :: p) (.sl true v) l' f=some r'→∃ l2,f l2=some r'∧l2.length=l.length∧Rep w' g' (some (id,pre)) (.sl true t) l2 [hd]:=by
 simp only [getK,Option.bind_eq_some_iff] at h
 obtain ⟨x,hx,h⟩:=h
 obtain ⟨h0,hi,rfl,hlt⟩:=idx_some hx
 obtain ⟨a,cap,hcs,hsv,hlc,hcm,hrow⟩:=hrep
 have hii:((i.toNat:Nat):Int)=i:=Int.toNat_of_nonneg h0
 rcases hrow with ⟨_,hl,_⟩ | ⟨b,o,c,e,rfl,htag,hcell,hsz,hel⟩
 ·rw [hl] at hi;simp at hi
 ·have hcap:(i.toNat+1)*t.size≤cap*t.size:=Nat.mul_le_mul_right _ (by omega)
  rw [Nat.add_mul] at hcap
  have hel_i:=hel _ hi
  rw [hii] at hel_i
  obtain ⟨l1,bh,oh,ch,eh,ph,hk,hpl,htagh,hph,hcellh,hoh,hreph,halt,hw⟩:=ih hty htag (by simp) hcell (by omega) hel_i h
  have hpp:pre++[Step.idx i]++p=pre ++ .idx i :: p:=by simp
  rw [hpp] at hph hreph
  have hpre:pre <+: ph:=by
   rcases halt with rfl | ⟨_,⟨z,hz⟩⟩
   ·rw [htag] at htagh
    simp only [Tag.row.injEq,true_and] at htagh
    rw [htagh];exact List.prefix_refl _
   ·exact ⟨[.idx i]++z,by rw [←hz];simp⟩
  refine ⟨l1,bh,oh,ch,eh,ph,hk,fun b' off'=>?_,htagh,hph,hpre,hcellh,hoh,hreph,fun w' g' l' x hn hc' hr' R' f r' hset=>?_⟩
  ·simp only [place,hsv];exact hpl
  ·simp only [setK] at hset
   rw [hx] at hset
   simp only [Option.bind_some] at hset
   obtain ⟨d',hf,c',hc2,hsz2,hout,hrep2⟩:=hw w' g' l' x (by rw [hpp];exact hn) hc' (by rw [hpp];exact hr') _ _ hset
   have hnp:¬ (pre ++ .idx i :: p) <+: pre:=pre_not (by simp)
   refine ⟨_,hf,setI_length _ _ _,some ⟨b,o,none⟩,cap,by rw [setI_length];exact hcs,by rw [setI_length,hn.sv _ hnp];exact hsv,by rw [setI_length];exact hlc,hcm,.inr ⟨b,o,c',e,rfl,(hn.blk _ b htag hnp).1,hc2,by rw [hsz2];exact hsz,fun j hj=>?_⟩⟩
   have hj':j < l.length:=by rw [setI_length] at hj;exact hj
   rw [setI_get]
   by_cases hij:i.toNat=j
   ·rw [if_pos hij];subst hij
    rw [hii];exact hrep2
   ·rw [if_neg hij]
    have hside:Moved w g w' g' id (pre++[Step.idx (j:Int)]) id (pre++[Step.idx (j:Int)]):=by
     refine hn.side (fun z hz=>?_) (fun z hz=>?_)
     ·rw [List.append_assoc,List.prefix_append_right_inj] at hz
      obtain ⟨y,hy⟩:=hz
      simp only [List.cons_append,List.nil_append,List.cons.injEq,Step.idx.injEq] at hy
      exact hij (by rw [hy.1];simp)
     ·rw [htagh] at hz
      simp only [Tag.row.injEq,true_and] at hz
      rcases halt with rfl | ⟨_,⟨y,hy⟩⟩
      ·rw [htag] at htagh
       simp only [Tag.row.injEq,true_and] at htagh
       rw [←htagh] at hz
       have:=congrArg List.length hz
       simp at this
      ·rw [←hy,List.append_assoc,List.append_assoc] at hz
       have:=List.append_cancel_left hz
       simp only [List.cons_append,List.nil_append,List.cons.injEq,Step.idx.injEq] at this
       exact hij (by rw [this.1];simp)
    have:=Rep.move hn.ro (o:=some (id,pre++[Step.idx (j:Int)])) (o':=some (id,pre++[Step.idx (j:Int)])) hside (hel j hj')
    rw [hout _ _ (by
     rcases Nat.lt_or_gt_of_ne hij with hlt' | hgt
     ·right
      have h3:(i.toNat+1)*t.size≤j*t.size:=Nat.mul_le_mul_right _ hlt'
      rw [Nat.add_mul] at h3;omega
     ·left
      have h3:(j+1)*t.size≤i.toNat*t.size:=Nat.mul_le_mul_right _ hgt
      rw [Nat.add_mul] at h3;omega)]
    exact this
theorem focus (w:World) (g:Ghost) (id:Nat):(t:Ty)→FocusAt w g id t
 | .sl true t=>by
  rename_i R pre p v k r b off c e pb d
  intro hty htag hpb hcell hsz hrep h
  have hcl:c.toList.length=c.size:=Array.length_toList
  cases p with
  | nil=>
   simp only [tyQ,Option.some.injEq] at hty
   subst hty
   have h':k (.sl true t) d=some r:=by simpa [getK] using h
   have hsz':off+1≤c.size:=hsz
   refine ⟨d,b,off,c,e,pb,h',by simp [place],htag,by simpa using hpb,hcell,by omega,by rw [List.append_nil];exact hrep,.inl rfl,fun w' g' l' x hn hc' hr' R' f r' hset=>?_⟩
   have hset':castK (.sl true t) (.sl true t) l' f=some r':=by simpa [setK] using hset
   obtain ⟨hh,hf⟩:=castK_some hset'
   refine ⟨_,hf,_,hc',by rw [List.size_toArray,splice_length _ _ _ (by simp;omega),hcl],fun a n han=>?_,?_⟩
   ·rcases han with han | han
    ·exact seg_splice_before _ _ _ _ _ han (by omega)
    ·have han':off+1≤a:=han
     exact seg_splice_after _ _ _ _ _ (by simpa using han') (by simp;omega)
   ·show Rep w' g' (some (id,pre)) (.sl true t) l' (seg (splice c.toList off [x]) off 1)
    rw [splice_one (by omega)]
    simpa using hr'
  | cons s q=>
   cases s with
   | fst=>simp [tyQ] at hty
   | snd=>simp [tyQ] at hty
   | idx i=>
    simp only [tyQ] at hty
    have hsz':off+1≤c.size:=hsz
    have hlen:(seg c.toList off 1).length=1:=seg_length (by omega)
    obtain ⟨hd,hhd⟩:=List.length_eq_one_iff.1 hlen
    have hrep':Rep w g (some (id,pre)) (.sl true t) d [hd]:=by rw [←hhd];exact hrep
    obtain ⟨l1,bh,oh,ch,eh,ph,hk,hpl,htagh,hph,hpre,hcellh,hoh,hreph,hw⟩:=focus_row (focus w g id t) hty hrep' h
    have hne:bh≠b:=by
     intro he;subst he
     rw [htag] at htagh
     simp only [Tag.row.injEq,true_and] at htagh
     subst htagh
     have:=hpre.length_le;omega
    refine ⟨l1,bh,oh,ch,eh,ph,hk,hpl b off,htagh,hph,hcellh,hoh,hreph,.inr ⟨hne,hpre⟩,fun w' g' l' x hn hc' hr' R' f r' hset=>?_⟩
    obtain ⟨l2,hf,hll,hrep2⟩:=hw w' g' l' x hn hc' hr' f r' hset
    refine ⟨l2,hf,c,?_,rfl,fun _ _ _=>rfl,?_⟩
    ·rw [(hn.blk pb b htag (pre_not (by simp;omega))).2 (fun he=>hne he.symm)];exact hcell
    ·show Rep w' g' (some (id,pre)) (.sl true t) l2 (seg c.toList off 1)
     rw [hhd];exact hrep2
 | .pair ta tb=>by
  rename_i R pre p v k r b off c e pb d
  intro hty htag hpb hcell hsz hrep h
  have hcl:c.toList.length=c.size:=Array.length_toList
  obtain ⟨x,y⟩:=d
  obtain ⟨c1,c2,hcc,h1,h2⟩:=hrep
  have hs:off+(ta.size+tb.size)≤c.size:=hsz
  have hsp:=seg_split c.toList off ta.size tb.size (by omega)
  have hcc':seg c.toList off (ta.size+tb.size)=c1++c2:=hcc
  rw [hsp] at hcc'
  obtain ⟨e1,e2⟩:=List.append_inj hcc' (by rw [seg_length (by omega),h1.len])
  rw [←e1] at h1
  rw [←e2] at h2
  have h1:Rep w g (some (id,pre++[Step.fst])) ta x (seg c.toList off ta.size):=h1
  have h2:Rep w g (some (id,pre++[Step.snd])) tb y (seg c.toList (off+ta.size) tb.size):=h2
  cases p with
  | nil=>simp [tyQ] at hty
  | cons s q=>
   cases s with
   | idx i=>simp [tyQ] at hty
   | fst=>
    simp only [tyQ] at hty
    simp only [getK] at h
    obtain ⟨l1,bh,oh,ch,eh,ph,hk,hpl,htagh,hph,hcellh,hoh,hreph,halt,hw⟩:=focus w g id ta (pre:=pre++[.fst]) hty htag (by simp;omega) hcell (by omega) h1 h
    have hpp:pre++[Step.fst]++q=pre ++ .fst :: q:=by simp
    rw [hpp] at hph hreph
    refine ⟨l1,bh,oh,ch,eh,ph,hk,by simp only [place];exact hpl,htagh,hph,hcellh,hoh,hreph,halt.imp_right (fun z=>⟨z.1,(List.prefix_append pre [.fst]).trans z.2⟩),fun w' g' l' x' hn hc' hr' R' f r' hset=>?_⟩
    simp only [setK] at hset
    obtain ⟨d',hf,c',hc2,hsz2,hout,hrep2⟩:=hw w' g' l' x' (by rw [hpp];exact hn) hc' (by rw [hpp];exact hr') _ _ hset
    have hcl':c'.toList.length=c'.size:=Array.length_toList
    refine ⟨_,hf,c',hc2,hsz2,fun a n han=>hout a n (by have:(Ty.pair ta tb).size=ta.size+tb.size:=rfl;omega),seg c'.toList off ta.size,seg c'.toList (off+ta.size) tb.size,?_,hrep2,?_⟩
    ·exact seg_split _ _ _ _ (by omega)
    ·rw [hout _ _ (.inr (Nat.le_refl _))]
     refine Rep.move hn.ro (o:=some (id,pre++[Step.snd])) (o':=some (id,pre++[Step.snd])) (hn.side (fun z hz=>?_) (fun z hz=>?_)) h2
     ·rw [List.append_assoc,List.prefix_append_right_inj] at hz
      obtain ⟨y',hy⟩:=hz
      simp at hy
     ·rw [htagh] at hz
      simp only [Tag.row.injEq,true_and] at hz
      rcases halt with rfl | ⟨_,⟨y',hy⟩⟩
      ·rw [htag] at htagh
       simp only [Tag.row.injEq,true_and] at htagh
       rw [←htagh] at hz
       have:=congrArg List.length hz
       simp at this;omega
      ·rw [←hy,List.append_assoc,List.append_assoc] at hz
       have:=List.append_cancel_left hz
       simp at this
   | snd=>
    simp only [tyQ] at hty
    simp only [getK] at h
    obtain ⟨l1,bh,oh,ch,eh,ph,hk,hpl,htagh,hph,hcellh,hoh,hreph,halt,hw⟩:=focus w g id tb (pre:=pre++[.snd]) hty htag (by simp;omega) hcell (by omega) h2 h
    have hpp:pre++[Step.snd]++q=pre ++ .snd :: q:=by simp
    rw [hpp] at hph hreph
    refine ⟨l1,bh,oh,ch,eh,ph,hk,by simp only [place];exact hpl,htagh,hph,hcellh,hoh,hreph,halt.imp_right (fun z=>⟨z.1,(List.prefix_append pre [.snd]).trans z.2⟩),fun w' g' l' x' hn hc' hr' R' f r' hset=>?_⟩
    simp only [setK] at hset
    obtain ⟨d',hf,c',hc2,hsz2,hout,hrep2⟩:=hw w' g' l' x' (by rw [hpp];exact hn) hc' (by rw [hpp];exact hr') _ _ hset
    have hcl':c'.toList.length=c'.size:=Array.length_toList
    refine ⟨_,hf,c',hc2,hsz2,fun a n han=>hout a n (by have:(Ty.pair ta tb).size=ta.size+tb.size:=rfl;omega),seg c'.toList off ta.size,seg c'.toList (off+ta.size) tb.size,?_,?_,hrep2⟩
    ·exact seg_split _ _ _ _ (by omega)
    ·rw [hout _ _ (.inl (Nat.le_refl _))]
     refine Rep.move hn.ro (o:=some (id,pre++[Step.fst])) (o':=some (id,pre++[Step.fst])) (hn.side (fun z hz=>?_) (fun z hz=>?_)) h1
     ·rw [List.append_assoc,List.prefix_append_right_inj] at hz
      obtain ⟨y',hy⟩:=hz
      simp at hy
     ·rw [htagh] at hz
      simp only [Tag.row.injEq,true_and] at hz
      rcases halt with rfl | ⟨_,⟨y',hy⟩⟩
      ·rw [htag] at htagh
       simp only [Tag.row.injEq,true_and] at htagh
       rw [←htagh] at hz
       have:=congrArg List.length hz
       simp at this;omega
      ·rw [←hy,List.append_assoc,List.append_assoc] at hz
       have:=List.append_cancel_left hz
       simp at this
 | .arr n t=>by
  rename_i R pre p v k r b off c e pb d
  intro hty htag hpb hcell hsz hrep h
  have hcl:c.toList.length=c.size:=Array.length_toList
  have hs:off+n*t.size≤c.size:=hsz
  cases p with
  | nil=>simp [tyQ] at hty
  | cons s q=>
   cases s with
   | fst=>simp [tyQ] at hty
   | snd=>simp [tyQ] at hty
   | idx i=>
    simp only [tyQ] at hty
    simp only [getK,Option.bind_eq_some_iff] at h
    obtain ⟨x,hx,h⟩:=h
    obtain ⟨h0,hi,rfl,hlt⟩:=idx_some hx
    have hii:((i.toNat:Nat):Int)=i:=Int.toNat_of_nonneg h0
    obtain ⟨hln,hlc,hel⟩:=hrep
    have hin:i.toNat < n:=by rw [←hln];exact hi
    have hmul:(i.toNat+1)*t.size≤n*t.size:=Nat.mul_le_mul_right _ hin
    rw [Nat.add_mul] at hmul
    have hel':∀ (j:Nat) (hj:j < List.length d),Rep w g (some (id,pre++[Step.idx (j:Int)])) t (List.get d ⟨j,hj⟩) (seg c.toList (off+j*t.size) t.size):=by
     intro j hj
     have hjn:j < n:=by rw [←hln];exact hj
     have h3:(j+1)*t.size≤n*t.size:=Nat.mul_le_mul_right _ hjn
     rw [Nat.add_mul] at h3
     have:=hel j hj
     rw [show (Ty.arr n t).size=n*t.size from rfl,seg_seg _ _ _ _ _ (by omega)] at this
     exact this
    have hel_i:=hel' _ hi
    rw [hii] at hel_i
    obtain ⟨l1,bh,oh,ch,eh,ph,hk,hpl,htagh,hph,hcellh,hoh,hreph,halt,hw⟩:=focus w g id t (pre:=pre++[.idx i]) hty htag (by simp;omega) hcell (by omega) hel_i h
    have hpp:pre++[Step.idx i]++q=pre ++ .idx i :: q:=by simp
    rw [hpp] at hph hreph
    refine ⟨l1,bh,oh,ch,eh,ph,hk,by simp only [place];exact hpl,htagh,hph,hcellh,hoh,hreph,halt.imp_right (fun z=>⟨z.1,(List.prefix_append pre [.idx i]).trans z.2⟩),fun w' g' l' x' hn hc' hr' R' f r' hset=>?_⟩
    simp only [setK] at hset
    rw [hx] at hset
    simp only [Option.bind_some] at hset
    obtain ⟨d',hf,c',hc2,hsz2,hout,hrep2⟩:=hw w' g' l' x' (by rw [hpp];exact hn) hc' (by rw [hpp];exact hr') _ _ hset
    have hcl':c'.toList.length=c'.size:=Array.length_toList
    refine ⟨_,hf,c',hc2,hsz2,fun a m han=>hout a m (by have:(Ty.arr n t).size=n*t.size:=rfl;omega),by rw [setI_length];exact hln,by rw [seg_length (by rw [hcl',hsz2];exact hsz)];rfl,fun j hj=>?_⟩
    have hj':j < List.length d:=by rw [setI_length] at hj;exact hj
    have hjn:j < n:=by rw [←hln];exact hj'
    have h3:(j+1)*t.size≤n*t.size:=Nat.mul_le_mul_right _ hjn
    rw [Nat.add_mul] at h3
    rw [show (Ty.arr n t).size=n*t.size from rfl,seg_seg _ _ _ _ _ (by omega),setI_get]
    by_cases hij:i.toNat=j
    ·rw [if_pos hij];subst hij
     show Rep w' g' (some (id,pre++[Step.idx ((i.toNat:Nat):Int)])) t d' _
     rw [hii];exact hrep2
    ·rw [if_neg hij,hout _ _ (by
      rcases Nat.lt_or_gt_of_ne hij with hlt' | hgt
      ·right
       have h3:(i.toNat+1)*t.size≤j*t.size:=Nat.mul_le_mul_right _ hlt'
       rw [Nat.add_mul] at h3;omega
      ·left
       have h3:(j+1)*t.size≤i.toNat*t.size:=Nat.mul_le_mul_right _ hgt
       rw [Nat.add_mul] at h3;omega)]
     refine Rep.move hn.ro (o:=some (id,pre++[Step.idx (j:Int)])) (o':=some (id,pre++[Step.idx (j:Int)])) (hn.side (fun z hz=>?_) (fun z hz=>?_)) (hel' j hj')
     ·rw [List.append_assoc,List.prefix_append_right_inj] at hz
      obtain ⟨y,hy⟩:=hz
      simp only [List.cons_append,List.nil_append,List.cons.injEq,Step.idx.injEq] at hy
      exact hij (by rw [hy.1];simp)
     ·rw [htagh] at hz
      simp only [Tag.row.injEq,true_and] at hz
      rcases halt with rfl | ⟨_,⟨y,hy⟩⟩
      ·rw [htag] at htagh
       simp only [Tag.row.injEq,true_and] at htagh
       rw [←htagh] at hz
       have:=congrArg List.length hz
       simp at this;omega
      ·rw [←hy,List.append_assoc,List.append_assoc] at hz
       have:=List.append_cancel_left hz
       simp only [List.cons_append,List.nil_append,List.cons.injEq,Step.idx.injEq] at this
       exact hij (by rw [this.1];simp)
 | .int _ | .bool | .str | .unit | .sl false _ | .ptr _ | .fn _ _=>by
  intro hty
  simp [tyQ] at hty
theorem nget {w:World} {g:Ghost} {id:Nat}:{t:Ty}→{pre:Path}→{d:t.den}→{p:Path}→{k:(u:Ty)→u.den→Option R}→{r:R}→{b off:Nat}→{c:Array Value}→{e:TypeId}→{pb:Path}→
  g.tag b = .row id pb→w.heap[b]? = some (.cells c e (0,0))→off+t.size≤c.size→Rep w g (some (id,pre)) t d (seg c.toList off t.size)→getK t d p k=some r→
  ∃ (u:Ty) (x:u.den) (bh oh:Nat) (ch:Array Value) (eh:TypeId) (ph:Path),k u x=some r∧place g id t pre b off p=some (bh,oh)∧tyS t p=some u.sk∧tyU t p=some u∧g.tag bh = .row id ph∧
   w.heap[bh]? = some (.cells ch eh (0,0))∧oh+u.size≤ch.size∧Rep w g (some (id,pre++p)) u x (seg ch.toList oh u.size)
 | t,pre,d,[],k,r,b,off,c,e,pb,htag,hcell,hsz,hrep,h=>by
  have h':k t d=some r:=by cases t <;> simpa [getK] using h
  exact ⟨t,d,b,off,c,e,pb,h',by simp [place],by simp [tyS],by simp [tyU],htag,hcell,hsz,by simpa using hrep⟩
 | .pair ta tb,pre,(x,y),.fst :: q,k,r,b,off,c,e,pb,htag,hcell,hsz,hrep,h=>by
  have hcl:c.toList.length=c.size:=Array.length_toList
  simp only [getK] at h
  obtain ⟨c1,c2,hcc,h1,h2⟩:=hrep
  have hs:off+(ta.size+tb.size)≤c.size:=hsz
  have hcc':seg c.toList off (ta.size+tb.size)=c1++c2:=hcc
  rw [seg_split c.toList off ta.size tb.size (by omega)] at hcc'
  obtain ⟨e1,e2⟩:=List.append_inj hcc' (by rw [seg_length (by omega),h1.len])
  rw [←e1] at h1
  have h1:Rep w g (some (id,pre++[Step.fst])) ta x (seg c.toList off ta.size):=h1
  have:=nget (pre:=pre++[.fst]) htag hcell (by omega) h1 h
  simpa [place,tyS,tyU] using this
 | .pair ta tb,pre,(x,y),.snd :: q,k,r,b,off,c,e,pb,htag,hcell,hsz,hrep,h=>by
  have hcl:c.toList.length=c.size:=Array.length_toList
  simp only [getK] at h
  obtain ⟨c1,c2,hcc,h1,h2⟩:=hrep
  have hs:off+(ta.size+tb.size)≤c.size:=hsz
  have hcc':seg c.toList off (ta.size+tb.size)=c1++c2:=hcc
  rw [seg_split c.toList off ta.size tb.size (by omega)] at hcc'
  obtain ⟨e1,e2⟩:=List.append_inj hcc' (by rw [seg_length (by omega),h1.len])
  rw [←e2] at h2
  have h2:Rep w g (some (id,pre++[Step.snd])) tb y (seg c.toList (off+ta.size) tb.size):=h2
  have:=nget (pre:=pre++[.snd]) htag hcell (by omega) h2 h
  simpa [place,tyS,tyU] using this
 | .arr n t,pre,d,.idx i :: q,k,r,b,off,c,e,pb,htag,hcell,hsz,hrep,h=>by
  have hcl:c.toList.length=c.size:=Array.length_toList
  have hs:off+n*t.size≤c.size:=hsz
  simp only [getK,Option.bind_eq_some_iff] at h
  obtain ⟨x,hx,h⟩:=h
  obtain ⟨h0,hi,rfl,hlt⟩:=idx_some hx
  have hii:((i.toNat:Nat):Int)=i:=Int.toNat_of_nonneg h0
  obtain ⟨hln,hlc,hel⟩:=hrep
  have hin:i.toNat < n:=by rw [←hln];exact hi
  have hmul:(i.toNat+1)*t.size≤n*t.size:=Nat.mul_le_mul_right _ hin
  rw [Nat.add_mul] at hmul
  have hel_i:Rep w g (some (id,pre++[Step.idx ((i.toNat:Nat):Int)])) t _ _:=hel _ hi
  rw [hii,show (Ty.arr n t).size=n*t.size from rfl,seg_seg _ _ _ _ _ (by omega)] at hel_i
  have:=nget (pre:=pre++[.idx i]) htag hcell (by omega) hel_i h
  simpa [place,tyS,tyU] using this
 | .sl true t,pre,d,.idx i :: q,k,r,b,off,c,e,pb,htag,hcell,hsz,hrep,h=>by
  simp only [getK,Option.bind_eq_some_iff] at h
  obtain ⟨x,hx,h⟩:=h
  obtain ⟨h0,hi,rfl,hlt⟩:=idx_some hx
  have hii:((i.toNat:Nat):Int)=i:=Int.toNat_of_nonneg h0
  obtain ⟨a,cap,hcs,hsv,hlc,hcm,hrow⟩:=hrep
  rcases hrow with ⟨_,hl,_⟩ | ⟨b2,o2,c2,e2,rfl,htag2,hcell2,hsz2,hel⟩
  ·rw [hl] at hi;simp at hi
  ·have hcap:(i.toNat+1)*t.size≤cap*t.size:=Nat.mul_le_mul_right _ (by omega)
   rw [Nat.add_mul] at hcap
   have hel_i:=hel _ hi
   rw [hii] at hel_i
   have:=nget (pre:=pre++[.idx i]) htag2 hcell2 (by omega) hel_i h
   simpa [place,tyS,tyU,hsv] using this
 | .sl true _,_,_,.fst :: _,_,_,_,_,_,_,_,_,_,_,_,h=>by simp [getK] at h
 | .sl true _,_,_,.snd :: _,_,_,_,_,_,_,_,_,_,_,_,h=>by simp [getK] at h
 | .sl false _,_,_,s :: _,_,_,_,_,_,_,_,_,_,_,_,h=>by cases s <;> simp [getK] at h
 | .int _,_,_,s :: _,_,_,_,_,_,_,_,_,_,_,_,h=>by cases s <;> simp [getK] at h
 | .bool,_,_,s :: _,_,_,_,_,_,_,_,_,_,_,_,h=>by cases s <;> simp [getK] at h
 | .str,_,_,s :: _,_,_,_,_,_,_,_,_,_,_,_,h=>by cases s <;> simp [getK] at h
 | .unit,_,_,s :: _,_,_,_,_,_,_,_,_,_,_,_,h=>by cases s <;> simp [getK] at h
 | .ptr _,_,_,s :: _,_,_,_,_,_,_,_,_,_,_,_,h=>by cases s <;> simp [getK] at h
 | .fn _ _,_,_,s :: _,_,_,_,_,_,_,_,_,_,_,_,h=>by cases s <;> simp [getK] at h
 | .pair _ _,_,(_,_),.idx _ :: _,_,_,_,_,_,_,_,_,_,_,_,h=>by simp [getK] at h
 | .arr _ _,_,_,.fst :: _,_,_,_,_,_,_,_,_,_,_,_,h=>by simp [getK] at h
 | .arr _ _,_,_,.snd :: _,_,_,_,_,_,_,_,_,_,_,_,h=>by simp [getK] at h
theorem nfetch_ok {w:World} {g:Ghost} {σ:St} (hh:HeapOK w g σ.objs) {pt:Bool} {id:Nat} {p:Path} {ep:Nat} {k:(u:Ty)→u.den→Option R} {r:R} (h:nfetchK σ pt id p ep k=some r) :
  ∃ t l e i,σ.objs id=some (.nest t l e i none)∧nep pt p e i=ep∧Rep w g (some (id,[])) (.sl true t) l [g.sv id []]∧getK (.sl true t) l p k=some r:=by
 unfold nfetchK at h
 split at h
 ·rename_i t l e i ho
  cases hb:Nat.beq (nep pt p e i) ep with
  | false=>rw [hb] at h;simp at h
  | true=>
   rw [hb] at h
   exact ⟨t,l,e,i,ho,Nat.eq_of_beq_eq_true hb,hh.objs id _ ho,h⟩
 ·simp at h
theorem nest_get {w:World} {g:Ghost} {id:Nat} {t:Ty} {l:List t.den} {s:Step} {p:Path} {k:(u:Ty)→u.den→Option R} {r:R} (hrep:Rep w g (some (id,[])) (.sl true t) l [g.sv id []])
  (h:getK (.sl true t) l (s :: p) k=some r):∃ (u:Ty) (x:u.den) (bh oh:Nat) (ch:Array Value) (eh:TypeId) (ph:Path),k u x=some r∧place g id (.sl true t) [] 0 0 (s :: p)=some (bh,oh)∧
   tyS (.sl true t) (s :: p)=some u.sk∧tyU (.sl true t) (s :: p)=some u∧g.tag bh = .row id ph∧w.heap[bh]? = some (.cells ch eh (0,0))∧oh+u.size≤ch.size∧Rep w g (some (id,s :: p)) u x (seg ch.toList oh u.size):=by
 cases s with
 | fst=>simp [getK] at h
 | snd=>simp [getK] at h
 | idx i=>
  simp only [getK,Option.bind_eq_some_iff] at h
  obtain ⟨x,hx,h⟩:=h
  obtain ⟨h0,hi,rfl,hlt⟩:=idx_some hx
  have hii:((i.toNat:Nat):Int)=i:=Int.toNat_of_nonneg h0
  obtain ⟨a,cap,hcs,hsv,hlc,hcm,hrow⟩:=hrep
  rcases hrow with ⟨_,hl,_⟩ | ⟨b2,o2,c2,e2,rfl,htag2,hcell2,hsz2,hel⟩
  ·rw [hl] at hi;simp at hi
  ·have hcap:(i.toNat+1)*t.size≤cap*t.size:=Nat.mul_le_mul_right _ (by omega)
   rw [Nat.add_mul] at hcap
   have hel_i:=hel _ hi
   rw [hii] at hel_i
   have:=nget (pre:=[.idx i]) htag2 hcell2 (by omega) hel_i h
   simpa [place,tyS,tyU,hsv] using this
theorem nrow_ok {w:World} {g:Ghost} {σ:St} (hh:HeapOK w g σ.objs) {id:Nat} {p:Path} {ep:Nat} {k:(v:Ty)→List v.den→Option R} {r:R} (h:nrowK σ id p ep k=some r) :
  ∃ t l0 e i v l,σ.objs id=some (.nest t l0 e i none)∧nep false p e i=ep∧Rep w g (some (id,p)) (.sl true v) l [g.sv id p]∧k v l=some r∧tyQ (.sl true t) p=some v∧∃ x,place g id (.sl true t) [] 0 0 p=some x:=by
 unfold nrowK at h
 obtain ⟨t,l0,e,i,ho,hep,hrep,h⟩:=nfetch_ok hh h
 cases p with
 | nil=>
  have h':k t l0=some r:=by simpa [getK] using h
  exact ⟨t,l0,e,i,t,l0,ho,hep,hrep,h',rfl,(0,0),by simp [place]⟩
 | cons s q=>
  obtain ⟨u,x,bh,oh,ch,eh,ph,hk,hpl,_,htu,_,_,_,hr⟩:=nest_get hrep h
  cases u with
  | sl o v=>
   cases o with
   | false=>simp at hk
   | true=>
    refine ⟨t,l0,e,i,v,x,ho,hep,?_,hk,tyU_Q htu,_,hpl⟩
    obtain ⟨a,cap,hcs,hsv,h1⟩:=hr
    exact ⟨a,cap,by rw [hsv],hsv,h1⟩
  | _=>simp at hk
end Go.Kz
