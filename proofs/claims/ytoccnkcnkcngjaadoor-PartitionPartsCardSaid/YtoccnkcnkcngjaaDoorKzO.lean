/-
  Values read: as data, in rows, in variables.
-/
import Derived.Test.YtoccnkcnkcngjaaDoorKzKA
import Derived.MapKept
set_option linter.unusedVariables false
set_option linter.unusedSimpArgs false
namespace Go.Kz
variable {R:Type}
def roG (g:Ghost):Ghost:={ g with tag:=fun b=>match g.tag b with
 | .alien=>.alien
 | _=>.ro }
theorem roG_ro (w:World) (g:Ghost):RoKept w g w (roG g):=⟨fun b hb=>⟨by simp [roG,hb],rfl⟩⟩
theorem roG_frozen (w:World) (g:Ghost) (id:Nat) (p:Path):Frozen w g w (roG g) id p:=⟨fun q b hb=>⟨by simp [roG,hb],rfl⟩⟩
theorem roG_row {g:Ghost} {b id:Nat} {p:Path} (h:g.tag b = .row id p):(roG g).tag b = .ro:=by simp [roG,h]
theorem roG_box {g:Ghost} {b id:Nat} (h:g.tag b = .box id):(roG g).tag b = .ro:=by simp [roG,h]
theorem Ty.isRo_ro:(t:Ty)→t.ro.isRo=true
 | .int _=>rfl
 | .bool=>rfl
 | .str=>rfl
 | .unit=>rfl
 | .pair a b=>by simp [Ty.ro,Ty.isRo,Ty.isRo_ro a,Ty.isRo_ro b]
 | .arr _ t=>by simp [Ty.ro,Ty.isRo,Ty.isRo_ro t]
 | .sl _ t=>by simp [Ty.ro,Ty.isRo,Ty.isRo_ro t]
 | .ptr t=>by simp [Ty.ro,Ty.isRo,Ty.isRo_ro t]
 | .fn _ c=>by simp [Ty.ro,Ty.isRo,Ty.isRo_ro c]
theorem getK_isRo:{t:Ty}→{d:t.den}→{p:Path}→{k:(u:Ty)→u.den→Option R}→{r:R}→t.isRo=true→getK t d p k=some r→
  ∃ u e,k u e=some r∧u.isRo=true
 | t,d,[],k,r,ht,h=>⟨t,d,by cases t <;> simpa [getK] using h,ht⟩
 | .pair a b,(x,y),.fst :: p,k,r,ht,h=>by
  simp only [getK] at h;simp only [Ty.isRo,Bool.and_eq_true] at ht
  exact getK_isRo ht.1 h
 | .pair a b,(x,y),.snd :: p,k,r,ht,h=>by
  simp only [getK] at h;simp only [Ty.isRo,Bool.and_eq_true] at ht
  exact getK_isRo ht.2 h
 | .arr n t,l,.idx i :: p,k,r,ht,h=>by
  simp only [getK,Option.bind_eq_some_iff] at h
  obtain ⟨x,_,h⟩:=h
  exact getK_isRo (by simpa [Ty.isRo] using ht) h
 | .sl true t,l,.idx i :: p,k,r,ht,h=>by simp [Ty.isRo] at ht
 | .sl false t,l,s :: p,k,r,ht,h=>by cases s <;> simp [getK] at h
 | .sl true t,l,.fst :: p,k,r,ht,h=>by simp [getK] at h
 | .sl true t,l,.snd :: p,k,r,ht,h=>by simp [getK] at h
 | .int _,_,s :: _,_,_,_,h=>by cases s <;> simp [getK] at h
 | .bool,_,s :: _,_,_,_,h=>by cases s <;> simp [getK] at h
 | .str,_,s :: _,_,_,_,h=>by cases s <;> simp [getK] at h
 | .unit,_,s :: _,_,_,_,h=>by cases s <;> simp [getK] at h
 | .ptr _,_,s :: _,_,_,_,h=>by cases s <;> simp [getK] at h
 | .fn _ _,_,s :: _,_,_,_,h=>by cases s <;> simp [getK] at h
 | .pair _ _,_,.idx _ :: _,_,_,_,h=>by simp [getK] at h
 | .arr _ _,_,.fst :: _,_,_,_,h=>by simp [getK] at h
 | .arr _ _,_,.snd :: _,_,_,_,h=>by simp [getK] at h
theorem place_flat {g:Ghost} {id:Nat}:{t:Ty}→{pre:Path}→{b off:Nat}→{q:Path}→{o:Nat}→{s:Sk}→t.sk.off q=some (o,s)→place g id t pre b off q=some (b,off+o)
 | t,pre,b,off,[],o,s,h=>by
  simp only [Sk.off,Option.some.injEq,Prod.mk.injEq] at h
  obtain ⟨rfl,_⟩:=h
  simp [place]
 | .pair a c,pre,b,off,.fst :: q,o,s,h=>by
  simp only [Ty.sk,Sk.off] at h
  simp only [place]
  exact place_flat h
 | .pair a c,pre,b,off,.snd :: q,o,s,h=>by
  simp only [Ty.sk,Sk.off,Option.map_eq_some_iff,Prod.mk.injEq] at h
  obtain ⟨⟨o',s'⟩,h,rfl,rfl⟩:=h
  simp only [place,place_flat h,Ty.sk_size,Nat.add_assoc]
 | .arr n t,pre,b,off,.idx i :: q,o,s,h=>by
  simp only [Ty.sk,Sk.off] at h
  split at h
  ·simp only [Option.map_eq_some_iff,Prod.mk.injEq] at h
   obtain ⟨⟨o',s'⟩,h,rfl,rfl⟩:=h
   simp only [place,place_flat h,Ty.sk_size,Nat.add_assoc]
  ·simp at h
 | .int _,_,_,_,s :: _,_,_,h=>by cases s <;> simp [Ty.sk,Sk.off] at h
 | .bool,_,_,_,s :: _,_,_,h=>by cases s <;> simp [Ty.sk,Sk.off] at h
 | .str,_,_,_,s :: _,_,_,h=>by cases s <;> simp [Ty.sk,Sk.off] at h
 | .unit,_,_,_,s :: _,_,_,h=>by cases s <;> simp [Ty.sk,Sk.off] at h
 | .ptr _,_,_,_,s :: _,_,_,h=>by cases s <;> simp [Ty.sk,Sk.off] at h
 | .fn _ _,_,_,_,s :: _,_,_,h=>by cases s <;> simp [Ty.sk,Sk.off] at h
 | .sl _ _,_,_,_,s :: _,_,_,h=>by cases s <;> simp [Ty.sk,Sk.off] at h
 | .pair _ _,_,_,_,.idx _ :: _,_,_,h=>by simp [Ty.sk,Sk.off] at h
 | .arr _ _,_,_,_,.fst :: _,_,_,h=>by simp [Ty.sk,Sk.off] at h
 | .arr _ _,_,_,_,.snd :: _,_,_,h=>by simp [Ty.sk,Sk.off] at h
theorem off_tyS:{t:Ty}→{q:Path}→{o:Nat}→{s:Sk}→t.sk.off q=some (o,s)→tyS t q=some s
 | t,[],o,s,h=>by
  simp only [Sk.off,Option.some.injEq,Prod.mk.injEq] at h
  simp only [tyS,h.2]
 | .pair a c,.fst :: q,o,s,h=>by
  simp only [Ty.sk,Sk.off] at h
  simp only [tyS];exact off_tyS h
 | .pair a c,.snd :: q,o,s,h=>by
  simp only [Ty.sk,Sk.off,Option.map_eq_some_iff,Prod.mk.injEq] at h
  obtain ⟨⟨o',s'⟩,h,rfl,rfl⟩:=h
  simp only [tyS];exact off_tyS h
 | .arr n t,.idx i :: q,o,s,h=>by
  simp only [Ty.sk,Sk.off] at h
  split at h
  ·simp only [Option.map_eq_some_iff,Prod.mk.injEq] at h
   obtain ⟨⟨o',s'⟩,h,rfl,rfl⟩:=h
   simp only [tyS];exact off_tyS h
  ·simp at h
 | .int _,s :: _,_,_,h=>by cases s <;> simp [Ty.sk,Sk.off] at h
 | .bool,s :: _,_,_,h=>by cases s <;> simp [Ty.sk,Sk.off] at h
 | .str,s :: _,_,_,h=>by cases s <;> simp [Ty.sk,Sk.off] at h
 | .unit,s :: _,_,_,h=>by cases s <;> simp [Ty.sk,Sk.off] at h
 | .ptr _,s :: _,_,_,h=>by cases s <;> simp [Ty.sk,Sk.off] at h
 | .fn _ _,s :: _,_,_,h=>by cases s <;> simp [Ty.sk,Sk.off] at h
 | .sl _ _,s :: _,_,_,h=>by cases s <;> simp [Ty.sk,Sk.off] at h
 | .pair _ _,.idx _ :: _,_,_,h=>by simp [Ty.sk,Sk.off] at h
 | .arr _ _,.fst :: _,_,_,h=>by simp [Ty.sk,Sk.off] at h
 | .arr _ _,.snd :: _,_,_,h=>by simp [Ty.sk,Sk.off] at h
theorem fetch_ok {w:World} {g:Ghost} {σ:St} (hh:HeapOK w g σ.objs) {id:Nat} {p:Path} {ep:Nat} {k:(u:Ty)→List u.den→Option R} {r:R}
  (h:fetchK σ id p ep k=some r):∃ t l,σ.objs id=some (.row t l ep)∧p=[]∧t.isRo=true∧k t l=some r:=by
 unfold fetchK at h
 split at h
 ·rename_i t l e ho
  have hok:=hh.objs id _ ho
  cases hb:Nat.beq e ep with
  | false=>rw [hb] at h;simp at h
  | true=>
   rw [hb] at h
   have he:e=ep:=Nat.eq_of_beq_eq_true hb
   subst he
   simp only [cond_true,rowK] at h
   cases p with
   | nil=>
    have h':k t l=some r:=by simpa [getK] using h
    exact ⟨t,l,ho,rfl,hok.1,h'⟩
   | cons s q=>
    cases s with
    | idx i=>
     simp only [getK,Option.bind_eq_some_iff] at h
     obtain ⟨x,_,h⟩:=h
     obtain ⟨u,e',hu,hro⟩:=getK_isRo hok.1 h
     split at hu
     ·simp [Ty.isRo] at hro
     ·simp at hu
    | fst=>simp [getK] at h
    | snd=>simp [getK] at h
 ·simp at h
theorem efetch_ok {w:World} {g:Ghost} {σ:St} (hh:HeapOK w g σ.objs) {id:Nat} {p:Path} {ep:Nat} {k:(u:Ty)→u.den→Option R} {r:R} (hp:p≠[])
  (h:efetchK σ id p ep k=some r):∃ t l u e b off c ee,σ.objs id=some (.row t l ep)∧t.isRo=true∧k u e=some r∧u.isRo=true∧
   place g id (.sl true t) [] 0 0 p=some (b,off)∧tyS (.sl true t) p=some u.sk∧g.tag b = .row id []∧w.heap[b]? = some (.cells c ee (0,0))∧off+u.size≤c.size∧Rep w g none u e (seg c.toList off u.size):=by
 unfold efetchK at h
 split at h
 ·rename_i t l e ho
  have hok:=hh.objs id _ ho
  cases hb:Nat.beq e ep with
  | false=>rw [hb] at h;simp at h
  | true=>
   rw [hb] at h
   have he:e=ep:=Nat.eq_of_beq_eq_true hb
   subst he
   simp only [cond_true,rowK] at h
   cases p with
   | nil=>exact absurd rfl hp
   | cons s q=>
    cases s with
    | idx i=>
     simp only [getK,Option.bind_eq_some_iff] at h
     obtain ⟨x,hx,h⟩:=h
     obtain ⟨h0,hi,rfl,hlt⟩:=idx_some hx
     obtain ⟨a,cap,hcs,hsv,hlc,hcm,hrow⟩:=hok.2
     rcases hrow with ⟨_,hl,_⟩ | ⟨b,off,c,ee,ha,htag,hcell,hsz,helts⟩
     ·rw [hl] at hi;simp at hi
     ·have hel:=Rep.anyOwn (o':=none) hok.1 (helts _ hi)
      obtain ⟨u,e',o,hk,hu,hoff,hr⟩:=getK_rep hok.1 hel h
      have hle:=Sk.off_le hoff
      rw [Ty.sk_size,Ty.sk_size] at hle
      have hcap:(i.toNat+1)*t.size≤cap*t.size:=Nat.mul_le_mul_right _ (by omega)
      rw [Nat.add_mul] at hcap
      refine ⟨t,l,u,e',b,off+i.toNat*t.size+o,c,ee,ho,hok.1,hk,hu,?_,by simp only [tyS];exact off_tyS hoff,htag,hcell,by omega,?_⟩
      ·simp only [place,hsv,ha,List.nil_append]
       exact place_flat hoff
      ·rw [seg_seg _ _ _ _ _ hle] at hr
       exact hr
    | fst=>simp [getK] at h
    | snd=>simp [getK] at h
 ·simp at h
theorem bfetch_ok {w:World} {g:Ghost} {σ:St} (hh:HeapOK w g σ.objs) {id:Nat} {p:Path} {k:AVal→Option R} {r:R}
  (h:bfetchK σ id p k=some r):∃ a a' off c e,σ.objs id=some (.cell a)∧k a'=some r∧a.sk.off p=some (off,a'.sk)∧
   w.heap[g.blk id]? = some (.cells c e (0,0))∧g.tag (g.blk id) = .box id∧off+a'.sk.size≤c.size∧AOK w g σ.objs a c.toList∧AOK w g σ.objs a' (seg c.toList off a'.sk.size)∧∀ m,m∉a.ids→m∉a'.ids:=by
 unfold bfetchK at h
 split at h
 ·rename_i a ho
  obtain ⟨c,e,hc,ht,hok⟩:=hh.objs id _ ho
  obtain ⟨a',off,hk,hoff,hr,hi⟩:=getA_rep hok h
  refine ⟨a,a',off,c,e,ho,hk,hoff,hc,ht,?_,hok,hr,hi⟩
  have:=Sk.off_le hoff
  have h2:=hok.len
  rw [Array.length_toList] at h2
  omega
 ·simp at h
theorem sub_length {α:Type} (l:List α) (a b:Int) (h0:0≤a) (hab:a≤b) (hb:b≤(l.length:Int)):(sub l a b).length=b.toNat-a.toNat:=by
 simp only [sub,List.length_take,List.length_drop];omega
theorem sub_get {α:Type} (l:List α) (a b:Int) (i:Nat) (h:i < (sub l a b).length) (h':a.toNat+i < l.length):(sub l a b).get ⟨i,h⟩=l.get ⟨a.toNat+i,h'⟩:=by
 simp [sub,List.getElem_take,List.getElem_drop]
theorem asData_ok {w:World} {g:Ghost} {σ:St} (hh:HeapOK w g σ.objs):(n:Nat)→{a:AVal}→{t:Ty}→{k:t.den→Option R}→{r:R}→{cs:List Value}→
  AOK w g σ.objs a cs→asData σ n a t k=some r→∃ d,k d=some r∧t.isRo=true∧Rep w (roG g) none t d cs
 | 0,_,_,_,_,_,_,h=>by simp [asData] at h
 | n+1,.data t' d,t,k,r,cs,hok,h=>by
  simp only [asData] at h
  obtain ⟨rfl,h⟩:=castK_some h
  exact ⟨_,h,hok.1,hok.2.kept (roG_ro w g)⟩
 | n+1,.nilS,t,k,r,cs,hok,h=>by
  simp only [asData] at h
  cases hb:t.isRo with
  | false=>rw [hb] at h;simp at h
  | true=>
   rw [hb] at h
   cases t with
   | sl o t=>
    cases o with
    | true=>simp [Ty.isRo] at hb
    | false=>
     refine ⟨([]:List t.den),h,rfl,?_⟩
     have hok':cs=[.slice none 0 0]:=hok
     subst hok'
     exact ⟨none,0,rfl,Nat.le_refl _,Nat.zero_le _,fun hn=>absurd rfl hn⟩
   | _=>simp [nilK] at h
 | n+1,.ref id p ep,t,k,r,cs,hok,h=>by
  simp only [asData] at h
  obtain ⟨v,l,ho,rfl,hro,h⟩:=fetch_ok hh h
  obtain ⟨rfl,h⟩:=castK_some h
  obtain ⟨x,rfl,_,hx⟩:=hok
  have hx':=(hx _ _ _ ho).2 rfl
  have hobj:=hh.objs id _ ho
  refine ⟨_,h,Ty.isRo_ro _,?_⟩
  have:=Rep.freeze (roG_ro w g) (o:=some (id,[])) (roG_frozen w g id []) hobj.2
  rw [hx']
  exact this
 | n+1,.view id p ep a b,t,k,r,cs,hok,h=>by
  simp only [asData] at h
  obtain ⟨v,l,ho,rfl,hro,h⟩:=fetch_ok hh h
  obtain ⟨rfl,h⟩:=castK_some h
  obtain ⟨x,rfl,_,hx⟩:=hok
  obtain ⟨_,h0,hab,hbl,hv⟩:=(hx _ _ _ ho).2 rfl
  have hobj:=hh.objs id _ ho
  refine ⟨_,h,Ty.isRo_ro _,?_⟩
  obtain ⟨ad,cap,hcs,hsv,hlc,hcm,hrow⟩:=hobj.2
  have hlen:=sub_length l a b h0 hab hbl
  show Rep w (roG g) none (.sl false v.ro) (Ty.toRo (.sl false v) (sub l a b)) [x]
  rw [toRo_sl,hv,hsv]
  have hln:(List.map (Ty.toRo v) (sub l a b)).length=(b-a).toNat:=by rw [List.length_map,hlen];omega
  refine ⟨_,cap-a.toNat,by simp only [subSlice];rw [hln],by rw [hln];omega,by omega,fun hne=>?_⟩
  have hpos:0 < (b-a).toNat:=by
   rw [←hln];exact List.length_pos_iff.2 hne
  rcases hrow with ⟨_,hl,_⟩ | ⟨bk,off,c,ee,ha,htag,hcell,hsz,helts⟩
  ·rw [hl] at hbl;simp at hbl;omega
  ·subst ha
   refine ⟨bk,off+a.toNat*v.size,c,ee,(0,0),?_,roG_row htag,hcell,?_,fun i hi=>?_⟩
   ·rw [if_neg (by omega)]
    simp only [Option.map_some,Addr.add]
    split
    ·rename_i hz
     rw [hz];simp
    ·rfl
   ·rw [hln,Ty.size_ro]
    have:(b-a).toNat+a.toNat≤cap:=by omega
    have:=Nat.mul_le_mul_right v.size this
    rw [Nat.add_mul] at this
    omega
   ·have hi2:i < (sub l a b).length:=by simpa using hi
    have hi3:a.toNat+i < l.length:=by omega
    have he:=Rep.freeze (roG_ro w g) (o:=some (id,[]++[Step.idx ((a.toNat+i:Nat):Int)])) (roG_frozen w g id _) (helts (a.toNat+i) hi3)
    rw [List.get_eq_getElem,List.getElem_map]
    have hg:=sub_get l a b i hi2 hi3
    rw [List.get_eq_getElem] at hg
    rw [hg,Ty.size_ro]
    have e:off+a.toNat*v.size+i*v.size=off+(a.toNat+i)*v.size:=by rw [Nat.add_mul];omega
    rw [e]
    exact he
 | n+1,.bptr id p,t,k,r,cs,hok,h=>by
  cases t with
  | ptr t=>
   simp only [asData] at h
   obtain ⟨a,a',off,c,e,ho,hk,hoff,hc,ht,hsz,hall,hpart,_⟩:=bfetch_ok hh h
   obtain ⟨d,hd,hro,hrep⟩:=asData_ok hh n hpart hk
   obtain ⟨v,rfl,_,hv⟩:=hok
   obtain ⟨off',s,hoff',rfl⟩:=hv _ ho
   rw [hoff] at hoff'
   simp only [Option.some.injEq,Prod.mk.injEq] at hoff'
   obtain ⟨rfl,_⟩:=hoff'
   have hl:=hrep.len
   rw [seg_length (by rw [Array.length_toList];exact hsz)] at hl
   refine ⟨d,hd,hro,?_⟩
   exact ⟨g.blk id,off,c,e,(0,0),rfl,roG_box ht,hc,by omega,by rw [←hl];exact hrep⟩
  | _=>simp [asData] at h
 | n+1,.eptr id p ep,t,k,r,cs,hok,h=>by
  cases t with
  | ptr t=>
   simp only [asData] at h
   obtain ⟨v,rfl,_,hv⟩:=hok
   have hobj:∃ t l,σ.objs id=some (.row t l ep):=by
    unfold efetchK at h
    split at h
    ·rename_i t l e ho
     cases hb:Nat.beq e ep with
     | false=>rw [hb] at h;simp at h
     | true=>exact ⟨t,l,by rw [ho,Nat.eq_of_beq_eq_true hb]⟩
    ·simp at h
   obtain ⟨t0,l0,ho0⟩:=hobj
   obtain ⟨hp,b0,off0,hpl,hv'⟩:=(hv _ _ _ ho0).2 rfl
   obtain ⟨t1,l1,u,e,b,off,c,ee,ho,hro,hk,hu,hpl2,_,htag,hcell,hsz,hrep⟩:=efetch_ok hh hp h
   rw [ho0] at ho
   simp only [Option.some.injEq,Obj.row.injEq] at ho
   obtain ⟨rfl,_,_⟩:=ho
   rw [hpl] at hpl2
   simp only [Option.some.injEq,Prod.mk.injEq] at hpl2
   obtain ⟨rfl,rfl⟩:=hpl2
   obtain ⟨rfl,hk⟩:=castK_some hk
   refine ⟨_,hk,by simp only [Ty.isRo];exact Ty.isRo_ro u,?_⟩
   have hf:=Rep.freeze (roG_ro w g) (o:=none) trivial hrep
   exact ⟨b0,off0,c,ee,(0,0),by rw [hv'],roG_row htag,hcell,by rw [Ty.size_ro];exact hsz,by rw [Ty.size_ro];exact hf⟩
  | _=>simp [asData] at h
 | n+1,.clos f c,t,k,r,cs,hok,h=>by
  cases t with
  | fn gid t=>
   simp only [asData] at h
   cases hb:Nat.beq f gid with
   | false=>rw [hb] at h;simp at h
   | true=>
    rw [hb] at h
    have he:f=gid:=Nat.eq_of_beq_eq_true hb
    subst he
    obtain ⟨vs,rfl,hc⟩:=hok
    obtain ⟨d,hd,hro,hrep⟩:=asData_ok hh n hc h
    exact ⟨d,hd,hro,vs,rfl,hrep⟩
  | _=>simp [asData] at h
 | n+1,.agg c,t,k,r,cs,hok,h=>by
  simp only [asData] at h
  exact asData_ok hh n (a:=c) hok h
 | n+1,.pr a b,t,k,r,cs,hok,h=>by
  cases t with
  | pair t u=>
   simp only [asData] at h
   obtain ⟨c1,c2,rfl,h1,h2⟩:=hok
   obtain ⟨x,hx,hrx,hrepx⟩:=asData_ok hh n h1 h
   obtain ⟨y,hy,hry,hrepy⟩:=asData_ok hh n h2 hx
   exact ⟨(x,y),hy,by simp [Ty.isRo,hrx,hry],c1,c2,rfl,hrepx,hrepy⟩
  | _=>simp [asData] at h
 | n+1,.un,t,k,r,cs,hok,h=>by
  cases t with
  | unit=>
   simp only [asData] at h
   exact ⟨(),h,rfl,hok⟩
  | _=>simp [asData] at h
 | n+1,.mref _,t,k,r,cs,hok,h=>by cases t <;> simp [asData] at h
 | n+1,.nv true _ _ _,t,k,r,cs,hok,h=>by cases t <;> simp [asData] at h
 | n+1,.nv false id p ep,t,k,r,cs,hok,h=>by
  simp only [asData] at h
  obtain ⟨t0,l0,e,i,v,l,ho,hep,hrep,h,_,_⟩:=nrow_ok hh h
  obtain ⟨rfl,h⟩:=castK_some h
  obtain ⟨x,rfl,_,hx⟩:=hok
  have hx':=((hx _ _ _ _ _ ho).2 hep).1 rfl
  refine ⟨_,h,Ty.isRo_ro _,?_⟩
  have:=Rep.freeze (roG_ro w g) (o:=some (id,p)) (roG_frozen w g id p) hrep
  rw [hx']
  exact this
 | n+1,.tup _,t,k,r,cs,hok,h=>hok.elim
end Go.Kz
namespace Go.Kz
variable {R:Type}
section
variable {P:Program} {o:Oper} {a:Act} {w:World} {K:Act→World→Prop} {Q:Exit→Act→World→Prop} {c:Ctx} {σ:St} {g:Ghost} {k:St→Option R} {r:R} {base:Nat}
theorem wp_plain {f:AVal→Option R} {s:Sem Value} (hf:f=fun v=>σ.putK c o.dst v k) (hs:Plain f r s P)
  (hrun:∀ w v,s.run P w = .ok v w→(execOp a.eval o).run P w = .ok (.value v) w):Yield P o a w g σ c k r:=by
 subst hf
 obtain ⟨av,v,h1,h2,h3,h4⟩:=hs.out
 exact yld (fun w' _=>hrun w' v (h2 w')) (h4 _ _ _) (fun m _=>by rw [h3];simp) h1
theorem equalIn_bool (d:Nat) {T:TypeId} (hT:P.underlying T=some .bool) (x y:Bool) (w:World):(Op.equalIn (d+1) T (.bool x) (.bool y)).run P w = .ok (x == y) w:=by
 have hu:=run_underlying hT w
 rw [Op.equalIn]
 rw [Sem.run_bind,hu]
 rfl
theorem equal_bool {T:TypeId} (hT:P.underlying T=some .bool) (x y:Bool) (w:World):(Op.equal T (.bool x) (.bool y)).run P w = .ok (x == y) w:=
 equalIn_bool 9999 hT x y w
theorem op_binOp (htt:TtOK P c.tt) {op:BinOp} {t t':TypeId} {x y:Operand}
  (hS:∀ ax ay,ev σ x=some ax→ev σ y=some ay→∀ u,c.tt t=some u→
   cond (c.eqs t && eqTy u && ax.val && ay.val) (asData σ 20 ax u fun d=>asData σ 20 ay u fun e=>eqRes op (eqD u d e) fun v=>σ.putK c o.dst v k) none=some r→Yield P o a w g σ c k r)
  (ho:o.op = .binOp op t x y t') (hst:StOK c.ntmps g w a σ) (h:opK0 c σ base o k=some r):Yield P o a w g σ c k r:=by
 simp only [opK0,ho] at h
 split at h
 ·rename_i ax ay hx hy
  have ex:=(ev_ok hst hx).1
  have ey:=(ev_ok hst hy).1
  unfold binK at h
  split at h
  ·rename_i kx nx ky ny
   obtain ⟨vx,bx⟩:=VOK_int ex
   obtain ⟨vy,_⟩:=VOK_int ey
   cases hs:isShift op with
   | true=>
    rw [hs] at h
    exact wp_plain rfl (shiftInt_ok (P:=P) (j:=ky) bx t h) (fun w v hv=>by simp [execOp,ho,vx,vy,eqGuard,hv])
   | false=>
    rw [hs] at h
    simp only [cond_false] at h
    split at h
    ·rename_i hk _
     subst hk
     exact wp_plain rfl (binInt_ok (P:=P) bx t hs h) (fun w v hv=>by simp [execOp,ho,vx,vy,eqGuard,hv])
    ·simp at h
  ·rename_i bx by'
   have vx:=VOK_bool ex
   have vy:=VOK_bool ey
   split at h
   ·rename_i htb
    have hT:=htt _ _ htb
    simp only [TyOK] at hT
    have hu:=equal_bool hT.1 bx by'
    refine wp_plain (f:=fun v=>σ.putK c o.dst v k) (s:=binOp op t (.bool bx) (.bool by')) rfl ?_ (fun w v hv=>by simp [execOp,ho,vx,vy,eqGuard,hv])
    cases op <;> simp only [binBool] at h
    case eql=>exact Plain.bool h (fun w=>by simp only [binOp,Sem.run_bind,hu,Result.andThen_ok,Sem.run_pure])
    case neq=>exact Plain.bool h (fun w=>by simp only [binOp,Sem.run_bind,hu,Result.andThen_ok,Sem.run_pure])
    all_goals simp at h
   ·simp at h
  ·split at h
   ·rename_i u htu
    exact hS ax ay hx hy u htu h
   ·simp at h
 ·simp at h
theorem op_unOp {op:UnOp} {t:TypeId} {x:Operand} (ho:o.op = .unOp op t x) (hst:StOK c.ntmps g w a σ) (h:opK0 c σ base o k=some r):Yield P o a w g σ c k r:=by
 simp only [opK0,ho] at h
 split at h
 ·rename_i ax hx
  have ex:=(ev_ok hst hx).1
  unfold unK at h
  split at h
  ·have vx:=VOK_bool ex
   exact wp_plain rfl (Plain.bool (s:=Op.unary .not (a.eval x)) h (fun _=>by simp [vx,Op.unary])) (fun w v hv=>by simp [execOp,ho,hv])
  ·rename_i kx nx
   obtain ⟨vx,bx⟩:=VOK_int ex
   exact wp_plain rfl (Plain.int (s:=Op.unary .neg (a.eval x)) h (fun _=>by simp [vx,Op.unary,Op.intArith]) (wrap_has _ _)) (fun w v hv=>by simp [execOp,ho,hv])
  ·rename_i kx nx
   obtain ⟨vx,bx⟩:=VOK_int ex
   exact wp_plain rfl (Plain.int (s:=Op.unary .xor (a.eval x)) h (fun _=>by simp [vx,Op.unary,Op.intBits]) (wrap_has _ _)) (fun w v hv=>by simp [execOp,ho,hv])
  ·simp at h
 ·simp at h
theorem op_convert (htt:TtOK P c.tt) {t t':TypeId} {x:Operand} (ho:o.op = .convert t t' x) (hst:StOK c.ntmps g w a σ) (h:opK0 c σ base o k=some r):Yield P o a w g σ c k r:=by
 simp only [opK0,ho] at h
 split at h
 ·rename_i k0 j k1 kd hx ht ht'
  have ex:=(ev_ok hst hx).1
  obtain ⟨vx,bx⟩:=VOK_int ex
  have h1:=htt _ _ ht
  have h2:=htt _ _ ht'
  simp only [TyOK] at h1 h2
  have u1:=fun w=>run_underlying (P:=P) (w:=w) h1.1
  have u2:=fun w=>run_underlying (P:=P) (w:=w) h2.1
  exact wp_plain (f:=fun v=>σ.putK c o.dst v k) rfl (Plain.int (s:=convert t t' (a.eval x)) h (fun w=>by simp [vx,convert,u1,u2,Conv.intToInt]) (wrap_has _ _)) (fun w v hv=>by simp [execOp,ho,hv])
 ·simp at h
theorem tupleAt_ok {objs:Objs}:{ac:AVal}→{vs:List Value}→{i:Nat}→{av:AVal}→VsOK w g objs ac vs→tupleAt ac i=some av→
  ∃ v,vs[i]? = some v∧VOK w g objs av v∧∀ m,m∉ac.ids→m∉av.ids
 | .pr x y,vs,0,av,h,ht=>by
  simp only [VsOK] at h
  obtain ⟨v,rest,rfl,h1,h2⟩:=h
  simp only [tupleAt,Option.some.injEq] at ht
  subst ht
  exact ⟨v,rfl,h1,fun m hm=>by simp [AVal.ids] at hm;exact hm.1⟩
 | .pr x y,vs,i+1,av,h,ht=>by
  simp only [VsOK] at h
  obtain ⟨v,rest,rfl,h1,h2⟩:=h
  simp only [tupleAt] at ht
  obtain ⟨v',hv',h3,h4⟩:=tupleAt_ok h2 ht
  exact ⟨v',by simpa using hv',h3,fun m hm=>h4 m (by simp [AVal.ids] at hm;exact hm.2)⟩
 | .un,_,_,_,_,ht=>by simp [tupleAt] at ht
 | .data _ _,_,_,_,_,ht=>by simp [tupleAt] at ht
 | .nilS,_,_,_,_,ht=>by simp [tupleAt] at ht
 | .ref _ _ _,_,_,_,_,ht=>by simp [tupleAt] at ht
 | .view _ _ _ _ _,_,_,_,_,ht=>by simp [tupleAt] at ht
 | .bptr _ _,_,_,_,_,ht=>by simp [tupleAt] at ht
 | .eptr _ _ _,_,_,_,_,ht=>by simp [tupleAt] at ht
 | .mref _,_,_,_,_,ht=>by simp [tupleAt] at ht
 | .nv _ _ _ _,_,_,_,_,ht=>by simp [tupleAt] at ht
 | .clos _ _,_,_,_,_,ht=>by simp [tupleAt] at ht
 | .agg _,_,_,_,_,ht=>by simp [tupleAt] at ht
 | .tup _,_,_,_,_,ht=>by simp [tupleAt] at ht
theorem op_extract {x:Operand} {i:Nat} (ho:o.op = .extract x i) (hst:StOK c.ntmps g w a σ) (h:opK0 c σ base o k=some r):Yield P o a w g σ c k r:=by
 simp only [opK0,ho] at h
 split at h
 ·rename_i ac hx
  obtain ⟨ex,ef⟩:=ev_ok hst hx
  simp only [VOK] at ex
  obtain ⟨vs,hv,hvs⟩:=ex
  split at h
  ·rename_i av hav
   obtain ⟨v,h1,h2,h3⟩:=tupleAt_ok hvs hav
   refine yld (v:=v) ?_ h2 (fun m hm=>h3 m (by have:=ef m hm;simpa [AVal.ids] using this)) h
   intro w' _
   simp [execOp,ho,hv,Instr.extract,h1]
  ·simp at h
 ·simp at h
theorem allPtr_cells {objs:Objs}:{ac:AVal}→{vs:List Value}→allPtr ac=true→VsOK w g objs ac vs→AOK w g objs ac vs
 | .un,vs,_,h=>by simp only [VsOK] at h;exact h
 | .pr (.bptr id p) y,vs,hp,h=>by
  simp only [VsOK] at h
  obtain ⟨v,rest,rfl,h1,h2⟩:=h
  simp only [VOK] at h1
  obtain ⟨cs,h1,hv⟩:=h1
  have h1':=h1
  obtain ⟨x,rfl,_⟩:=h1
  have hv':v=x:=hv
  subst hv'
  exact ⟨[v],rest,rfl,h1',allPtr_cells (by simpa [allPtr] using hp) h2⟩
 | .pr (.data (.ptr t) d) y,vs,hp,h=>by
  simp only [VsOK] at h
  obtain ⟨v,rest,rfl,h1,h2⟩:=h
  simp only [VOK] at h1
  obtain ⟨cs,h1,hv⟩:=h1
  have h1':=h1
  obtain ⟨_,b,off,c,e,fz,rfl,_⟩:=h1
  have hv':v = .pointer (some ⟨b,off,none⟩):=hv
  subst hv'
  exact ⟨_,rest,rfl,h1',allPtr_cells (by simpa [allPtr] using hp) h2⟩
 | .data _ _,_,hp,_=>by simp [allPtr] at hp
 | .nilS,_,hp,_=>by simp [allPtr] at hp
 | .ref _ _ _,_,hp,_=>by simp [allPtr] at hp
 | .view _ _ _ _ _,_,hp,_=>by simp [allPtr] at hp
 | .bptr _ _,_,hp,_=>by simp [allPtr] at hp
 | .eptr _ _ _,_,hp,_=>by simp [allPtr] at hp
 | .mref _,_,hp,_=>by simp [allPtr] at hp
 | .nv _ _ _ _,_,hp,_=>by simp [allPtr] at hp
 | .clos _ _,_,hp,_=>by simp [allPtr] at hp
 | .agg _,_,hp,_=>by simp [allPtr] at hp
 | .tup _,_,hp,_=>by simp [allPtr] at hp
 | .pr (.data (.int _) _) _,_,hp,_=>by simp [allPtr] at hp
 | .pr (.data .bool _) _,_,hp,_=>by simp [allPtr] at hp
 | .pr (.data .str _) _,_,hp,_=>by simp [allPtr] at hp
 | .pr (.data .unit _) _,_,hp,_=>by simp [allPtr] at hp
 | .pr (.data (.pair _ _) _) _,_,hp,_=>by simp [allPtr] at hp
 | .pr (.data (.arr _ _) _) _,_,hp,_=>by simp [allPtr] at hp
 | .pr (.data (.sl _ _) _) _,_,hp,_=>by simp [allPtr] at hp
 | .pr (.data (.fn _ _) _) _,_,hp,_=>by simp [allPtr] at hp
 | .pr .nilS _,_,hp,_=>by simp [allPtr] at hp
 | .pr (.ref _ _ _) _,_,hp,_=>by simp [allPtr] at hp
 | .pr (.view _ _ _ _ _) _,_,hp,_=>by simp [allPtr] at hp
 | .pr (.eptr _ _ _) _,_,hp,_=>by simp [allPtr] at hp
 | .pr (.mref _) _,_,hp,_=>by simp [allPtr] at hp
 | .pr (.nv _ _ _ _) _,_,hp,_=>by simp [allPtr] at hp
 | .pr (.clos _ _) _,_,hp,_=>by simp [allPtr] at hp
 | .pr (.agg _) _,_,hp,_=>by simp [allPtr] at hp
 | .pr (.tup _) _,_,hp,_=>by simp [allPtr] at hp
 | .pr (.pr _ _) _,_,hp,_=>by simp [allPtr] at hp
 | .pr .un _,_,hp,_=>by simp [allPtr] at hp
theorem op_makeFunc {f:FuncId} {first cap:Array Operand} (ho:o.op = .makeFunc (.func f) first cap) (hst:StOK c.ntmps g w a σ) (h:opK0 c σ base o k=some r):Yield P o a w g σ c k r:=by
 simp only [opK0,ho] at h
 split at h
 ·rename_i hfirst
  split at h
  ·rename_i ac hac
   obtain ⟨ex,ef⟩:=evs_ok hst hac
   cases hp:allPtr ac with
   | false=>rw [hp] at h;simp at h
   | true=>
    rw [hp] at h
    have hcells:=allPtr_cells hp ex
    have hf0:first = #[]:=by
     apply Array.toList_inj.1;simpa using hfirst
    refine yld (v:=.func (.func f) #[] (cap.toList.map a.eval).toArray) ?_ ?_ (fun m hm=>by simpa [AVal.ids] using ef m hm) h
    ·intro w' _;simp [execOp,ho,Instr.makeFunc,hf0,←List.map_toArray]
    ·simp only [VOK]
     exact ⟨_,⟨_,rfl,hcells⟩,rfl⟩
  ·simp at h
 ·simp at h
theorem VOK_ptr {objs:Objs} {av:AVal} {v:Value} (hp:isPtr av=true) (h:VOK w g objs av v) :
  (∃ t d b off c e fz,av = .data (.ptr t) d∧v = .pointer (some ⟨b,off,none⟩)∧t.isRo=true∧g.tag b = .ro∧w.heap[b]? = some (.cells c e fz)∧off+t.size≤c.size∧Rep w g none t d (seg c.toList off t.size))∨
  (∃ id p,av = .bptr id p∧∀ x,objs id=some (.cell x)→∃ off s,x.sk.off p=some (off,s)∧v = .pointer (some ⟨g.blk id,off,none⟩))∨
  (∃ id p ep,av = .eptr id p ep∧∀ t l e,objs id=some (.row t l e)→ep≤e∧(e=ep→p≠[]∧∃ b off,place g id (.sl true t) [] 0 0 p=some (b,off)∧v = .pointer (some ⟨b,off,none⟩))):=by
 cases av with
 | bptr id p=>
  simp only [VOK] at h
  obtain ⟨cs,⟨x,rfl,_,hx⟩,hv⟩:=h
  have hv':v=x:=hv
  subst hv'
  exact .inr (.inl ⟨id,p,rfl,hx⟩)
 | eptr id p ep=>
  simp only [VOK] at h
  obtain ⟨cs,⟨x,rfl,_,hx⟩,hv⟩:=h
  have hv':v=x:=hv
  subst hv'
  exact .inr (.inr ⟨id,p,ep,rfl,hx⟩)
 | data t d=>
  cases t with
  | ptr t=>
   simp only [VOK] at h
   obtain ⟨cs,⟨hro,b,off,c,e,fz,rfl,h1,h2,h3,h4⟩,hv⟩:=h
   exact .inl ⟨t,d,b,off,c,e,fz,rfl,hv,by simpa [Ty.isRo] using hro,h1,h2,h3,h4⟩
  | _=>simp [isPtr] at hp
 | _=>simp [isPtr] at hp
theorem op_nilCheck {x:Operand} (ho:o.op = .nilCheck x) (hst:StOK c.ntmps g w a σ) (h:opK0 c σ base o k=some r):Yield P o a w g σ c k r:=by
 simp only [opK0,ho] at h
 split at h
 ·rename_i av hav
  obtain ⟨ex,ef⟩:=ev_ok hst hav
  cases hp:holds σ av with
  | false=>rw [hp] at h;simp at h
  | true=>
   rw [hp] at h
   simp only [cond_true] at h
   have hv:∃ ad,a.eval x = .pointer (some ad):=by
    unfold holds at hp
    split at hp
    ·rcases VOK_ptr rfl ex with ⟨t,d,b,off,cc,e,fz,h1,h2,_⟩ | ⟨_,_,h1,_⟩ | ⟨_,_,_,h1,_⟩
     ·exact ⟨_,h2⟩
     ·simp at h1
     ·simp at h1
    ·rcases VOK_ptr rfl ex with ⟨t,d,b,off,cc,e,fz,h1,h2,_⟩ | ⟨_,_,h1,h2⟩ | ⟨_,_,_,h1,_⟩
     ·simp at h1
     ·simp only [AVal.bptr.injEq] at h1
      obtain ⟨rfl,rfl⟩:=h1
      split at hp
      ·rename_i xx hxx
       obtain ⟨off,s,_,hv⟩:=h2 _ hxx
       exact ⟨_,hv⟩
      ·simp at hp
     ·simp at h1
    ·rcases VOK_ptr rfl ex with ⟨t,d,b,off,cc,e,fz,h1,h2,_⟩ | ⟨_,_,h1,h2⟩ | ⟨_,_,_,h1,h2⟩
     ·simp at h1
     ·simp at h1
     ·simp only [AVal.eptr.injEq] at h1
      obtain ⟨rfl,rfl,rfl⟩:=h1
      split at hp
      ·rename_i t l e hxx
       obtain ⟨_,h3⟩:=h2 _ _ _ hxx
       obtain ⟨_,b,off,_,hv⟩:=h3 (Nat.eq_of_beq_eq_true hp)
       exact ⟨_,hv⟩
      ·simp at hp
    ·simp only [VOK] at ex
     obtain ⟨cs,⟨y,rfl,_,hx⟩,hv⟩:=ex
     split at hp
     ·rename_i t l e i hxx
      obtain ⟨_,h3⟩:=hx _ _ _ _ _ hxx
      obtain ⟨_,b,off,_,hv2⟩:=(h3 (Nat.eq_of_beq_eq_true hp)).2 rfl
      exact ⟨_,hv.trans hv2⟩
     ·simp at hp
    ·simp at hp
   obtain ⟨ad,hv⟩:=hv
   exact yld (v:=a.eval x) (fun _ _=>by simp [execOp,ho,hv]) ex ef h
 ·simp at h
theorem foldInts_ok {objs:Objs} {gf:Int→Int→Int} {b2:Value→Value→Sem Value} {kd:IntKind} (hb:∀ w x y,(b2 (.int kd x) (.int kd y)).run P w = .ok (.int kd (gf x y)) w)
  (hg:∀ x y,gf x y=x∨gf x y=y):{ac:AVal}→{vs:List Value}→{x:Int}→{f:Int→Option R}→VsOK w g objs ac vs→kd.min≤x∧x≤kd.max→foldInts gf kd x ac f=some r→
  ∃ z,f z=some r∧kd.min≤z∧z≤kd.max∧∀ w,(vs.foldlM b2 (.int kd x)).run P w = .ok (.int kd z) w
 | .un,vs,x,f,hv,hx,h=>by
  simp only [VsOK] at hv
  subst hv
  exact ⟨x,h,hx.1,hx.2,fun _=>by simp [List.foldlM]⟩
 | .pr (.data (.int j) y) ac,vs,x,f,hv,hx,h=>by
  simp only [VsOK] at hv
  obtain ⟨v,rest,rfl,h1,h2⟩:=hv
  obtain ⟨rfl,hy⟩:=VOK_int h1
  simp only [foldInts] at h
  split at h
  ·rename_i hk _
   subst hk
   have hz:kd.min≤gf x y∧gf x y≤kd.max:=by
    rcases hg x y with e | e <;> rw [e]
    ·exact hx
    ·exact hy
   obtain ⟨z,hf,z1,z2,hrun⟩:=foldInts_ok hb hg h2 hz h
   refine ⟨z,hf,z1,z2,fun w=>?_⟩
   simp only [List.foldlM_cons,Sem.run_bind,hb,Result.andThen_ok]
   exact hrun w
  ·simp at h
 | .data _ _,_,_,_,_,_,h=>by simp [foldInts] at h
 | .nilS,_,_,_,_,_,h=>by simp [foldInts] at h
 | .ref _ _ _,_,_,_,_,_,h=>by simp [foldInts] at h
 | .view _ _ _ _ _,_,_,_,_,_,h=>by simp [foldInts] at h
 | .bptr _ _,_,_,_,_,_,h=>by simp [foldInts] at h
 | .eptr _ _ _,_,_,_,_,_,h=>by simp [foldInts] at h
 | .mref _,_,_,_,_,_,h=>by simp [foldInts] at h
 | .nv _ _ _ _,_,_,_,_,_,h=>by simp [foldInts] at h
 | .clos _ _,_,_,_,_,_,h=>by simp [foldInts] at h
 | .agg _,_,_,_,_,_,h=>by simp [foldInts] at h
 | .tup _,_,_,_,_,_,h=>by simp [foldInts] at h
 | .pr (.data .bool _) _,_,_,_,_,_,h=>by simp [foldInts] at h
 | .pr (.data .str _) _,_,_,_,_,_,h=>by simp [foldInts] at h
 | .pr (.data .unit _) _,_,_,_,_,_,h=>by simp [foldInts] at h
 | .pr (.data (.pair _ _) _) _,_,_,_,_,_,h=>by simp [foldInts] at h
 | .pr (.data (.arr _ _) _) _,_,_,_,_,_,h=>by simp [foldInts] at h
 | .pr (.data (.sl _ _) _) _,_,_,_,_,_,h=>by simp [foldInts] at h
 | .pr (.data (.ptr _) _) _,_,_,_,_,_,h=>by simp [foldInts] at h
 | .pr (.data (.fn _ _) _) _,_,_,_,_,_,h=>by simp [foldInts] at h
 | .pr .nilS _,_,_,_,_,_,h=>by simp [foldInts] at h
 | .pr (.ref _ _ _) _,_,_,_,_,_,h=>by simp [foldInts] at h
 | .pr (.view _ _ _ _ _) _,_,_,_,_,_,h=>by simp [foldInts] at h
 | .pr (.bptr _ _) _,_,_,_,_,_,h=>by simp [foldInts] at h
 | .pr (.eptr _ _ _) _,_,_,_,_,_,h=>by simp [foldInts] at h
 | .pr (.mref _) _,_,_,_,_,_,h=>by simp [foldInts] at h
 | .pr (.nv _ _ _ _) _,_,_,_,_,_,h=>by simp [foldInts] at h
 | .pr (.clos _ _) _,_,_,_,_,_,h=>by simp [foldInts] at h
 | .pr (.agg _) _,_,_,_,_,_,h=>by simp [foldInts] at h
 | .pr (.tup _) _,_,_,_,_,_,h=>by simp [foldInts] at h
 | .pr (.pr _ _) _,_,_,_,_,_,h=>by simp [foldInts] at h
 | .pr .un _,_,_,_,_,_,h=>by simp [foldInts] at h
theorem op_max {args:Array Operand} {ts:Array TypeId} (ho:o.op = .call { callee:=.builtin .max,args:=args,argTypes:=ts }) (hst:StOK c.ntmps g w a σ) (h:opK0 c σ base o k=some r):Yield P o a w g σ c k r:=by
 simp only [opK0,ho] at h
 split at h
 ·rename_i kd x ac hx
  obtain ⟨ex,_⟩:=evs_ok hst hx
  simp only [VsOK] at ex
  obtain ⟨v,rest,hvs,h1,h2⟩:=ex
  obtain ⟨rfl,hb⟩:=VOK_int h1
  obtain ⟨z,hz,z1,z2,hrun⟩:=foldInts_ok (P:=P) (b2:=Builtin.max2) (fun w x y=>by simp [Builtin.max2,maxI]) (fun x y=>by unfold maxI;split <;> simp) h2 hb h
  refine yld (v:=.int kd z) ?_ (VOK_int_mk ⟨z1,z2⟩) (fun m _=>by simp [AVal.ids]) hz
  intro w' _
  have e:(args.map a.eval).toList = .int kd x :: rest:=by rw [Array.toList_map];exact hvs
  simp only [execOp,ho,resolve,Sem.run_bind,Sem.run_pure,Result.andThen_ok,invoke,builtin,Builtin.max_,e,hrun]
 ·simp at h
theorem op_min {args:Array Operand} {ts:Array TypeId} (ho:o.op = .call { callee:=.builtin .min,args:=args,argTypes:=ts }) (hst:StOK c.ntmps g w a σ) (h:opK0 c σ base o k=some r):Yield P o a w g σ c k r:=by
 simp only [opK0,ho] at h
 split at h
 ·rename_i kd x ac hx
  obtain ⟨ex,_⟩:=evs_ok hst hx
  simp only [VsOK] at ex
  obtain ⟨v,rest,hvs,h1,h2⟩:=ex
  obtain ⟨rfl,hb⟩:=VOK_int h1
  obtain ⟨z,hz,z1,z2,hrun⟩:=foldInts_ok (P:=P) (b2:=Builtin.min2) (fun w x y=>by simp [Builtin.min2,minI]) (fun x y=>by unfold minI;split <;> simp) h2 hb h
  refine yld (v:=.int kd z) ?_ (VOK_int_mk ⟨z1,z2⟩) (fun m _=>by simp [AVal.ids]) hz
  intro w' _
  have e:(args.map a.eval).toList = .int kd x :: rest:=by rw [Array.toList_map];exact hvs
  simp only [execOp,ho,resolve,Sem.run_bind,Sem.run_pure,Result.andThen_ok,invoke,builtin,Builtin.min_,e,hrun]
 ·simp at h
end
end Go.Kz
namespace Go.Kz
variable {R:Type}
section
variable {P:Program} {o:Oper} {a:Act} {w:World} {K:Act→World→Prop} {Q:Exit→Act→World→Prop} {c:Ctx} {σ:St} {g:Ghost} {k:St→Option R} {r:R} {base:Nat}
theorem chk_some {b:Bool} {x:Option R} (h:chk b x=some r):b=true∧x=some r:=by
 cases b <;> simp_all [chk]
def MtOK (P:Program) (mt:Nat→Option (Ty×Ty)):Prop:=∀ t kt vt,mt t=some (kt,vt)→∃ K E,P.underlying t=some (.map K E)∧TyOK P kt K∧TyOK P vt E∧∃ i z,P.info? E=some i∧i.zero=some z∧z=mkV vt.sk.isAgg z.cells.toList
theorem mapK_some {σ:St} {mt:Option (Ty×Ty)} {a:AVal} {f:(id:Nat)→(kt vt:Ty)→List (kt.den×vt.den)→Option R} {r:R} (h:mapK σ mt a f=some r) :
  ∃ id kt vt m,a = .mref id∧mt=some (kt,vt)∧σ.objs id=some (.map kt vt m)∧keyTy kt=true∧vt.noSl=true∧f id kt vt m=some r:=by
 unfold mapK at h
 split at h
 ·rename_i id kt' vt'
  split at h
  ·rename_i kt vt m hobj
   cases hc:((Ty.same kt kt').isSome && (Ty.same vt vt').isSome && keyTy kt && vt.noSl) with
   | false=>rw [hc] at h;simp at h
   | true=>
    rw [hc] at h
    simp only [Bool.and_eq_true,Option.isSome_iff_exists] at hc
    obtain ⟨⟨⟨⟨e1,_⟩,⟨e2,_⟩⟩,hk⟩,hv⟩:=hc
    obtain rfl:=e1.down
    obtain rfl:=e2.down
    exact ⟨id,kt,vt,m,rfl,rfl,hobj,hk,hv,h⟩
  ·simp at h
 ·simp at h
theorem MapRep.length {w:World} {g:Ghost} {kt vt:Ty}:{es:List MapEntry}→{m:List (kt.den×vt.den)}→MapRep w g kt vt es m→es.length=m.length
 | [],[],_=>rfl
 | _ :: _,(_,_) :: _,⟨_,_,h⟩=>by simp [h.length]
 | [],_ :: _,h=>h.elim
 | _ :: _,[],h=>h.elim
theorem VOK_mref {w:World} {g:Ghost} {objs:Objs} {id:Nat} {v:Value} {kt vt:Ty} {m:List (kt.den×vt.den)} (h:VOK w g objs (.mref id) v) (ho:objs id=some (.map kt vt m)):v = .map (some (g.blk id)):=by
 simp only [VOK] at h
 obtain ⟨cs,⟨x,rfl,_,hx⟩,hv⟩:=h
 rw [hv];exact hx _ _ _ ho
theorem op_len {args:Array Operand} {ts:Array TypeId} (ho:o.op = .call { callee:=.builtin .len,args:=args,argTypes:=ts }) (htt:TtOK P c.tt) (hmt:MtOK P c.mt)
  (hst:StOK c.ntmps g w a σ) (h:opK0 c σ base o k=some r):Yield P o a w g σ c k r:=by
 simp only [opK0,ho] at h
 split at h
 ·rename_i x t hargs htys
  split at h
  ·rename_i av ot u hx htt'
   have hT:=htt _ _ htt'
   simp only [TyOK] at hT
   obtain ⟨⟨E,hund,_⟩,_⟩:=hT
   obtain ⟨ex,ef⟩:=ev_ok hst hx
   clear ef
   have key:∃ n:Nat,(∃ b cp,a.eval x = .slice b n cp)∧n≤maxLen∧(σ.putK c o.dst (.data (.int .i64) (n:Int)) k=some r):=by
    unfold lenK at h
    split at h
    ·have:=VOK_nil.1 ex
     exact ⟨0,⟨none,0,this⟩,Nat.zero_le _,h⟩
    ·rename_i ow t' l
     simp only [VOK] at ex
     obtain ⟨cs,⟨hro,hrep⟩,hv⟩:=ex
     cases ow with
     | true=>simp [Ty.isRo] at hro
     | false=>
      obtain ⟨b,cp,rfl,h1,h2,_⟩:=hrep
      exact ⟨_,⟨b,cp,hv⟩,by omega,h⟩
    ·obtain ⟨t',l,hobj,rfl,_,h⟩:=fetch_ok hst.heap h
     simp only [VOK] at ex
     obtain ⟨cs,⟨v,rfl,hone,hv⟩,hv'⟩:=ex
     have e1:=(hv _ _ _ hobj).2 rfl
     obtain ⟨b,cp,_,hsv,h1,h2,_⟩:=(hst.heap.objs _ _ hobj).2
     refine ⟨l.length,⟨b,cp,?_⟩,by omega,h⟩
     rw [←hsv,←e1];exact hv'
    ·rename_i id p ep av bv
     obtain ⟨t',l,hobj,rfl,_,h⟩:=fetch_ok hst.heap h
     simp only [VOK] at ex
     obtain ⟨cs,⟨v,rfl,hone,hv⟩,hv'⟩:=ex
     obtain ⟨_,h0,hab,hbl,e1⟩:=(hv _ _ _ hobj).2 rfl
     obtain ⟨b,cp,_,hsv,h1,h2,_⟩:=(hst.heap.objs _ _ hobj).2
     refine ⟨(bv-av).toNat,⟨if cp-av.toNat=0 then b else b.map (·.add (av.toNat*t'.size)),cp-av.toNat,?_⟩,by omega,?_⟩
     ·rw [hv'];show v=_;rw [e1,hsv];rfl
     ·rw [Int.toNat_of_nonneg (by omega)];exact h
    ·obtain ⟨t',l0,e,i,v',l,hobj,hep,hrep,h,_,_⟩:=nrow_ok hst.heap h
     simp only [VOK] at ex
     obtain ⟨cs,⟨v,rfl,hone,hv⟩,hv'⟩:=ex
     have e1:=((hv _ _ _ _ _ hobj).2 hep).1 rfl
     obtain ⟨b,cp,_,hsv,h1,h2,_⟩:=hrep
     refine ⟨l.length,⟨b,cp,?_⟩,by omega,h⟩
     rw [←hsv,←e1];exact hv'
    ·simp at h
   obtain ⟨n,⟨b,cp,hv⟩,hn,h⟩:=key
   refine yld (v:=.int .i64 n) ?_ (VOK_int_mk ?_) (fun m _=>by simp [AVal.ids]) h
   ·intro w' _
    have e1:args = #[x]:=by apply Array.toList_inj.1;simpa using hargs
    have e2:ts = #[t]:=by apply Array.toList_inj.1;simpa using htys
    subst e1;subst e2
    simp [execOp,ho,resolve,invoke,builtin,Builtin.len_,run_underlying hund,hv,goInt]
   ·simp only [maxLen] at hn
    simp only [IntKind.min,IntKind.max,IntKind.bits,IntKind.signed]
    simp
    omega
  ·rename_i av hx htt'
   obtain ⟨id,kt,vt,m,rfl,hmt',hobj,_,_,h⟩:=mapK_some h
   obtain ⟨hlen,h⟩:=chk_some h
   obtain ⟨K,E,hund,_,_⟩:=hmt _ _ _ hmt'
   obtain ⟨ex,_⟩:=ev_ok hst hx
   obtain ⟨es,ck,hblk,htag,_,_,hrep⟩:=hst.heap.objs _ _ hobj
   have hv:=VOK_mref ex hobj
   have hl:=hrep.length
   have hlt:g.blk id < w.heap.size:=hst.heap.tags _ (by rw [htag];simp)
   refine yld (v:=.int .i64 m.length) ?_ (VOK_int_mk ?_) (fun m _=>by simp [AVal.ids]) h
   ·intro w' hag
    replace hag:=hag (by simp [isP,ho])
    have e1:args = #[x]:=by apply Array.toList_inj.1;simpa using hargs
    have e2:ts = #[t]:=by apply Array.toList_inj.1;simpa using htys
    subst e1;subst e2
    have hb':w'.heap[g.blk id]? = some (.map es ck):=by rw [hag _ hlt];exact hblk
    have hsz:es.size=m.length:=by rw [←hl,Array.length_toList]
    have hg:(getObj (g.blk id)).run P w' = .ok (.map es ck) w':=by simp [getObj,Sem.run,hb']
    simp [execOp,ho,resolve,invoke,builtin,Builtin.len_,run_underlying hund,hv,goInt,hg,hsz]
   ·have:m.length≤room:=by simpa using hlen
    simp only [room] at this
    simp only [IntKind.min,IntKind.max,IntKind.bits,IntKind.signed]
    simp
    omega
  ·simp at h
 ·simp at h
theorem InfoOK.sizeOf {T:TypeId} {t:Ty} (h:InfoOK P T t) (w:World):(sizeOf T).run P w = .ok t.size w:=by
 obtain ⟨i,z,hi,hs,_⟩:=h.info
 simp [Go.sizeOf,typeInfo,hi,hs]
theorem run_indexAt_slice {T E:TypeId} {t:Ty} (hT:P.underlying T=some (.slice E)) (hE:InfoOK P E t) (b off len cap:Nat) (ki:IntKind) (i:Int) (h0:0≤i) (h1:i < len) (w:World) :
  (Instr.indexAt T (.slice (some ⟨b,off,none⟩) len cap) (.int ki i)).run P w = .ok (.pointer (some ⟨b,off+i.toNat*t.size,none⟩)) w:=by
 have hs:=hE.sizeOf w
 simp [Instr.indexAt,asIntOf,run_underlying hT,h0,h1,hs,Addr.add_lit]
theorem run_indexAt_arr {T E:TypeId} {t:Ty} {n:Nat} (hT:P.underlying T=some (.array n E)) (hE:InfoOK P E t) (b off:Nat) (ki:IntKind) (i:Int) (h0:0≤i) (h1:i < n) (w:World) :
  (Instr.indexAt T (.pointer (some ⟨b,off,none⟩)) (.int ki i)).run P w = .ok (.pointer (some ⟨b,off+i.toNat*t.size,none⟩)) w:=by
 have hs:=hE.sizeOf w
 simp [Instr.indexAt,Instr.sureAddr,asIntOf,run_underlying hT,h0,h1,hs,Addr.add_lit]
theorem inb_iff {α:Type} {l:List α} {i:Int} (h:inb l i=true):0≤i∧i < (l.length:Int):=by
 simpa [inb] using h
theorem op_index_nest {t:TypeId} {x i:Operand} {id:Nat} {p:Path} {ep:Nat} {ow':Bool} {u':Ty} {j:Int} {ki:IntKind} (hT:TyOK P (.sl ow' u') t) (ho:o.op = .indexAddr t x i) (hst:StOK c.ntmps g w a σ)
  (hx:ev σ x=some (.nv false id p ep)) (vi:a.eval i = .int ki j) (ef:∀ m,Fresh g σ m→m∉(AVal.nv false id p ep).ids) (ex:VOK w g σ.objs (.nv false id p ep) (a.eval x))
  (h:(nrowK σ id p ep fun t l=>cond (t.sk.same u'.sk) (chk (inb l j) (σ.putK c o.dst (.nv true id (p++[.idx j]) (innerOf σ id)) k)) none)=some r):Yield P o a w g σ c k r:=by
 simp only [TyOK] at hT
 obtain ⟨⟨E,hund,hE⟩,_⟩:=hT
 obtain ⟨t0,l0,e0,i0,t',l,hobj,hep,hrep,h,hq,xx,hpl⟩:=nrow_ok hst.heap h
 cases hs:t'.sk.same u'.sk with
 | false=>rw [hs] at h;simp at h
 | true=>
  rw [hs] at h
  have hsk:=Sk.same_eq hs
  have hsz:u'.size=t'.size:=by rw [←Ty.sk_size,←Ty.sk_size,hsk]
  simp only [cond_true] at h
  obtain ⟨hin,h⟩:=chk_some h
  obtain ⟨h0,hlt⟩:=inb_iff hin
  simp only [VOK] at ex
  obtain ⟨cs,⟨v,rfl,hone,hv⟩,hv'⟩:=ex
  have e1:=((hv _ _ _ _ _ hobj).2 hep).1 rfl
  obtain ⟨ad,cp,_,hsv,h1,h2,h3⟩:=hrep
  rcases h3 with ⟨_,hl,_⟩ | ⟨bk,off,cc,e,rfl,htag,hcell,hsz',hel⟩
  ·rw [hl] at hlt;simp at hlt;omega
  ·have hv2:a.eval x = .slice (some ⟨bk,off,none⟩) l.length cp:=by rw [←hsv,←e1];exact hv'
   refine yld (v:=.pointer (some ⟨bk,off+j.toNat*t'.size,none⟩)) ?_ ?_ (fun m hm=>by have:=ef m hm;simpa [AVal.ids] using this) h
   ·intro w' _;simp [execOp,ho,hv2,vi,run_indexAt_slice hund hE.info bk off _ cp ki j h0 hlt w',hsz]
   ·simp only [VOK]
    refine ⟨_,⟨_,rfl,rfl,fun t1 l1 e1 i1 h1 hobj'=>?_⟩,rfl⟩
    rw [hobj] at hobj'
    simp only [Option.some.injEq,Obj.nest.injEq] at hobj'
    obtain ⟨rfl,_,rfl,rfl,_⟩:=hobj'
    have hin:innerOf σ id=i0:=by simp [innerOf,hobj]
    rw [hin]
    refine ⟨Nat.le_refl _,fun _=>⟨fun h=>(by simp at h),fun _=>⟨by simp,bk,off+j.toNat*t'.size,place_elem (x:=xx) hq hpl (by simpa using hsv),rfl⟩⟩⟩
theorem op_index_hole {t:TypeId} {x i:Operand} {id:Nat} {ep:Nat} {ow':Bool} {u':Ty} {j:Int} {ki:IntKind} (hT:TyOK P (.sl ow' u') t) (ho:o.op = .indexAddr t x i) (hst:StOK c.ntmps g w a σ)
  (vi:a.eval i = .int ki j) (ef:∀ m,Fresh g σ m→m∉(AVal.nv false id [] ep).ids) (ex:VOK w g σ.objs (.nv false id [] ep) (a.eval x))
  (h:(holeK σ id ep u' j fun v=>σ.putK c o.dst v k)=some r):Yield P o a w g σ c k r:=by
 simp only [TyOK] at hT
 obtain ⟨⟨E,hund,hE⟩,_⟩:=hT
 unfold holeK at h
 split at h
 ·rename_i t' l e n hp hobj
  cases hs:(Nat.beq e ep && t'.sk.same u'.sk) with
  | false=>rw [hs] at h;simp at h
  | true=>
   rw [hs] at h
   simp only [Bool.and_eq_true] at hs
   have hee:=Nat.eq_of_beq_eq_true hs.1
   subst hee
   have hsk:=Sk.same_eq hs.2
   have hsz:u'.size=t'.size:=by rw [←Ty.sk_size,←Ty.sk_size,hsk]
   simp only [cond_true] at h
   obtain ⟨hin,h⟩:=chk_some h
   obtain ⟨h0,hlt⟩:=inb_iff hin
   simp only [VOK] at ex
   obtain ⟨cs,⟨v,rfl,hone,hv⟩,hv'⟩:=ex
   have e1:=((hv _ _ _ _ _ hobj).2 rfl).1 rfl
   obtain ⟨⟨bk,off,cp,hsv⟩,_⟩:=hst.heap.objs _ _ hobj
   have hv2:a.eval x = .slice (some ⟨bk,off,none⟩) l.length cp:=by rw [←hsv,←e1];exact hv'
   refine yld (v:=.pointer (some ⟨bk,off+j.toNat*t'.size,none⟩)) ?_ ?_ (fun m hm=>by have:=ef m hm;simpa [AVal.ids] using this) h
   ·intro w' _;simp [execOp,ho,hv2,vi,run_indexAt_slice hund hE.info bk off _ cp ki j h0 hlt w',hsz]
   ·simp only [VOK]
    refine ⟨_,⟨_,rfl,rfl,fun t1 l1 e1 i1 h1 hobj'=>?_⟩,rfl⟩
    rw [hobj] at hobj'
    simp only [Option.some.injEq,Obj.nest.injEq] at hobj'
    obtain ⟨rfl,_,rfl,rfl,_⟩:=hobj'
    refine ⟨Nat.le_refl _,fun _=>⟨fun h=>(by simp at h),fun _=>⟨by simp,bk,off+j.toNat*t'.size,?_,rfl⟩⟩⟩
    exact place_elem (p:=[]) (x:=(0,0)) rfl (by simp [place]) (by simpa using hsv)
 ·simp at h
theorem field_ok:{u:Ty}→{fs:List Field}→{off0 i:Nat}→FsOK P u fs off0→(tyAt u (fieldPath i)).isSome=true→
  ∃ f s,fs[i]? = some f∧tyAt u (fieldPath i)=some s∧TyOK P s f.type∧∃ o,u.sk.off (fieldPath i)=some (o,s.sk)∧off0+o=f.offset
 | .pair a b,f :: fs,off0,0,h,hi=>by
  simp only [FsOK] at h
  exact ⟨f,a,rfl,by simp [fieldPath,tyAt],h.2.1,0,by simp [fieldPath,Ty.sk,Sk.off],by rw [h.1];omega⟩
 | .pair a b,f :: fs,off0,i+1,h,hi=>by
  simp only [FsOK] at h
  simp only [fieldPath,tyAt] at hi
  obtain ⟨f',s,h1,h2,h3,o,h4,h5⟩:=field_ok h.2.2 hi
  refine ⟨f',s,by simpa using h1,by simpa [fieldPath,tyAt] using h2,h3,a.size+o,?_,by omega⟩
  simp [fieldPath,Ty.sk,Sk.off,h4,Ty.sk_size]
 | .pair _ _,[],_,_,h,_=>by simp [FsOK] at h
 | .unit,_,_,i,_,hi=>by cases i <;> simp [fieldPath,tyAt] at hi
 | .int _,_,_,_,h,_=>by simp [FsOK] at h
 | .bool,_,_,_,h,_=>by simp [FsOK] at h
 | .str,_,_,_,h,_=>by simp [FsOK] at h
 | .arr _ _,_,_,_,h,_=>by simp [FsOK] at h
 | .sl _ _,_,_,_,h,_=>by simp [FsOK] at h
 | .ptr _,_,_,_,h,_=>by simp [FsOK] at h
 | .fn _ _,_,_,_,h,_=>by simp [FsOK] at h
theorem tyAt_pair {u:Ty} {i:Nat} (h:(tyAt u (fieldPath i)).isSome=true):∃ a b,u = .pair a b:=by
 cases u with
 | pair a b=>exact ⟨a,b,rfl⟩
 | _=>cases i <;> simp [fieldPath,tyAt] at h
theorem run_fieldAt {T:TypeId} {u:Ty} {i:Nat} (hT:TyOK P u T) (hi:(tyAt u (fieldPath i)).isSome=true) (b off:Nat) :
  ∃ o s,u.sk.off (fieldPath i)=some (o,s)∧∀ w,(Instr.fieldAt T (.pointer (some ⟨b,off,none⟩)) i).run P w = .ok (.pointer (some ⟨b,off+o,none⟩)) w:=by
 obtain ⟨x,y,rfl⟩:=tyAt_pair hi
 simp only [TyOK] at hT
 obtain ⟨⟨fs,hund,hfs⟩,_⟩:=hT
 obtain ⟨f,s,h1,h2,h3,o,h4,h5⟩:=field_ok hfs hi
 refine ⟨o,s.sk,h4,fun w=>?_⟩
 have hf:fs[i]? = some f:=by rw [←Array.getElem?_toList];exact h1
 obtain ⟨inf,z,hi1,hi2,_,_,_,hi3⟩:=h3.info.info
 have hne:¬ inf.size=0:=by omega
 have ho:f.offset=o:=by omega
 simp [Instr.fieldAt,Instr.sureAddr,run_underlying hund,hf,fieldPlace,Go.sizeOf,typeInfo,hi1,hne,Addr.add_lit,ho]
theorem getK_tyAt:{t:Ty}→{d:t.den}→{p:Path}→{f:(u:Ty)→u.den→Option R}→t.isRo=true→getK t d p f=some r→(tyAt t p).isSome=true
 | t,d,[],f,_,_=>by simp [tyAt]
 | .pair a b,(x,y),.fst :: p,f,ht,h=>by simp only [getK] at h;simp only [Ty.isRo,Bool.and_eq_true] at ht;simp only [tyAt];exact getK_tyAt ht.1 h
 | .pair a b,(x,y),.snd :: p,f,ht,h=>by simp only [getK] at h;simp only [Ty.isRo,Bool.and_eq_true] at ht;simp only [tyAt];exact getK_tyAt ht.2 h
 | .arr n t,l,.idx i :: p,f,ht,h=>by
  simp only [getK,Option.bind_eq_some_iff] at h
  obtain ⟨x,_,h⟩:=h
  simp only [tyAt];exact getK_tyAt (by simpa [Ty.isRo] using ht) h
 | .sl true t,l,.idx i :: p,_,ht,h=>by simp [Ty.isRo] at ht
 | .sl false t,l,s :: p,_,_,h=>by cases s <;> simp [getK] at h
 | .sl true t,l,.fst :: p,_,_,h=>by simp [getK] at h
 | .sl true t,l,.snd :: p,_,_,h=>by simp [getK] at h
 | .int _,_,s :: _,_,_,h=>by cases s <;> simp [getK] at h
 | .bool,_,s :: _,_,_,h=>by cases s <;> simp [getK] at h
 | .str,_,s :: _,_,_,h=>by cases s <;> simp [getK] at h
 | .unit,_,s :: _,_,_,h=>by cases s <;> simp [getK] at h
 | .ptr _,_,s :: _,_,_,h=>by cases s <;> simp [getK] at h
 | .fn _ _,_,s :: _,_,_,h=>by cases s <;> simp [getK] at h
 | .pair _ _,_,.idx _ :: _,_,_,h=>by simp [getK] at h
 | .arr _ _,_,.fst :: _,_,_,h=>by simp [getK] at h
 | .arr _ _,_,.snd :: _,_,_,h=>by simp [getK] at h
theorem tyAt_sk:{t u:Ty}→{p:Path}→t.sk=u.sk→(tyAt t p).isSome=true→(tyAt u p).isSome=true
 | _,_,[],_,_=>by simp [tyAt]
 | .pair a b,.pair c d,.fst :: p,hs,h=>by simp only [Ty.sk,Sk.pair.injEq] at hs;simp only [tyAt] at h ⊢;exact tyAt_sk hs.1 h
 | .pair a b,.pair c d,.snd :: p,hs,h=>by simp only [Ty.sk,Sk.pair.injEq] at hs;simp only [tyAt] at h ⊢;exact tyAt_sk hs.2 h
 | .arr n t,.arr m u,.idx i :: p,hs,h=>by simp only [Ty.sk,Sk.arr.injEq] at hs;simp only [tyAt] at h ⊢;exact tyAt_sk hs.2 h
 | .pair a b,u,.fst :: p,hs,h=>by cases u <;> simp [Ty.sk] at hs;simp only [tyAt] at h ⊢;exact tyAt_sk hs.1 h
 | .pair a b,u,.snd :: p,hs,h=>by cases u <;> simp [Ty.sk] at hs;simp only [tyAt] at h ⊢;exact tyAt_sk hs.2 h
 | .arr n t,u,.idx i :: p,hs,h=>by cases u <;> simp [Ty.sk] at hs;simp only [tyAt] at h ⊢;exact tyAt_sk hs.2 h
 | .int _,_,s :: _,_,h=>by cases s <;> simp [tyAt] at h
 | .bool,_,s :: _,_,h=>by cases s <;> simp [tyAt] at h
 | .str,_,s :: _,_,h=>by cases s <;> simp [tyAt] at h
 | .unit,_,s :: _,_,h=>by cases s <;> simp [tyAt] at h
 | .ptr _,_,s :: _,_,h=>by cases s <;> simp [tyAt] at h
 | .fn _ _,_,s :: _,_,h=>by cases s <;> simp [tyAt] at h
 | .sl _ _,_,s :: _,_,h=>by cases s <;> simp [tyAt] at h
 | .pair _ _,_,.idx _ :: _,_,h=>by simp [tyAt] at h
 | .arr _ _,_,.fst :: _,_,h=>by simp [tyAt] at h
 | .arr _ _,_,.snd :: _,_,h=>by simp [tyAt] at h
theorem efetch_obj {id:Nat} {p:Path} {ep:Nat} {f:(u:Ty)→u.den→Option R} (h:efetchK σ id p ep f=some r):∃ t l,σ.objs id=some (.row t l ep):=by
 unfold efetchK at h
 split at h
 ·rename_i t l e ho
  cases hb:Nat.beq e ep with
  | false=>rw [hb] at h;simp at h
  | true=>exact ⟨t,l,by rw [ho,Nat.eq_of_beq_eq_true hb]⟩
 ·simp at h
theorem place_append {id:Nat}:{t:Ty}→{pre:Path}→{b off:Nat}→{p q:Path}→{b' off' o:Nat}→{s s':Sk}→
  place g id t pre b off p=some (b',off')→tyS t p=some s→s.off q=some (o,s')→place g id t pre b off (p++q)=some (b',off'+o)
 | t,pre,b,off,[],q,b',off',o,s,s',h,hs,hq=>by
  simp only [place,Option.some.injEq,Prod.mk.injEq] at h
  obtain ⟨rfl,rfl⟩:=h
  simp only [tyS,Option.some.injEq] at hs
  subst hs
  exact place_flat hq
 | .pair a c,pre,b,off,.fst :: p,q,b',off',o,s,s',h,hs,hq=>by
  simp only [place,List.cons_append,tyS] at h hs ⊢;exact place_append h hs hq
 | .pair a c,pre,b,off,.snd :: p,q,b',off',o,s,s',h,hs,hq=>by
  simp only [place,List.cons_append,tyS] at h hs ⊢;exact place_append h hs hq
 | .arr n t,pre,b,off,.idx i :: p,q,b',off',o,s,s',h,hs,hq=>by
  simp only [place,List.cons_append,tyS] at h hs ⊢;exact place_append h hs hq
 | .sl true t,pre,b,off,.idx i :: p,q,b',off',o,s,s',h,hs,hq=>by
  simp only [place,List.cons_append,tyS] at h hs ⊢
  split at h
  ·exact place_append h hs hq
  ·simp at h
 | .sl false t,_,_,_,s :: _,_,_,_,_,_,_,h,_,_=>by cases s <;> simp [place] at h
 | .sl true t,_,_,_,.fst :: _,_,_,_,_,_,_,h,_,_=>by simp [place] at h
 | .sl true t,_,_,_,.snd :: _,_,_,_,_,_,_,h,_,_=>by simp [place] at h
 | .int _,_,_,_,s :: _,_,_,_,_,_,_,h,_,_=>by cases s <;> simp [place] at h
 | .bool,_,_,_,s :: _,_,_,_,_,_,_,h,_,_=>by cases s <;> simp [place] at h
 | .str,_,_,_,s :: _,_,_,_,_,_,_,h,_,_=>by cases s <;> simp [place] at h
 | .unit,_,_,_,s :: _,_,_,_,_,_,_,h,_,_=>by cases s <;> simp [place] at h
 | .ptr _,_,_,_,s :: _,_,_,_,_,_,_,h,_,_=>by cases s <;> simp [place] at h
 | .fn _ _,_,_,_,s :: _,_,_,_,_,_,_,h,_,_=>by cases s <;> simp [place] at h
 | .pair _ _,_,_,_,.idx _ :: _,_,_,_,_,_,_,h,_,_=>by simp [place] at h
 | .arr _ _,_,_,_,.fst :: _,_,_,_,_,_,_,h,_,_=>by simp [place] at h
 | .arr _ _,_,_,_,.snd :: _,_,_,_,_,_,_,h,_,_=>by simp [place] at h
end
end Go.Kz
namespace Go.Kz
variable {R:Type}
section
variable {P:Program} {o:Oper} {a:Act} {w:World} {K:Act→World→Prop} {Q:Exit→Act→World→Prop} {c:Ctx} {σ:St} {g:Ghost} {k:St→Option R} {r:R} {base:Nat}
theorem op_index (htt:TtOK P c.tt) {t:TypeId} {x i:Operand} (ho:o.op = .indexAddr t x i) (hst:StOK c.ntmps g w a σ) (h:opK0 c σ base o k=some r):Yield P o a w g σ c k r:=by
 simp only [opK0,ho] at h
 split at h
 ·rename_i av ki j u hx hi hu
  have hT:=htt _ _ hu
  obtain ⟨ex,ef⟩:=ev_ok hst hx
  obtain ⟨vi,_⟩:=VOK_int (ev_ok hst hi).1
  unfold indexK at h
  split at h
  ·-- read-only slice
   rename_i ow t' l ow' u'
   simp only [TyOK] at hT
   obtain ⟨⟨E,hund,hE⟩,_⟩:=hT
   cases hs:t'.sk.same u'.sk with
   | false=>rw [hs] at h;simp at h
   | true=>
    rw [hs] at h
    have hsk:=Sk.same_eq hs
    have hsz:u'.size=t'.size:=by rw [←Ty.sk_size,←Ty.sk_size,hsk]
    simp only [cond_true,Option.bind_eq_some_iff] at h
    obtain ⟨d,hd,h⟩:=h
    obtain ⟨h0,hi',rfl,hlt⟩:=idx_some hd
    simp only [VOK] at ex
    obtain ⟨cs,⟨hro,hrep⟩,hv⟩:=ex
    cases ow with
    | true=>simp [Ty.isRo] at hro
    | false=>
     obtain ⟨b,cp,rfl,h1,h2,h3⟩:=hrep
     obtain ⟨bk,off,cc,e,fz,rfl,htag,hcell,hsz',hel⟩:=h3 (by intro hn;rw [hn] at hi';simp at hi')
     have hv':a.eval x = .slice (some ⟨bk,off,none⟩) (List.length l) cp:=hv
     refine yld (v:=.pointer (some ⟨bk,off+j.toNat*t'.size,none⟩)) ?_ ?_ (fun m _=>by simp [AVal.ids]) h
     ·intro w' _;simp [execOp,ho,hv',vi,run_indexAt_slice hund hE.info bk off _ cp ki j h0 hlt w',hsz]
     ·simp only [VOK]
      refine ⟨_,⟨by simpa [Ty.isRo] using hro,bk,off+j.toNat*t'.size,cc,e,fz,rfl,htag,hcell,?_,hel _ hi'⟩,rfl⟩
      have:(j.toNat+1)*t'.size≤List.length l*t'.size:=Nat.mul_le_mul_right _ hi'
      rw [Nat.add_mul] at this;omega
  ·-- pointer to a read-only array
   rename_i n t' l m u'
   simp only [TyOK] at hT
   obtain ⟨⟨E,hund,hE⟩,_⟩:=hT
   cases hs:(Nat.beq n m && t'.sk.same u'.sk) with
   | false=>rw [hs] at h;simp at h
   | true=>
    rw [hs] at h
    simp only [Bool.and_eq_true] at hs
    have hnm:n=m:=Nat.eq_of_beq_eq_true hs.1
    subst hnm
    have hsk:=Sk.same_eq hs.2
    have hsz:u'.size=t'.size:=by rw [←Ty.sk_size,←Ty.sk_size,hsk]
    simp only [cond_true,Option.bind_eq_some_iff] at h
    obtain ⟨d,hd,h⟩:=h
    rw [idxT_eq] at hd
    obtain ⟨h0,hi',rfl,hlt⟩:=idx_some hd
    simp only [VOK] at ex
    obtain ⟨cs,⟨hro,bk,off,cc,e,fz,rfl,htag,hcell,hsz',hl,hcl,hel⟩,hv⟩:=ex
    have hv':a.eval x = .pointer (some ⟨bk,off,none⟩):=hv
    have hjn:j.toNat < n:=by rw [←hl];exact hi'
    have hmul:(j.toNat+1)*t'.size≤n*t'.size:=Nat.mul_le_mul_right _ hjn
    rw [Nat.add_mul] at hmul
    simp only [Ty.size] at hsz'
    refine yld (v:=.pointer (some ⟨bk,off+j.toNat*t'.size,none⟩)) ?_ ?_ (fun m _=>by simp [AVal.ids]) h
    ·intro w' _;simp [execOp,ho,hv',vi,run_indexAt_arr hund hE.info bk off ki j h0 (by omega) w',hsz]
    ·simp only [VOK]
     refine ⟨_,⟨by simpa [Ty.isRo] using hro,bk,off+j.toNat*t'.size,cc,e,fz,rfl,htag,hcell,by omega,?_⟩,rfl⟩
     have:=hel _ hi'
     simp only [Ty.size] at this
     rw [seg_seg _ _ _ _ _ (by omega)] at this
     exact this
  ·-- a row of one's own
   rename_i id p ep ow' u'
   simp only [TyOK] at hT
   obtain ⟨⟨E,hund,hE⟩,_⟩:=hT
   obtain ⟨t',l,hobj,rfl,hro,h⟩:=fetch_ok hst.heap h
   cases hs:t'.sk.same u'.sk with
   | false=>rw [hs] at h;simp at h
   | true=>
    rw [hs] at h
    have hsk:=Sk.same_eq hs
    have hsz:u'.size=t'.size:=by rw [←Ty.sk_size,←Ty.sk_size,hsk]
    simp only [cond_true] at h
    obtain ⟨hin,h⟩:=chk_some h
    obtain ⟨h0,hlt⟩:=inb_iff hin
    simp only [VOK] at ex
    obtain ⟨cs,⟨v,rfl,hone,hv⟩,hv'⟩:=ex
    have e1:=(hv _ _ _ hobj).2 rfl
    obtain ⟨ad,cp,_,hsv,h1,h2,h3⟩:=(hst.heap.objs _ _ hobj).2
    rcases h3 with ⟨_,hl,_⟩ | ⟨bk,off,cc,e,rfl,htag,hcell,hsz',hel⟩
    ·rw [hl] at hlt;simp at hlt;omega
    ·have hv2:a.eval x = .slice (some ⟨bk,off,none⟩) l.length cp:=by rw [←hsv,←e1];exact hv'
     refine yld (v:=.pointer (some ⟨bk,off+j.toNat*t'.size,none⟩)) ?_ ?_ (fun m hm=>by have:=ef m hm;simpa [AVal.ids] using this) h
     ·intro w' _;simp [execOp,ho,hv2,vi,run_indexAt_slice hund hE.info bk off _ cp ki j h0 hlt w',hsz]
     ·simp only [VOK]
      refine ⟨_,⟨_,rfl,rfl,fun t1 l1 e1 hobj'=>?_⟩,rfl⟩
      rw [hobj] at hobj'
      simp only [Option.some.injEq,Obj.row.injEq] at hobj'
      obtain ⟨rfl,hl1,rfl⟩:=hobj'
      refine ⟨Nat.le_refl _,fun _=>⟨by simp,bk,off+j.toNat*t'.size,?_,rfl⟩⟩
      simp [place,hsv]
  ·-- a part of a row of one's own
   rename_i id p ep av bv ow' u'
   simp only [TyOK] at hT
   obtain ⟨⟨E,hund,hE⟩,_⟩:=hT
   obtain ⟨t',l,hobj,rfl,hro,h⟩:=fetch_ok hst.heap h
   cases hs:t'.sk.same u'.sk with
   | false=>rw [hs] at h;simp at h
   | true=>
    rw [hs] at h
    have hsk:=Sk.same_eq hs
    have hsz:u'.size=t'.size:=by rw [←Ty.sk_size,←Ty.sk_size,hsk]
    simp only [cond_true] at h
    obtain ⟨hin,h⟩:=chk_some h
    simp only [Bool.and_eq_true,decide_eq_true_eq] at hin
    obtain ⟨h0,hlt⟩:=hin
    simp only [VOK] at ex
    obtain ⟨cs,⟨v,rfl,hone,hv⟩,hv'⟩:=ex
    obtain ⟨_,ha0,hab,hbl,e1⟩:=(hv _ _ _ hobj).2 rfl
    obtain ⟨ad,cp,_,hsv,h1,h2,h3⟩:=(hst.heap.objs _ _ hobj).2
    rcases h3 with ⟨_,hl,_⟩ | ⟨bk,off,cc,e,rfl,htag,hcell,hsz',hel⟩
    ·rw [hl] at hbl;simp at hbl;omega
    ·have hv2:a.eval x = .slice (some ⟨bk,off+av.toNat*t'.size,none⟩) (bv-av).toNat (cp-av.toNat):=by
      rw [hv'];show v=_
      rw [e1,hsv]
      simp only [subSlice]
      rw [if_neg (by omega)]
      simp [Addr.add_lit]
     refine yld (v:=.pointer (some ⟨bk,off+(av+j).toNat*t'.size,none⟩)) ?_ ?_ (fun m hm=>by have:=ef m hm;simpa [AVal.ids] using this) h
     ·intro w' _
      have hj3':∀ x:Int,x < bv-av→x < (((bv-av).toNat:Nat):Int):=fun x hx=>by omega
      have hj3:=hj3' j hlt
      have e3:off+av.toNat*t'.size+j.toNat*t'.size=off+(av+j).toNat*t'.size:=by
       have:(av+j).toNat=av.toNat+j.toNat:=by omega
       rw [this,Nat.add_mul];omega
      simp [execOp,ho,hv2,vi,run_indexAt_slice hund hE.info bk _ _ (cp-av.toNat) ki j h0 hj3 w',hsz,e3]
     ·simp only [VOK]
      refine ⟨_,⟨_,rfl,rfl,fun t1 l1 e1 hobj'=>?_⟩,rfl⟩
      rw [hobj] at hobj'
      simp only [Option.some.injEq,Obj.row.injEq] at hobj'
      obtain ⟨rfl,hl1,rfl⟩:=hobj'
      refine ⟨Nat.le_refl _,fun _=>⟨by simp,bk,off+(av+j).toNat*t'.size,?_,rfl⟩⟩
      simp [place,hsv]
  ·-- a row of rows,or one of its rows: see below
   rename_i id p ep ow' u'
   cases hb:(noP p && holed σ id) with
   | false=>rw [hb] at h;exact op_index_nest hT ho hst hx vi ef ex h
   | true=>
    rw [hb] at h
    simp only [Bool.and_eq_true] at hb
    cases p with
    | nil=>exact op_index_hole hT ho hst vi ef ex h
    | cons s p=>simp [noP] at hb
  ·-- an array that is a variable
   rename_i id p m u'
   simp only [TyOK] at hT
   obtain ⟨⟨E,hund,hE⟩,_⟩:=hT
   obtain ⟨xc,x',off,cc,e,hobj,h2,hoff,hcell,htag,hle,hall,hpart,hidsx⟩:=bfetch_ok hst.heap h
   split at h2
   ·rename_i n t' l
    cases hs:(Nat.beq n m && t'.sk.same u'.sk) with
    | false=>rw [hs] at h2;simp at h2
    | true=>
     rw [hs] at h2
     simp only [Bool.and_eq_true] at hs
     have hnm:n=m:=Nat.eq_of_beq_eq_true hs.1
     subst hnm
     have hsk:=Sk.same_eq hs.2
     have hsz:u'.size=t'.size:=by rw [←Ty.sk_size,←Ty.sk_size,hsk]
     simp only [cond_true] at h2
     obtain ⟨hin,h2⟩:=chk_some h2
     obtain ⟨h0,hlt⟩:=inb_iff hin
     have hln:List.length l=n:=hpart.2.1
     simp only [VOK] at ex
     obtain ⟨cs,⟨v,rfl,hone,hv⟩,hv'⟩:=ex
     obtain ⟨off',s,hoff',hvv⟩:=hv _ hobj
     rw [hoff] at hoff'
     simp only [Option.some.injEq,Prod.mk.injEq] at hoff'
     obtain ⟨rfl,_⟩:=hoff'
     have hv2:a.eval x = .pointer (some ⟨g.blk id,off,none⟩):=by rw [hv'];exact hvv
     refine yld (v:=.pointer (some ⟨g.blk id,off+j.toNat*t'.size,none⟩)) ?_ ?_ (fun m hm=>by have:=ef m hm;simpa [AVal.ids] using this) h2
     ·intro w' _;simp [execOp,ho,hv2,vi,run_indexAt_arr hund hE.info (g.blk id) off ki j h0 (by omega) w',hsz]
     ·simp only [VOK]
      refine ⟨_,⟨_,rfl,rfl,fun x1 hobj'=>?_⟩,rfl⟩
      rw [hobj] at hobj'
      simp only [Option.some.injEq,Obj.cell.injEq] at hobj'
      subst hobj'
      rw [Sk.off_append _ hoff]
      simp only [AVal.sk,Ty.sk,Sk.off]
      rw [if_pos ⟨h0,by omega⟩]
      exact ⟨_,_,rfl,by simp [Ty.sk_size]⟩
   ·simp at h2
  ·-- an array that is an element of a row
   rename_i id p ep m u'
   simp only [TyOK] at hT
   obtain ⟨⟨E,hund,hE⟩,_⟩:=hT
   split at h
   ·simp at h
   ·rename_i s q
    obtain ⟨t0,l0,ho0⟩:=efetch_obj h
    simp only [VOK] at ex
    obtain ⟨cs,⟨v,rfl,hone,hv⟩,hv'⟩:=ex
    obtain ⟨hp,b0,off0,hpl,hvv⟩:=(hv _ _ _ ho0).2 rfl
    obtain ⟨t1,l1,u1,e1,b,off,cc,ee,ho1,hro,hk,hu1,hpl2,hty,htag,hcell,hsz,hrep⟩:=efetch_ok hst.heap hp h
    rw [ho0] at ho1
    simp only [Option.some.injEq,Obj.row.injEq] at ho1
    obtain ⟨rfl,_,_⟩:=ho1
    rw [hpl] at hpl2
    simp only [Option.some.injEq,Prod.mk.injEq] at hpl2
    obtain ⟨rfl,rfl⟩:=hpl2
    split at hk
    ·rename_i n t' l
     cases hs:(Nat.beq n m && t'.sk.same u'.sk) with
     | false=>rw [hs] at hk;simp at hk
     | true=>
      rw [hs] at hk
      simp only [Bool.and_eq_true] at hs
      have hnm:n=m:=Nat.eq_of_beq_eq_true hs.1
      subst hnm
      have hsk:=Sk.same_eq hs.2
      have hsz2:u'.size=t'.size:=by rw [←Ty.sk_size,←Ty.sk_size,hsk]
      simp only [cond_true] at hk
      obtain ⟨hin,hk⟩:=chk_some hk
      obtain ⟨h0,hlt⟩:=inb_iff hin
      have hln:List.length l=n:=hrep.1
      have hv2:a.eval x = .pointer (some ⟨b0,off0,none⟩):=by rw [hv'];exact hvv
      refine yld (v:=.pointer (some ⟨b0,off0+j.toNat*t'.size,none⟩)) ?_ ?_ (fun m hm=>by have:=ef m hm;simpa [AVal.ids] using this) hk
      ·intro w' _;simp [execOp,ho,hv2,vi,run_indexAt_arr hund hE.info b0 off0 ki j h0 (by omega) w',hsz2]
      ·simp only [VOK]
       refine ⟨_,⟨_,rfl,rfl,fun t2 l2 e2 hobj'=>?_⟩,rfl⟩
       rw [ho0] at hobj'
       simp only [Option.some.injEq,Obj.row.injEq] at hobj'
       obtain ⟨rfl,_,rfl⟩:=hobj'
       refine ⟨Nat.le_refl _,fun _=>⟨by simp,b0,off0+j.toNat*t'.size,?_,rfl⟩⟩
       refine place_append (s':=t'.sk) hpl hty ?_
       simp only [Ty.sk,Sk.off]
       rw [if_pos ⟨h0,by omega⟩]
       simp [Ty.sk_size]
    ·simp at hk
  ·simp at h
 ·simp at h
theorem op_field (htt:TtOK P c.tt) {t:TypeId} {x:Operand} {i:Nat} (ho:o.op = .fieldAddr t x i) (hst:StOK c.ntmps g w a σ) (h:opK0 c σ base o k=some r):Yield P o a w g σ c k r:=by
 simp only [opK0,ho] at h
 split at h
 ·rename_i av u hx hu
  have hT:=htt _ _ hu
  obtain ⟨ex,ef⟩:=ev_ok hst hx
  unfold fieldK at h
  split at h
  ·rename_i t' d
   cases hs:t'.sk.same u.sk with
   | false=>rw [hs] at h;simp at h
   | true=>
    rw [hs] at h
    simp only [cond_true] at h
    have hsk:=Sk.same_eq hs
    simp only [VOK] at ex
    obtain ⟨cs,⟨hro,b,off,cc,e,fz,rfl,htag,hcell,hsz,hrep⟩,hv⟩:=ex
    have hv':a.eval x = .pointer (some ⟨b,off,none⟩):=hv
    have hro':t'.isRo=true:=by simpa [Ty.isRo] using hro
    have hty:=tyAt_sk hsk (getK_tyAt hro' h)
    obtain ⟨u2,e2,o2,hk,hu2,ho2,hr2⟩:=getK_rep hro' hrep h
    obtain ⟨o3,s3,ho3,hrun⟩:=run_fieldAt hT hty b off
    rw [←hsk,ho2] at ho3
    simp only [Option.some.injEq,Prod.mk.injEq] at ho3
    obtain ⟨rfl,_⟩:=ho3
    have hle:=Sk.off_le ho2
    rw [Ty.sk_size,Ty.sk_size] at hle
    refine yld (v:=.pointer (some ⟨b,off+o2,none⟩)) ?_ ?_ (fun m _=>by simp [AVal.ids]) hk
    ·intro w' _;simp [execOp,ho,hv',hrun]
    ·simp only [VOK]
     refine ⟨_,⟨by simpa [Ty.isRo] using hu2,b,off+o2,cc,e,fz,rfl,htag,hcell,by omega,?_⟩,rfl⟩
     rw [seg_seg _ _ _ _ _ hle] at hr2
     exact hr2
  ·rename_i id p
   obtain ⟨xc,x',off,cc,e,hobj,h2,hoff,hcell,htag,hle,hall,hpart,hidsx⟩:=bfetch_ok hst.heap h
   cases hs:(x'.sk.same u.sk && (tyAt u (fieldPath i)).isSome) with
   | false=>rw [hs] at h2;simp at h2
   | true=>
    rw [hs] at h2
    simp only [cond_true] at h2
    simp only [Bool.and_eq_true] at hs
    have hsk:=Sk.same_eq hs.1
    simp only [VOK] at ex
    obtain ⟨cs,⟨v,rfl,hone,hv⟩,hv'⟩:=ex
    obtain ⟨off',s,hoff',hvv⟩:=hv _ hobj
    rw [hoff] at hoff'
    simp only [Option.some.injEq,Prod.mk.injEq] at hoff'
    obtain ⟨rfl,_⟩:=hoff'
    have hv2:a.eval x = .pointer (some ⟨g.blk id,off,none⟩):=by rw [hv'];exact hvv
    obtain ⟨o3,s3,ho3,hrun⟩:=run_fieldAt hT hs.2 (g.blk id) off
    refine yld (v:=.pointer (some ⟨g.blk id,off+o3,none⟩)) ?_ ?_ (fun m hm=>by have:=ef m hm;simpa [AVal.ids] using this) h2
    ·intro w' _;simp [execOp,ho,hv2,hrun]
    ·simp only [VOK]
     refine ⟨_,⟨_,rfl,rfl,fun x1 hobj'=>?_⟩,rfl⟩
     rw [hobj] at hobj'
     simp only [Option.some.injEq,Obj.cell.injEq] at hobj'
     subst hobj'
     rw [Sk.off_append _ hoff,hsk,ho3]
     exact ⟨_,_,rfl,rfl⟩
  ·rename_i id p ep
   split at h
   ·simp at h
   ·rename_i s q
    obtain ⟨t0,l0,ho0⟩:=efetch_obj h
    simp only [VOK] at ex
    obtain ⟨cs,⟨v,rfl,hone,hv⟩,hv'⟩:=ex
    obtain ⟨hp,b0,off0,hpl,hvv⟩:=(hv _ _ _ ho0).2 rfl
    obtain ⟨t1,l1,u1,e1,b,off,cc,ee,ho1,hro,hk,hu1,hpl2,hty,htag,hcell,hsz,hrep⟩:=efetch_ok hst.heap hp h
    rw [ho0] at ho1
    simp only [Option.some.injEq,Obj.row.injEq] at ho1
    obtain ⟨rfl,_,_⟩:=ho1
    rw [hpl] at hpl2
    simp only [Option.some.injEq,Prod.mk.injEq] at hpl2
    obtain ⟨rfl,rfl⟩:=hpl2
    cases hs:(u1.sk.same u.sk && (tyAt u (fieldPath i)).isSome) with
    | false=>rw [hs] at hk;simp at hk
    | true=>
     rw [hs] at hk
     simp only [cond_true] at hk
     simp only [Bool.and_eq_true] at hs
     have hsk:=Sk.same_eq hs.1
     have hv2:a.eval x = .pointer (some ⟨b0,off0,none⟩):=by rw [hv'];exact hvv
     obtain ⟨o3,s3,ho3,hrun⟩:=run_fieldAt hT hs.2 b0 off0
     refine yld (v:=.pointer (some ⟨b0,off0+o3,none⟩)) ?_ ?_ (fun m hm=>by have:=ef m hm;simpa [AVal.ids] using this) hk
     ·intro w' _;simp [execOp,ho,hv2,hrun]
     ·simp only [VOK]
      refine ⟨_,⟨_,rfl,rfl,fun t2 l2 e2 hobj'=>?_⟩,rfl⟩
      rw [ho0] at hobj'
      simp only [Option.some.injEq,Obj.row.injEq] at hobj'
      obtain ⟨rfl,_,rfl⟩:=hobj'
      refine ⟨Nat.le_refl _,fun _=>⟨by simp,b0,off0+o3,?_,rfl⟩⟩
      exact place_append hpl hty (by rw [hsk];exact ho3)
  ·-- an element of a row of rows
   rename_i id p ep
   obtain ⟨t1,l1,e1,i1,hobj,hep,hrep,hk⟩:=nfetch_ok hst.heap h
   simp only [VOK] at ex
   obtain ⟨cs,⟨v,rfl,hone,hv⟩,hv'⟩:=ex
   obtain ⟨hp,b0,off0,hpl,hvv⟩:=((hv _ _ _ _ _ hobj).2 hep).2 rfl
   cases p with
   | nil=>exact absurd rfl hp
   | cons s q=>
    obtain ⟨u1,x1,bh,oh,ch,eh,ph,hk,hpl2,hty,_,htag,hcell,hsz,hr⟩:=nest_get hrep hk
    cases hs:(u1.sk.same u.sk && (tyAt u (fieldPath i)).isSome) with
    | false=>rw [hs] at hk;simp at hk
    | true=>
     rw [hs] at hk
     simp only [cond_true] at hk
     simp only [Bool.and_eq_true] at hs
     have hsk:=Sk.same_eq hs.1
     have hv2:a.eval x = .pointer (some ⟨b0,off0,none⟩):=by rw [hv'];exact hvv
     obtain ⟨o3,s3,ho3,hrun⟩:=run_fieldAt hT hs.2 b0 off0
     refine yld (v:=.pointer (some ⟨b0,off0+o3,none⟩)) ?_ ?_ (fun m hm=>by have:=ef m hm;simpa [AVal.ids] using this) hk
     ·intro w' _;simp [execOp,ho,hv2,hrun]
     ·simp only [VOK]
      refine ⟨_,⟨_,rfl,rfl,fun t2 l2 e2 i2 h2 hobj'=>?_⟩,rfl⟩
      rw [hobj] at hobj'
      simp only [Option.some.injEq,Obj.nest.injEq] at hobj'
      obtain ⟨rfl,_,rfl,rfl,_⟩:=hobj'
      have hi1:i1=ep:=hep
      refine ⟨Nat.le_of_eq hi1.symm,fun _=>⟨fun h=>(by simp at h),fun _=>⟨by simp,b0,off0+o3,?_,rfl⟩⟩⟩
      exact place_append hpl hty (by rw [hsk];exact ho3)
  ·simp at h
 ·simp at h
theorem run_isAgg {T:TypeId} {u:Ty} (hT:TyOK P u T) (w:World):(isAgg T).run P w = .ok u.sk.isAgg w:=by
 unfold isAgg
 rw [Sem.run_bind]
 cases u with
 | int _=>simp only [TyOK] at hT;rw [run_underlying hT.1];rfl
 | bool=>simp only [TyOK] at hT;rw [run_underlying hT.1];rfl
 | str=>simp only [TyOK] at hT;rw [run_underlying hT.1];rfl
 | unit=>simp only [TyOK] at hT
 | pair x y=>simp only [TyOK] at hT;obtain ⟨⟨fs,h,_⟩,_⟩:=hT;rw [run_underlying h];rfl
 | arr n t=>simp only [TyOK] at hT;obtain ⟨⟨E,h,_⟩,_⟩:=hT;rw [run_underlying h];rfl
 | sl _ t=>simp only [TyOK] at hT;obtain ⟨⟨E,h,_⟩,_⟩:=hT;rw [run_underlying h];rfl
 | ptr _=>simp only [TyOK] at hT;obtain ⟨⟨E,h⟩,_⟩:=hT;rw [run_underlying h];rfl
 | fn _ _=>simp only [TyOK] at hT;obtain ⟨⟨x,y,z,h⟩,_⟩:=hT;rw [run_underlying h];rfl
theorem TyOK.size1 {T:TypeId} {u:Ty} (hT:TyOK P u T) (h:u.sk.isAgg=false):u.size=1:=by
 cases u <;> simp [Ty.sk,Sk.isAgg] at h <;> simp [Ty.size]
theorem run_loadVar {T:TypeId} {u:Ty} (hT:TyOK P u T) {b off:Nat} {cc:Array Value} {e:TypeId} {fz:Nat×Nat} (hc:w.heap[b]? = some (.cells cc e fz)) (hs:off+u.size≤cc.size) :
  (loadVar T ⟨b,off,none⟩).run P w = .ok (mkV u.sk.isAgg (seg cc.toList off u.size)) w:=by
 have hag:=run_isAgg hT w
 have hlen:(seg cc.toList off u.size).length=u.size:=seg_length (by rw [Array.length_toList];exact hs)
 unfold loadVar
 rw [Sem.run_bind,hag]
 cases hu:u.sk.isAgg with
 | true=>
  have hl:=run_loadCells_list (P:=P) w ⟨b,off,none⟩ (seg cc.toList off u.size) (fun j v hv=>by
   rw [Addr.add_lit,cell_of_row w b (off+j) cc e fz hc]
   simp only [seg,List.getElem?_take,List.getElem?_drop] at hv
   split at hv
   ·simpa using hv
   ·simp at hv)
  rw [hlen] at hl
  have hsz:=hT.info.sizeOf w
  simp [hl,hsz,mkV]
 | false=>
  have h1:=hT.size1 hu
  rw [h1] at hs
  have hcell:w.cell? ⟨b,off,none⟩=some cc[off]:=by
   rw [cell_of_row w b off cc e fz hc];simp [show off < cc.size by omega]
  have hseg:seg cc.toList off u.size=[cc[off]]:=by
   rw [h1]
   simp only [seg]
   rw [List.drop_eq_getElem_cons (by rw [Array.length_toList];omega)]
   simp
  simp [load,Sem.run,hcell,hseg,mkV]
theorem val_isAgg {av:AVal} (h:av.val=true):av.isAgg=av.sk.isAgg∧(∀ x y,av≠.pr x y)∧av≠.un∧∀ x,av≠.tup x:=by
 cases av with
 | agg x=>cases x <;> simp [AVal.val] at h <;> simp [AVal.isAgg,AVal.sk,Sk.isAgg]
 | data t d=>simp [AVal.isAgg,AVal.sk]
 | pr=>simp [AVal.val] at h
 | un=>simp [AVal.val] at h
 | tup=>simp [AVal.val] at h
 | _=>simp [AVal.isAgg,AVal.sk,Sk.isAgg]
theorem loadK_ok {n:Nat} {av:AVal} {xv:Value} {f:AVal→Option R} (hst:StOK n g w a σ) (ex:VOK w g σ.objs av xv) (ef:∀ m,Fresh g σ m→m∉av.ids) (h:loadK σ av f=some r) :
  ∃ lv b off cc e fz,xv = .pointer (some ⟨b,off,none⟩)∧w.heap[b]? = some (.cells cc e fz)∧off+lv.sk.size≤cc.size∧
   AOK w g σ.objs lv (seg cc.toList off lv.sk.size)∧(∀ m,Fresh g σ m→m∉lv.ids)∧f lv=some r:=by
 unfold loadK at h
 split at h
 ·rename_i t' d
  simp only [VOK] at ex
  obtain ⟨cs,⟨hro,b,off,cc,e,fz,rfl,htag,hcell,hsz,hrep⟩,hv⟩:=ex
  exact ⟨.data t' d,b,off,cc,e,fz,hv,hcell,by simpa [AVal.sk,Ty.sk_size] using hsz,⟨by simpa [Ty.isRo] using hro,by simpa [AVal.sk,Ty.sk_size] using hrep⟩,fun m _=>by simp [AVal.ids],h⟩
 ·rename_i id p ep
  split at h
  ·simp at h
  ·rename_i s q
   obtain ⟨t0,l0,ho0⟩:=efetch_obj h
   simp only [VOK] at ex
   obtain ⟨cs,⟨v,rfl,hone,hv⟩,hv'⟩:=ex
   obtain ⟨hp,b0,off0,hpl,hvv⟩:=(hv _ _ _ ho0).2 rfl
   obtain ⟨t1,l1,u1,e1,b,off,cc,ee,ho1,hro,hk,hu1,hpl2,hty,htag,hcell,hsz,hrep⟩:=efetch_ok hst.heap hp h
   rw [ho0] at ho1
   simp only [Option.some.injEq,Obj.row.injEq] at ho1
   obtain ⟨rfl,_,_⟩:=ho1
   rw [hpl] at hpl2
   simp only [Option.some.injEq,Prod.mk.injEq] at hpl2
   obtain ⟨rfl,rfl⟩:=hpl2
   exact ⟨.data u1 e1,b0,off0,cc,ee,(0,0),by rw [hv'];exact hvv,hcell,by simpa [AVal.sk,Ty.sk_size] using hsz,⟨hu1,by simpa [AVal.sk,Ty.sk_size] using hrep⟩,fun m _=>by simp [AVal.ids],hk⟩
 ·rename_i id p
  obtain ⟨xc,y,off,cc,e,hobj,h2,hoff,hcell,htag,hle,hall,hpart,hi⟩:=bfetch_ok hst.heap h
  simp only [VOK] at ex
  obtain ⟨cs,⟨v,rfl,hone,hv⟩,hv'⟩:=ex
  obtain ⟨off',s,hoff',hvv⟩:=hv _ hobj
  rw [hoff] at hoff'
  simp only [Option.some.injEq,Prod.mk.injEq] at hoff'
  obtain ⟨rfl,_⟩:=hoff'
  exact ⟨y,g.blk id,off,cc,e,(0,0),by rw [hv'];exact hvv,hcell,hle,hpart,fun m hm=>hi m (hm.cells _ _ hobj),h2⟩
 ·rename_i id p ep
  obtain ⟨t1,l1,e1,i1,hobj,hep,hrep,hk⟩:=nfetch_ok hst.heap h
  simp only [VOK] at ex
  obtain ⟨cs,⟨v,rfl,hone,hv⟩,hv'⟩:=ex
  obtain ⟨hp,b0,off0,hpl,hvv⟩:=((hv _ _ _ _ _ hobj).2 hep).2 rfl
  cases p with
  | nil=>exact absurd rfl hp
  | cons s q=>
   obtain ⟨u1,x1,bh,oh,ch,eh,ph,hk,hpl2,hty,_,htag,hcell,hsz,hr⟩:=nest_get hrep hk
   rw [hpl] at hpl2
   simp only [Option.some.injEq,Prod.mk.injEq] at hpl2
   obtain ⟨rfl,rfl⟩:=hpl2
   cases hro:u1.isRo with
   | true=>
    rw [hro] at hk
    exact ⟨.data u1 x1,b0,off0,ch,eh,(0,0),by rw [hv'];exact hvv,hcell,by simpa [AVal.sk,Ty.sk_size] using hsz,⟨hro,by simpa [AVal.sk,Ty.sk_size] using Rep.anyOwn (o':=none) hro hr⟩,fun m _=>by simp [AVal.ids],hk⟩
   | false=>
    rw [hro] at hk
    simp only [cond_false] at hk
    split at hk
    ·rename_i v1
     obtain ⟨ad,cp,hcs,hsv,_⟩:=hr
     refine ⟨.nv false id (s :: q) ep,b0,off0,ch,eh,(0,0),by rw [hv'];exact hvv,hcell,hsz,⟨_,hcs,rfl,fun t2 l2 e2 i2 h2 hobj'=>?_⟩,fun m hm=>by have:=ef m hm;simpa [AVal.ids] using this,hk⟩
     rw [hobj] at hobj'
     simp only [Option.some.injEq,Obj.nest.injEq] at hobj'
     obtain ⟨rfl,_,rfl,rfl,_⟩:=hobj'
     have hi1:i1=ep:=hep
     exact ⟨Nat.le_of_eq hi1.symm,fun _=>⟨fun _=>hsv.symm,fun h=>(by simp at h)⟩⟩
    ·simp at hk
 ·simp at h
theorem op_load (htt:TtOK P c.tt) {t:TypeId} {x:Operand} (ho:o.op = .load t x) (hst:StOK c.ntmps g w a σ) (h:opK0 c σ base o k=some r):Yield P o a w g σ c k r:=by
 simp only [opK0,ho] at h
 split at h
 ·rename_i av u hx hu
  have hT:=htt _ _ hu
  obtain ⟨ex,ef⟩:=ev_ok hst hx
  have key:=loadK_ok hst ex ef h
  obtain ⟨lv,b,off,cc,e,fz,hv,hcell,hle,hok,hfr,hput⟩:=key
  cases hb:(lv.val && u.sk.same lv.sk) with
  | false=>rw [hb] at hput;simp at hput
  | true=>
   rw [hb] at hput
   simp only [cond_true] at hput
   simp only [Bool.and_eq_true] at hb
   have hsk:=Sk.same_eq hb.2
   obtain ⟨hag,hn1,hn2,hn3⟩:=val_isAgg hb.1
   have hsz:u.size=lv.sk.size:=by rw [←hsk,Ty.sk_size]
   refine yld (v:=mkV u.sk.isAgg (seg cc.toList off u.size)) ?_ ?_ hfr hput
   ·intro w' hw'
    replace hw':=hw' (by simp [isP,ho])
    have hrun:=run_loadVar (P:=P) (w:=w') hT ((hw' b (Array.getElem?_eq_some_iff.1 hcell).1).trans hcell) (by rw [hsz];exact hle)
    simp [execOp,ho,hv,Instr.loadAt,Instr.sureAddr,hrun]
   ·refine VOK_of_cells hok ?_ hn1 hn2
    rw [hag,←hsk,hsz,hsk]
 ·simp at h
end
end Go.Kz
namespace Go.Kz
variable {R:Type}
structure Shrunk (g:Ghost) (objs0:Objs) (g':Ghost) (objs':Objs):Prop where
 sv:g'.sv=g.sv
 blk:g'.blk=g.blk
 objs:∀ i,objs' i=objs0 i∨objs' i=none
 tag:∀ b,g'.tag b=g.tag b∨(g'.tag b = .ro∧∃ id,objs0 id≠none∧objs' id=none∧((∃ p,g.tag b = .row id p)∨g.tag b = .box id))
theorem Shrunk.refl (g:Ghost) (objs:Objs):Shrunk g objs g objs:=⟨rfl,rfl,fun _=>.inl rfl,fun _=>.inl rfl⟩
theorem Shrunk.trans {g g' g'':Ghost} {o o' o'':Objs} (h:Shrunk g o g' o') (k:Shrunk g' o' g'' o''):Shrunk g o g'' o'':=by
 refine ⟨k.sv.trans h.sv,k.blk.trans h.blk,fun i=>?_,fun b=>?_⟩
 ·rcases k.objs i with e | e
  ·rw [e];exact h.objs i
  ·exact .inr e
 ·rcases k.tag b with e | ⟨e,id,hs,hn,ht⟩
  ·rcases h.tag b with e2 | ⟨e2,id,hs,hn,ht⟩
   ·exact .inl (e.trans e2)
   ·refine .inr ⟨e.trans e2,id,hs,?_,ht⟩
    rcases k.objs id with e3 | e3
    ·rw [e3];exact hn
    ·exact e3
  ·rcases h.tag b with e2 | ⟨e2,_,_,_,_⟩
   ·rw [e2] at ht
    refine .inr ⟨e,id,fun h0=>?_,hn,ht⟩
    rcases h.objs id with e3 | e3
    ·rw [e3] at hs;exact hs h0
    ·exact hs e3
   ·rw [e2] at ht;rcases ht with ⟨p,ht⟩ | ht <;> simp at ht
theorem Shrunk.ro {g g':Ghost} {o o':Objs} (h:Shrunk g o g' o') (w:World):RoKept w g w g':=
 ⟨fun b hb=>⟨(h.tag b).elim (fun e=>by rw [e,hb]) (fun e=>e.1),rfl⟩⟩
theorem Shrunk.same {g g':Ghost} {o o':Objs} (h:Shrunk g o g' o') (w:World) {id:Nat} (hid:o' id≠none):Same w g w g' id:=by
 refine ⟨⟨fun q=>by rw [h.sv],fun q b hb=>⟨?_,rfl⟩⟩,by rw [h.blk],fun hb=>⟨?_,rfl⟩⟩
 ·rcases h.tag b with e | ⟨_,id',_,hn,ht⟩
  ·rw [e,hb]
  ·rw [hb] at ht
   rcases ht with ⟨p,ht⟩ | ht
   ·simp only [Tag.row.injEq] at ht
    rw [←ht.1] at hn;exact absurd hn hid
   ·simp at ht
 ·rcases h.tag (g.blk id) with e | ⟨_,id',_,hn,ht⟩
  ·rw [e,hb]
  ·rw [hb] at ht
   rcases ht with ⟨p,ht⟩ | ht
   ·simp at ht
   ·simp only [Tag.box.injEq] at ht
    rw [←ht] at hn;exact absurd hn hid
theorem Shrunk.kept {w:World} {g g':Ghost} {o o':Objs} (h:Shrunk g o g' o') (hh:HeapOK w g o) (id:Nat):IdKept g g' id (o id) (o' id):=by
 rcases h.objs id with e | e
 ·rw [e]
  by_cases hn:o' id=none
  ·left;rw [←e];exact hn
  ·exact IdKept.same (h.same w hn)
 ·exact .inl e
theorem Shrunk.heap {w:World} {g g':Ghost} {o o':Objs} (h:Shrunk g o g' o') (hh:HeapOK w g o):HeapOK w g' o':=by
 refine ⟨fun id x hx=>?_,fun b hb=>?_⟩
 ·have hid:o' id≠none:=by rw [hx];simp
  have hx':o id=some x:=by
   rcases h.objs id with e | e
   ·rw [←e];exact hx
   ·exact absurd e hid
  exact ObjOK.frame (h.ro w) (h.same w hid) (fun a ha id' _=>h.kept hh id') (hh.objs id x hx')
 ·refine hh.tags b ?_
  rcases h.tag b with e | ⟨_,id',_,_,ht⟩
  ·rw [←e];exact hb
  ·rcases ht with ⟨p,ht⟩ | ht <;> rw [ht] <;> simp
theorem Shrunk.ext {w:World} {g g':Ghost} {o o':Objs} (h:Shrunk g o g' o'):Ext w g w g':=by
 refine ⟨rfl,rfl,rfl,Nat.le_refl _,Nat.le_refl _,fun b _ ht=>⟨rfl,?_⟩⟩
 rcases h.tag b with e | ⟨_,id',_,_,h2⟩
 ·exact e
 ·rcases h2 with ⟨p,h2⟩ | h2 <;> rw [h2] at ht <;> simp at ht
theorem Shrunk.fresh {g g':Ghost} {σ σ':St} {m:Nat} (h:Shrunk g σ.objs g' σ'.objs) (hs:σ'.slots=σ.slots) (hf:Fresh g σ m):Fresh g' σ' m:=by
 refine ⟨?_,fun b p hb=>?_,fun b hb=>?_,fun i av hi=>hf.slots i av (by rw [←hs];exact hi),fun id av hi=>hf.cells id av ?_⟩
 ·rcases h.objs m with e | e
  ·rw [e];exact hf.objs
  ·exact e
 ·rcases h.tag b with e | ⟨e,_⟩
  ·rw [e] at hb;exact hf.row b p hb
  ·rw [e] at hb;simp at hb
 ·rcases h.tag b with e | ⟨e,_⟩
  ·rw [e] at hb;exact hf.box b hb
  ·rw [e] at hb;simp at hb
 ·rcases h.objs id with e | e
  ·rw [←e];exact hi
  ·rw [e] at hi;simp at hi
theorem Shrunk.st {n:Nat} {w:World} {a:Act} {g g':Ghost} {σ σ':St} (h:Shrunk g σ.objs g' σ'.objs) (hs:σ'.slots=σ.slots) (hst:StOK n g w a σ):StOK n g' w a σ':=by
 refine ⟨fun i av hi=>?_,h.heap hst.heap,hst.size,hst.defers,hst.known.kept (h.ro w)⟩
 rw [hs] at hi
 obtain ⟨v,hv,hok⟩:=hst.slots i av hi
 exact ⟨v,hv,VOK.frame (h.ro w) (fun id _=>h.kept hst.heap id) hok⟩
def freezeG (g:Ghost) (id:Nat):Ghost:={ g with tag:=fun b=>match g.tag b with
 | .row i p=>if i=id then .ro else .row i p
 | .box i=>if i=id then .ro else .box i
 | t=>t }
theorem freezeG_shrunk {g:Ghost} {σ:St} (id:Nat) (hid:σ.objs id≠none):Shrunk g σ.objs (freezeG g id) (σ.kill id).objs:=by
 refine ⟨rfl,rfl,fun i=>?_,fun b=>?_⟩
 ·simp only [St.kill,upd]
  cases Nat.beq i id <;> simp
 ·simp only [freezeG]
  cases hb:g.tag b with
  | alien=>left;rfl
  | ro=>left;rfl
  | row i p=>
   by_cases hi:i=id
   ·right;simp only [hi,if_true]
    exact ⟨trivial,id,hid,by simp [St.kill,upd],.inl ⟨p,rfl⟩⟩
   ·left;simp [hi]
  | box i=>
   by_cases hi:i=id
   ·right;simp only [hi,if_true]
    exact ⟨trivial,id,hid,by simp [St.kill,upd],.inr rfl⟩
   ·left;simp [hi]
theorem nilK_some {t:Ty} {k:t.den→Option R} {r:R} (h:nilK t k=some r):∃ o u,∃ e:t = .sl o u,k (e ▸ ([]:List u.den))=some r:=by
 cases t with
 | sl o u=>exact ⟨o,u,rfl,h⟩
 | _=>simp [nilK] at h
theorem give_ok {w:World}:(n:Nat)→{a:AVal}→{u:Ty}→{σ:St}→{g:Ghost}→{k:u.den→St→Option R}→{r:R}→{cs:List Value}→
  HeapOK w g σ.objs→AOK w g σ.objs a cs→u.isRo=true→give n a u σ k=some r→
  ∃ d σ' g',k d σ'=some r∧σ'.slots=σ.slots∧σ'.next=σ.next∧Shrunk g σ.objs g' σ'.objs∧Rep w g' none u d cs
 | 0,_,_,_,_,_,_,_,_,_,_,h=>by simp [give] at h
 | n+1,.data t d,u,σ,g,k,r,cs,hh,hok,hu,h=>by
  simp only [give] at h
  obtain ⟨rfl,h⟩:=castK_some h
  exact ⟨_,σ,g,h,rfl,rfl,.refl _ _,hok.2⟩
 | n+1,.nilS,u,σ,g,k,r,cs,hh,hok,hu,h=>by
  simp only [give] at h
  obtain ⟨o,v,rfl,h⟩:=nilK_some h
  cases o with
  | true=>simp [Ty.isRo] at hu
  | false=>
   have hok':cs=[.slice none 0 0]:=hok
   subst hok'
   exact ⟨_,σ,g,h,rfl,rfl,.refl _ _,none,0,rfl,Nat.le_refl _,Nat.zero_le _,fun hn=>absurd rfl hn⟩
 | n+1,.ref id p ep,u,σ,g,k,r,cs,hh,hok,hu,h=>by
  cases p with
  | cons s q=>simp [give] at h
  | nil=>
   simp only [give] at h
   split at h
   ·rename_i t l e ho
    cases hb:Nat.beq e ep with
    | false=>rw [hb] at h;simp at h
    | true=>
     have he:e=ep:=Nat.eq_of_beq_eq_true hb
     subst he
     rw [hb] at h
     simp only [cond_true] at h
     obtain ⟨v,rfl,_,hv⟩:=hok
     have hsv:=(hv _ _ _ ho).2 rfl
     have hobj:=hh.objs id _ ho
     split at h
     ·simp [Ty.isRo] at hu
     ·rename_i v' kk
      obtain ⟨he,h⟩:=castK_some h
      refine ⟨_,σ.kill id,freezeG g id,h,rfl,rfl,freezeG_shrunk id (by rw [ho];simp),?_⟩
      have hs:=freezeG_shrunk (g:=g) (σ:=σ) id (by rw [ho];simp)
      have hf:=Rep.freeze (hs.ro w) (o:=some (id,[])) (show Frozen w g w (freezeG g id) id [] from ⟨fun q b hb=>⟨by simp only [freezeG,List.nil_append] at hb ⊢;rw [hb];simp,rfl⟩⟩) hobj.2
      rw [←hsv] at hf
      have he':Ty.sl false t.ro=Ty.sl false v':=he
      simp only [Ty.sl.injEq,true_and] at he'
      subst he'
      exact hf
     ·simp at h
   ·simp at h
 | n+1,.bptr id p,u,σ,g,k,r,cs,hh,hok,hu,h=>by
  cases u with
  | ptr u=>
   cases p with
   | cons s q=>simp [give] at h
   | nil=>
    simp only [give] at h
    split at h
    ·rename_i a ho
     obtain ⟨c,e,hc,ht,hca⟩:=hh.objs id _ ho
     have hs:=freezeG_shrunk (g:=g) (σ:=σ) id (by rw [ho];simp)
     have hca':=AOK.frame (objs':=(σ.kill id).objs) (hs.ro w) (fun i _=>hs.kept hh i) hca
     obtain ⟨d,σ',g',hk,h1,h2,h3,hrep⟩:=give_ok n (hs.heap hh) hca' (by simpa [Ty.isRo] using hu) h
     obtain ⟨v,rfl,_,hv⟩:=hok
     obtain ⟨off,s,hoff,rfl⟩:=hv _ ho
     simp only [Sk.off,Option.some.injEq,Prod.mk.injEq] at hoff
     obtain ⟨rfl,_⟩:=hoff
     have htag:(freezeG g id).tag (g.blk id) = .ro:=by simp [freezeG,ht]
     refine ⟨d,σ',g',hk,h1,h2,hs.trans h3,g.blk id,0,c,e,(0,0),rfl,((h3.ro w).blk _ htag).1,hc,?_,?_⟩
     ·have:=hrep.len
      rw [Array.length_toList] at this;omega
     ·have hl:=hrep.len
      rw [←hl,seg_all];exact hrep
    ·simp at h
  | _=>cases p <;> simp [give] at h
 | n+1,.clos f c,u,σ,g,k,r,cs,hh,hok,hu,h=>by
  cases u with
  | fn f' t=>
   simp only [give] at h
   cases hb:Nat.beq f f' with
   | false=>rw [hb] at h;simp at h
   | true=>
    rw [hb] at h
    have he:f=f':=Nat.eq_of_beq_eq_true hb
    subst he
    obtain ⟨vs,rfl,hc⟩:=hok
    obtain ⟨d,σ',g',hk,h1,h2,h3,hrep⟩:=give_ok n (a:=c) hh hc (by simpa [Ty.isRo] using hu) h
    exact ⟨d,σ',g',hk,h1,h2,h3,vs,rfl,hrep⟩
  | _=>simp [give] at h
 | n+1,.agg c,u,σ,g,k,r,cs,hh,hok,hu,h=>by
  simp only [give] at h
  exact give_ok n (a:=c) hh hok hu h
 | n+1,.pr a b,u,σ,g,k,r,cs,hh,hok,hu,h=>by
  cases u with
  | pair t u=>
   simp only [give] at h
   simp only [Ty.isRo,Bool.and_eq_true] at hu
   obtain ⟨c1,c2,rfl,ha,hb⟩:=hok
   obtain ⟨x,σ1,g1,hk1,h1,h2,h3,hrep1⟩:=give_ok n hh ha hu.1 h
   have hb':=AOK.frame (objs':=σ1.objs) (h3.ro w) (fun i _=>h3.kept hh i) hb
   obtain ⟨y,σ2,g2,hk2,h4,h5,h6,hrep2⟩:=give_ok n (h3.heap hh) hb' hu.2 hk1
   exact ⟨(x,y),σ2,g2,hk2,h4.trans h1,h5.trans h2,h3.trans h6,c1,c2,rfl,hrep1.kept (h6.ro w),hrep2⟩
  | _=>simp [give] at h
 | n+1,.un,u,σ,g,k,r,cs,hh,hok,hu,h=>by
  cases u with
  | unit=>
   simp only [give] at h
   exact ⟨(),σ,g,h,rfl,rfl,.refl _ _,hok⟩
  | _=>simp [give] at h
 | n+1,.view _ _ _ _ _,u,σ,g,k,r,cs,hh,hok,hu,h=>by cases u <;> simp [give] at h
 | n+1,.eptr _ _ _,u,σ,g,k,r,cs,hh,hok,hu,h=>by cases u <;> simp [give] at h
 | n+1,.mref _,u,σ,g,k,r,cs,hh,hok,hu,h=>by cases u <;> simp [give] at h
 | n+1,.nv true _ _ _,u,σ,g,k,r,cs,hh,hok,hu,h=>by cases u <;> simp [give] at h
 | n+1,.nv false _ (_ :: _) _,u,σ,g,k,r,cs,hh,hok,hu,h=>by cases u <;> simp [give] at h
 | n+1,.nv false id [] ep,u,σ,g,k,r,cs,hh,hok,hu,h=>by
  simp only [give] at h
  split at h
  ·rename_i t l e i ho
   cases hb:Nat.beq e ep with
   | false=>rw [hb] at h;simp at h
   | true=>
    have he:e=ep:=Nat.eq_of_beq_eq_true hb
    subst he
    rw [hb] at h
    simp only [cond_true] at h
    obtain ⟨v,rfl,_,hv⟩:=hok
    have hsv:=((hv _ _ _ _ _ ho).2 rfl).1 rfl
    have hobj:Rep w g (some (id,[])) (.sl true t) l [g.sv id []]:=hh.objs id _ ho
    split at h
    ·rename_i v' kk
     obtain ⟨he,h⟩:=castK_some h
     refine ⟨_,σ.kill id,freezeG g id,h,rfl,rfl,freezeG_shrunk id (by rw [ho];simp),?_⟩
     have hs:=freezeG_shrunk (g:=g) (σ:=σ) id (by rw [ho];simp)
     have hf:=Rep.freeze (hs.ro w) (o:=some (id,[])) (show Frozen w g w (freezeG g id) id [] from ⟨fun q b hb=>⟨by simp only [freezeG,List.nil_append] at hb ⊢;rw [hb];simp,rfl⟩⟩) hobj
     rw [←hsv] at hf
     have he':Ty.sl false t.ro=Ty.sl false v':=he
     simp only [Ty.sl.injEq,true_and] at he'
     subst he'
     exact hf
    ·simp at h
  ·simp at h
 | n+1,.tup _,u,σ,g,k,r,cs,hh,hok,hu,h=>hok.elim
theorem Rep.one {w:World} {g:Ghost}:{o:Own}→{t:Ty}→{d:t.den}→{cs:List Value}→Rep w g o t d cs→∀ v∈cs,v.oneCell'=true
 | _,.int _,_,_,h=>by obtain ⟨rfl,_⟩:=h;simp [Value.oneCell']
 | _,.bool,_,_,h=>by cases h;simp [Value.oneCell']
 | _,.str,_,_,h=>by obtain ⟨s,rfl,_⟩:=h;simp [Value.oneCell']
 | _,.unit,_,_,h=>by cases h;simp
 | _,.pair a b,(x,y),_,h=>by
  obtain ⟨c1,c2,rfl,h1,h2⟩:=h
  intro v hv
  rcases List.mem_append.1 hv with hv | hv
  ·exact Rep.one h1 v hv
  ·exact Rep.one h2 v hv
 | _,.arr n t,l,cs,h=>by
  intro v hv
  obtain ⟨j,hj,rfl⟩:=List.mem_iff_getElem.1 hv
  have hlen:=h.2.1
  have htz:0 < t.size:=by
   rcases Nat.eq_zero_or_pos t.size with hz | hz
   ·rw [hz] at hlen;omega
   ·exact hz
  have hdiv:j / t.size < n:=Nat.div_lt_of_lt_mul (by rw [Nat.mul_comm];omega)
  have hi:j / t.size < List.length l:=by rw [h.1];exact hdiv
  have hr:=Rep.one (h.2.2 (j / t.size) hi)
  refine hr _ ?_
  have hm:=Nat.mod_lt j htz
  have hdm:=Nat.div_add_mod j t.size
  have hle:(j / t.size+1)*t.size≤n*t.size:=Nat.mul_le_mul_right _ hdiv
  rw [Nat.add_mul] at hle
  refine List.mem_iff_getElem.2 ⟨j % t.size,?_,?_⟩
  ·rw [seg_length (by omega)];exact hm
  ·simp only [seg,List.getElem_take,List.getElem_drop]
   congr 1
   rw [Nat.mul_comm];exact hdm
 | _,.sl false t,_,_,h=>by obtain ⟨a,cap,rfl,_⟩:=h;simp [Value.oneCell']
 | some (_,_),.sl true t,_,_,h=>by obtain ⟨a,cap,rfl,_⟩:=h;simp [Value.oneCell']
 | none,.sl true t,_,_,h=>h.elim
 | _,.ptr t,_,_,h=>by obtain ⟨b,off,c,e,fz,rfl,_⟩:=h;simp [Value.oneCell']
 | _,.fn f t,_,_,h=>by obtain ⟨vs,rfl,_⟩:=h;simp [Value.oneCell']
theorem AOK.one {w:World} {g:Ghost} {objs:Objs}:{a:AVal}→{cs:List Value}→AOK w g objs a cs→∀ v∈cs,v.oneCell'=true
 | .data t d,_,h=>h.2.one
 | .nilS,_,h=>by cases h;simp [Value.oneCell']
 | .ref _ _ _,_,h=>by obtain ⟨v,rfl,h,_⟩:=h;simp [h]
 | .view _ _ _ _ _,_,h=>by obtain ⟨v,rfl,h,_⟩:=h;simp [h]
 | .bptr _ _,_,h=>by obtain ⟨v,rfl,h,_⟩:=h;simp [h]
 | .eptr _ _ _,_,h=>by obtain ⟨v,rfl,h,_⟩:=h;simp [h]
 | .mref _,_,h=>by obtain ⟨v,rfl,h,_⟩:=h;simp [h]
 | .nv _ _ _ _,_,h=>by obtain ⟨v,rfl,h,_⟩:=h;simp [h]
 | .clos _ _,_,h=>by obtain ⟨v,rfl,_⟩:=h;simp [Value.oneCell']
 | .ifc _ _,_,h=>by obtain ⟨v,cs',rfl,_⟩:=h;simp [Value.oneCell']
 | .agg c,_,h=>AOK.one (a:=c) h
 | .tup _,_,h=>h.elim
 | .pr a b,_,h=>by
  obtain ⟨c1,c2,rfl,h1,h2⟩:=h
  intro v hv
  rcases List.mem_append.1 hv with hv | hv
  ·exact AOK.one h1 v hv
  ·exact AOK.one h2 v hv
 | .un,_,h=>by cases h;simp
theorem Rep.noAgg {w:World} {g:Ghost} {t:Ty} {d:t.den} {cs:List Value} (h:Rep w g none t d cs) (ha:t.sk.isAgg=false):∃ v,cs=[v]:=by
 have hl:=h.len
 have:t.size=1:=by cases t <;> simp [Ty.sk,Sk.isAgg] at ha <;> simp [Ty.size]
 rw [this] at hl
 exact List.length_eq_one_iff.1 hl
theorem VOK_valueCells {w:World} {g:Ghost} {objs:Objs} {av:AVal} {v:Value} (hv:av.val=true) (h:VOK w g objs av v):∃ cs,AOK w g objs av cs∧v=mkV av.isAgg cs∧v.cells.toList=cs:=by
 obtain ⟨hag,hn1,hn2,hn3⟩:=val_isAgg hv
 obtain ⟨cs,hok,hmk⟩:=VOK_cells h hn3
 refine ⟨cs,hok,hmk,?_⟩
 cases ha:av.isAgg with
 | true=>
  rw [ha] at hmk
  simp only [mkV,if_true] at hmk
  rw [hmk];rfl
 | false=>
  rw [ha] at hmk
  simp only [mkV,Bool.false_eq_true,if_false] at hmk
  have hl:=hok.len
  have:av.sk.size=1:=by
   rw [hag] at ha
   cases hsk:av.sk <;> rw [hsk] at ha <;> simp [Sk.isAgg] at ha
   rfl
  rw [this] at hl
  obtain ⟨x,rfl⟩:=List.length_eq_one_iff.1 hl
  have h1:=hok.one x (by simp)
  have hx:v=x:=hmk
  subst hx
  cases v <;> simp [Value.oneCell'] at h1 <;> rfl
end Go.Kz
