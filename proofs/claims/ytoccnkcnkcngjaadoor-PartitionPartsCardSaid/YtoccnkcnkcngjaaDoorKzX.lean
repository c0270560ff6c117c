/-
  Append.
-/
import Derived.Test.YtoccnkcnkcngjaaDoorKzRB
set_option linter.unusedVariables false
set_option linter.unusedSimpArgs false
namespace Go.Kz
variable {R:Type}
section
variable {P:Program} {o:Oper} {a:Act} {w:World} {K:Act→World→Prop} {Q:Exit→Act→World→Prop} {c:Ctx} {σ:St} {g:Ghost} {k:St→Option R} {r:R} {base:Nat}
structure Tail (P:Program) (w:World) (g:Ghost) (t:Ty) (x:Value) (m:List t.den) (news:List Value):Prop where
 len:∀ w':World,w'.heap=w.heap→(Builtin.lenOf x).run P w' = .ok m.length w'
 cells:∀ w':World,w'.heap=w.heap→(Builtin.firstCells t.size m.length x).run P w' = .ok news.toArray w'
 pre:∀ n,n≤m.length→∀ w':World,w'.heap=w.heap→(Builtin.firstCells t.size n x).run P w' = .ok (news.take (n*t.size)).toArray w'
 length:news.length=m.length*t.size
 elts:∀ (i:Nat) (h:i < m.length),Rep w g none t (m.get ⟨i,h⟩) (seg news (i*t.size) t.size)
 one:∀ v∈news,v.oneCell'=true
theorem cell?_congr {w w':World} (h:w'.heap=w.heap) (ad:Addr):w'.cell? ad=w.cell? ad:=by simp [World.cell?,h]
theorem Tail.of_block {t:Ty} {m:List t.den} {b off cap:Nat} {cc:Array Value} {e:TypeId} {fz:Nat×Nat} (hc:w.heap[b]? = some (.cells cc e fz)) (hs:off+m.length*t.size≤cc.size)
  (hel:∀ (i:Nat) (h:i < m.length),Rep w g none t (m.get ⟨i,h⟩) (seg cc.toList (off+i*t.size) t.size)) :
  Tail P w g t (.slice (some ⟨b,off,none⟩) m.length cap) m (seg cc.toList off (m.length*t.size)):=by
 have hlen:(seg cc.toList off (m.length*t.size)).length=m.length*t.size:=seg_length (by rw [Array.length_toList];exact hs)
 refine ⟨fun w' _=>rfl,fun w' hw'=>?_,fun n hn w' hw'=>?_,hlen,fun i hi=>?_,fun v hv=>?_⟩
 ·refine run_firstCells_some (P:=P) w' t.size m.length ⟨b,off,none⟩ m.length cap _ hlen (fun j v hv=>?_)
  rw [Addr.add_lit,cell?_congr hw',cell_of_row w b (off+j) cc e fz hc]
  simp only [seg,List.getElem?_take,List.getElem?_drop] at hv
  split at hv
  ·simpa using hv
  ·simp at hv
 ·have hnm:n*t.size≤m.length*t.size:=Nat.mul_le_mul_right _ hn
  refine run_firstCells_some (P:=P) w' t.size n ⟨b,off,none⟩ m.length cap _ (by rw [List.length_take,hlen];omega) (fun j v hv=>?_)
  rw [Addr.add_lit,cell?_congr hw',cell_of_row w b (off+j) cc e fz hc]
  simp only [seg,List.getElem?_take,List.getElem?_drop] at hv
  split at hv
  ·split at hv
   ·simpa using hv
   ·simp at hv
  ·simp at hv
 ·have hmul:(i+1)*t.size≤m.length*t.size:=Nat.mul_le_mul_right _ hi
  rw [Nat.add_mul] at hmul
  rw [seg_seg _ _ _ _ _ (by omega)]
  exact hel i hi
 ·obtain ⟨j,hj,rfl⟩:=List.mem_iff_getElem.1 hv
  have hj':=hj
  rw [hlen] at hj'
  have htz:0 < t.size:=by
   rcases Nat.eq_zero_or_pos t.size with hz | hz
   ·rw [hz] at hj';omega
   ·exact hz
  have hi:j / t.size < m.length:=Nat.div_lt_of_lt_mul (by rw [Nat.mul_comm];omega)
  have h1:=(hel _ hi).one
  refine h1 _ ?_
  have hm:=Nat.mod_lt j htz
  have hdm:=Nat.div_add_mod j t.size
  have hmul:(j / t.size+1)*t.size≤m.length*t.size:=Nat.mul_le_mul_right _ hi
  rw [Nat.add_mul] at hmul
  refine List.mem_iff_getElem.2 ⟨j % t.size,?_,?_⟩
  ·rw [seg_length (by rw [Array.length_toList];omega)];exact hm
  ·simp only [seg,List.getElem_take,List.getElem_drop]
   congr 1
   rw [Nat.add_assoc,Nat.mul_comm (j / t.size),hdm]
theorem Tail.of_nil {t:Ty} {b:Option Addr} {cap:Nat}:Tail P w g t (.slice b 0 cap) ([]:List t.den) []:=by
 have h0:∀ w':World,(Builtin.firstCells t.size 0 (.slice b 0 cap)).run P w' = .ok #[] w':=fun w'=>by
  cases b with
  | none=>simp [Builtin.firstCells]
  | some b=>simp [Builtin.firstCells,loadCells,loadCellsFrom]
 refine ⟨fun w' _=>rfl,fun w' _=>h0 w',fun n hn w' _=>?_,by simp,fun i h=>by simp at h,by simp⟩
 have:n=0:=by simpa using hn
 subst this
 simpa using h0 w'
theorem ro_refl (w:World) (g:Ghost):RoKept w g w g:=⟨fun _ hb=>⟨hb,rfl⟩⟩
theorem tail_ok (hh:HeapOK w g σ.objs) {x:AVal} {v:Value} {t:Ty} {f:List t.den→Option R} (ht:t.isRo=true) (hx:VOK w g σ.objs x v) (h:asData σ 20 x (.sl false t) f=some r) (hval:x.val=true) (hnv:x.isNv=false) :
  ∃ m news,f m=some r∧Tail P w g t v m news:=by
 cases x with
 | data t' d=>
  simp only [asData] at h
  obtain ⟨he,h⟩:=castK_some h
  subst he
  simp only [VOK] at hx
  obtain ⟨cs,⟨hro,b,cap,rfl,h1,h2,h3⟩,hv⟩:=hx
  have hv':v = .slice b (List.length d) cap:=hv
  subst hv'
  refine ⟨d,?_⟩
  by_cases hn:d=[]
  ·subst hn
   exact ⟨[],h,Tail.of_nil⟩
  ·obtain ⟨bk,off,cc,e,fz,rfl,htag,hcell,hsz,hel⟩:=h3 hn
   exact ⟨_,h,Tail.of_block hcell hsz hel⟩
 | nilS=>
  simp only [asData] at h
  have hv:=VOK_nil.1 hx
  subst hv
  have h':f []=some r:=by
   have:(Ty.sl false t).isRo=true:=by simp [Ty.isRo,ht]
   rw [this] at h
   exact h
  exact ⟨[],[],h',Tail.of_nil⟩
 | ref id p ep=>
  simp only [asData] at h
  obtain ⟨t',l,hobj,rfl,hro,h⟩:=fetch_ok hh h
  obtain ⟨he,h⟩:=castK_some h
  have he':t'.ro=t:=by
   have:Ty.sl false t'.ro=Ty.sl false t:=he
   simpa using this
  subst he'
  simp only [VOK] at hx
  obtain ⟨cs,⟨x,rfl,_,hv⟩,hv'⟩:=hx
  have e1:=(hv _ _ _ hobj).2 rfl
  obtain ⟨b,cap,_,hsv,h1,h2,h3⟩:=(hh.objs _ _ hobj).2
  have hvv:v = .slice b l.length cap:=by rw [←hsv,←e1];exact hv'
  subst hvv
  have hm:∀ (hc:(Ty.ro (.sl false t')).den=(Ty.sl false t'.ro).den),(cast hc (Ty.toRo (.sl false t') l):List t'.ro.den)=l.map (Ty.toRo t'):=fun _=>toRo_sl false t' l
  rw [hm] at h
  rcases h3 with ⟨rfl,hl,rfl⟩ | ⟨bk,off,cc,e,rfl,htag,hcell,hsz,hel⟩
  ·subst hl
   exact ⟨[],[],h,Tail.of_nil⟩
  ·refine ⟨_,seg cc.toList off (l.length*t'.ro.size),h,?_⟩
   have hlm:(l.map (Ty.toRo t')).length=l.length:=by simp
   have hcap:l.length*t'.size≤cap*t'.size:=Nat.mul_le_mul_right _ h1
   have:=Tail.of_block (P:=P) (w:=w) (g:=g) (t:=t'.ro) (m:=l.map (Ty.toRo t')) (b:=bk) (off:=off) (cap:=cap) hcell (by rw [hlm,Ty.size_ro];omega) (fun i hi=>by
    have hi':i < l.length:=by rw [hlm] at hi;exact hi
    have hf:=Rep.freeze (ro_refl w g) (o:=none) trivial (Rep.anyOwn (o':=none) hro (hel i hi'))
    simp only [List.get_eq_getElem,List.getElem_map,Ty.size_ro] at hf ⊢
    exact hf)
   rw [hlm] at this
   exact this
 | view id p ep av bv=>
  simp only [asData] at h
  obtain ⟨t',l,hobj,rfl,hro,h⟩:=fetch_ok hh h
  obtain ⟨he,h⟩:=castK_some h
  have he':t'.ro=t:=by
   have:Ty.sl false t'.ro=Ty.sl false t:=he
   simpa using this
  subst he'
  simp only [VOK] at hx
  obtain ⟨cs,⟨x,rfl,_,hv⟩,hv'⟩:=hx
  obtain ⟨_,h0,hab,hbl,e1⟩:=(hv _ _ _ hobj).2 rfl
  obtain ⟨b,cap,_,hsv,h1,h2,h3⟩:=(hh.objs _ _ hobj).2
  have hvv:v=subSlice (.slice b l.length cap) t'.size av bv:=by rw [←hsv,←e1];exact hv'
  have hm:∀ (hc:(Ty.ro (.sl false t')).den=(Ty.sl false t'.ro).den),(cast hc (Ty.toRo (.sl false t') (sub l av bv)):List t'.ro.den)=(sub l av bv).map (Ty.toRo t'):=fun _=>toRo_sl false t' _
  rw [hm] at h
  have hsl:=sub_length l av bv h0 hab hbl
  have hlm:((sub l av bv).map (Ty.toRo t')).length=(bv-av).toNat:=by rw [List.length_map,hsl];omega
  by_cases hz:(bv-av).toNat=0
  ·have hnil:(sub l av bv).map (Ty.toRo t')=[]:=List.eq_nil_of_length_eq_zero (hlm.trans hz)
   rw [hnil] at h
   refine ⟨[],[],h,?_⟩
   rw [hvv]
   simp only [subSlice,hz]
   exact Tail.of_nil
  ·rcases h3 with ⟨rfl,hl,rfl⟩ | ⟨bk,off,cc,e,rfl,htag,hcell,hsz,hel⟩
   ·rw [hl] at hbl;simp at hbl;omega
   ·refine ⟨_,seg cc.toList (off+av.toNat*t'.size) ((bv-av).toNat*t'.ro.size),h,?_⟩
    have hcap:(av.toNat+(bv-av).toNat)*t'.size≤cap*t'.size:=Nat.mul_le_mul_right _ (by omega)
    rw [Nat.add_mul] at hcap
    have:=Tail.of_block (P:=P) (w:=w) (g:=g) (t:=t'.ro) (m:=(sub l av bv).map (Ty.toRo t')) (b:=bk) (off:=off+av.toNat*t'.size) (cap:=cap-av.toNat) hcell (by rw [hlm,Ty.size_ro];omega) (fun i hi=>by
     have hi1:i < (sub l av bv).length:=by simpa using hi
     have hi2:av.toNat+i < l.length:=by omega
     have hf:=Rep.freeze (ro_refl w g) (o:=none) trivial (Rep.anyOwn (o':=none) hro (hel _ hi2))
     have hg:=sub_get l av bv i hi1 hi2
     rw [List.get_eq_getElem] at hg
     rw [List.get_eq_getElem,List.getElem_map,hg,Ty.size_ro]
     have e3:off+av.toNat*t'.size+i*t'.size=off+(av.toNat+i)*t'.size:=by rw [Nat.add_mul];omega
     rw [e3]
     exact hf)
    rw [hlm] at this
    rw [hvv]
    simp only [subSlice]
    rw [if_neg (by omega)]
    simp only [Option.map_some,Addr.add_lit]
    exact this
 | agg c=>cases c <;> simp [AVal.val] at hval <;> simp [asData] at h
 | nv pt id p ep=>simp [AVal.isNv] at hnv
 | _=>simp [asData] at h
theorem run_append_here {T E:TypeId} {t u:Ty} (hund:P.underlying T=some (.slice E)) (hE:InfoOK P E u) (hus:u.size=t.size) {ty:TypeId} {b off n cap:Nat} {cc:Array Value} {e:TypeId} {x:Value} {m:List t.den} {news:List Value}
  (hc:w.heap[b]? = some (.cells cc e (0,0))) (ht:Tail P w g t x m news) (hroom:n+m.length≤cap) (hsz:off+cap*t.size≤cc.size) :
  (Builtin.append_ #[T,T] ty #[.slice (some ⟨b,off,none⟩) n cap,x]).run P w = .ok (.slice (some ⟨b,off,none⟩) (n+m.length) cap) (w.setRow b (splice cc.toList (off+n*t.size) news).toArray):=by
 have hs:=hE.sizeOf w
 rw [hus] at hs
 have h1:=ht.len w rfl
 have h2:=ht.cells w rfl
 have hmul:(n+m.length)*t.size≤cap*t.size:=Nat.mul_le_mul_right _ hroom
 rw [Nat.add_mul] at hmul
 have hst:=run_storeCells_at P b (off+n*t.size) e news 0 cc w hc (by rw [ht.length];omega) ht.one
 simp only [Nat.add_zero] at hst
 simp [Builtin.append_,run_underlying hund,hs,h1,hroom,h2,Addr.add_lit,hst,splice]
theorem run_append_none {T E:TypeId} {t u:Ty} (hund:P.underlying T=some (.slice E)) (hE:InfoOK P E u) (hus:u.size=t.size) {ty:TypeId} {x:Value} {news:List Value} (ht:Tail P w g t x ([]:List t.den) news) :
  (Builtin.append_ #[T,T] ty #[.slice none 0 0,x]).run P w = .ok (.slice none 0 0) w:=by
 have hs:=hE.sizeOf w
 rw [hus] at hs
 have h1:=ht.len w rfl
 have h2:=ht.cells w rfl
 simp only [List.length_nil] at h1 h2
 simp [Builtin.append_,run_underlying hund,hs,h1,h2]
theorem run_append_more {T E:TypeId} {t u:Ty} (hund:P.underlying T=some (.slice E)) (hE:InfoOK P E u) (hus:u.size=t.size) {ty:TypeId} {b:Option Addr} {n cap:Nat} {x:Value} {m:List t.den} {news olds:List Value}
  (ht:Tail P w g t x m news) (hroom:cap < n+m.length) (hbig:n+m.length≤4294967296)
  (hold:∀ w':World,w'.heap=w.heap→(Builtin.firstCells t.size n (.slice b n cap)).run P w' = .ok olds.toArray w') :
  ∃ zs,(Builtin.append_ #[T,T] ty #[.slice b n cap,x]).run P w = .ok (.slice (some ⟨w.heap.size,0,none⟩) (n+m.length) (grownCap w (n+m.length) cap E))
   (w.drew.alloc (.cells (olds.toArray++news.toArray++zs) E))∧zs.size=(grownCap w (n+m.length) cap E-(n+m.length))*t.size:=by
 obtain ⟨i,z,hi1,hi2,hi3,hi4,hi5,hi6⟩:=hE.info
 rw [hus] at hi2
 have h1:=ht.len w rfl
 have h2:=ht.cells w.drew rfl
 have h3:=hold w.drew rfl
 have hn:¬ (n+m.length≤cap):=by omega
 have hmb:(n+m.length)*i.bytes≤4294967296*32768:=Nat.mul_le_mul hbig hi3
 have hfit:=growslice_fits (need:=n+m.length) (old:=cap) (bytes:=i.bytes) hroom (by omega)
 have h48':¬ (281474976710656 < Builtin.nextslicecap (n+m.length) cap*i.bytes):=by omega
 have h63':¬ (9223372036854775807 < ((n:Int)+(m.length:Int))):=by omega
 refine ⟨Builtin.zeroCells z.cells (grownCap w (n+m.length) cap E-(n+m.length)),?_,?_⟩
 ·rw [←hi2] at h2 h3
  simp [Builtin.append_,run_underlying hund,Go.sizeOf,typeInfo,zeroValue,hi1,hi4,h1,hn,h63',h48',Question.forced,h2,h3,newRow,grownCap]
  rw [show (olds++news).toArray=olds.toArray++news.toArray from by simp,Array.append_assoc]
 ·rw [size_zeroCells,←Array.length_toList,hi5,zeroCells_len,hus]
end
end Go.Kz
namespace Go.Kz
variable {R:Type}
theorem seg_splice_inside (l:List Value) (off:Nat) (x:List Value) (j n:Nat) (h:j+n≤x.length) (hl:off+x.length≤l.length):seg (splice l off x) (off+j) n=seg x j n:=by
 rw [←seg_seg _ off x.length j n h,seg_splice_same _ _ _ hl]
section
variable {w:World} {g:Ghost} {σ:St} {o:Obj} {m:Nat} {tg:Tag} {v:Value}
theorem StOK.turn {n:Nat} {a:Act} {w':World} {g':Ghost} {id:Nat} (hst:StOK n g w a σ) (hr:RoKept w g w' g') (hs:∀ i,i≠id→Same w g w' g' i)
  (hk:IdKept g g' id (σ.objs id) (some o)∨Fresh g σ id) (hobj:ObjOK w' g' (σ.setObj id o).objs id o) (ht:∀ b,g'.tag b≠.alien→b < w'.heap.size):StOK n g' w' a (σ.setObj id o):=by
 have hother:∀ i,i≠id→IdKept g g' i (σ.objs i) ((σ.setObj id o).objs i):=by
  intro i hi
  simp only [St.setObj];rw [upd_other _ _ hi];exact IdKept.same (hs i hi)
 have hme:∀ i,(Fresh g σ id→i≠id)→IdKept g g' i (σ.objs i) ((σ.setObj id o).objs i):=by
  intro i hi
  by_cases he:i=id
  ·subst he
   rcases hk with hk | hk
   ·simp only [St.setObj,upd_same];exact hk
   ·exact absurd rfl (hi hk)
  ·exact hother i he
 refine ⟨fun i av hi=>?_,⟨fun i x hx=>?_,ht⟩,hst.size,hst.defers,hst.known.kept hr⟩
 ·obtain ⟨u,hu,hok⟩:=hst.slots i av hi
  refine ⟨u,hu,VOK.frame hr (fun j hj=>hme j (fun hf he=>?_)) hok⟩
  subst he;exact hf.slots i av hi hj
 ·by_cases hi:i=id
  ·subst hi
   simp only [St.setObj,upd_same,Option.some.injEq] at hx
   subst hx;exact hobj
  ·have hx':σ.objs i=some x:=by simpa [St.setObj,upd_other _ _ hi] using hx
   refine ObjOK.frame hr (hs i hi) (fun y hy j hj=>hme j (fun hf he=>?_)) (hst.heap.objs i x hx')
   subst he;subst hy;exact hf.cells i y hx' hj
theorem Fresh.turn {g':Ghost} {id:Nat} (ht:∀ b,g'.tag b=g.tag b∨∃ p,g'.tag b = .row id p) (hm:m≠id) (ho:∀ y,o≠.cell y) (hf:Fresh g σ m):Fresh g' (σ.setObj id o) m:=by
 refine ⟨by simp only [St.setObj];rw [upd_other _ _ hm];exact hf.objs,fun b p hb=>?_,fun b hb=>?_,hf.slots,fun i av hi=>?_⟩
 ·rcases ht b with h | ⟨q,h⟩
  ·rw [h] at hb;exact hf.row b p hb
  ·rw [h] at hb;simp only [Tag.row.injEq] at hb;exact hm hb.1.symm
 ·rcases ht b with h | ⟨q,h⟩
  ·rw [h] at hb;exact hf.box b hb
  ·rw [h] at hb;simp at hb
 ·by_cases he:i=id
  ·subst he
   simp only [St.setObj,upd_same,Option.some.injEq] at hi
   exact absurd hi (ho av)
  ·simp only [St.setObj] at hi
   rw [upd_other _ _ he] at hi
   exact hf.cells i av hi
def svG (g:Ghost) (id:Nat) (v:Value):Ghost:={ g with sv:=fun i p=>if i=id then v else g.sv i p }
theorem svG_same {id i:Nat} (h:i≠id):Same w g w (svG g id v) i:=
 ⟨⟨fun q=>by simp [svG,h],fun _ b hb=>⟨hb,rfl⟩⟩,rfl,fun hb=>⟨hb,rfl⟩⟩
theorem StOK.heapEq {n:Nat} {a:Act} {w':World} (h:w'.heap=w.heap) (hst:StOK n g w a σ):StOK n g w' a σ:=by
 have hr:RoKept w g w' g:=⟨fun b hb=>⟨hb,by rw [h]⟩⟩
 have hs:∀ id,Same w g w' g id:=fun id=>⟨⟨fun _=>rfl,fun _ b hb=>⟨hb,by rw [h]⟩⟩,rfl,fun hb=>⟨hb,by rw [h]⟩⟩
 have hk:∀ id,IdKept g g id (σ.objs id) (σ.objs id):=fun id=>IdKept.refl g id _
 refine ⟨fun i av hi=>?_,⟨fun id x hx=>?_,fun b hb=>?_⟩,hst.size,hst.defers,hst.known.kept hr⟩
 ·obtain ⟨u,hu,hok⟩:=hst.slots i av hi
  exact ⟨u,hu,VOK.frame hr (fun id _=>hk id) hok⟩
 ·exact ObjOK.frame hr (hs id) (fun _ _ id' _=>hk id') (hst.heap.objs id x hx)
 ·rw [h];exact hst.heap.tags b hb
theorem Ext.heapEq {w':World} (h:w'.heap=w.heap) (ho:w'.os=w.os) (ht:w'.tape=w.tape) (hp:w'.output=w.output) (hd:w.drawn≤w'.drawn):Ext w g w' g:=
 ⟨ho,ht,hp,hd,by rw [h];exact Nat.le_refl _,fun b _ _=>⟨by rw [h],rfl⟩⟩
end
section
variable {P:Program} {o:Oper} {a:Act} {w:World} {K:Act→World→Prop} {Q:Exit→Act→World→Prop} {c:Ctx} {σ:St} {g:Ghost} {k:St→Option R} {r:R} {base:Nat} {mo:Bool}
theorem wp_done {σ':St} {g':Ghost} {w':World} {av:AVal} {v:Value} (hrun:(execOp a.eval o).run P w = .ok (.value v) w') (hst:StOK c.ntmps g' w' a σ') (hext:Ext w g w' g')
  (hfr:∀ m,(m < base∨base+8≤m)→Fresh g σ m→Fresh g' σ' m∧m∉av.ids) (hn:σ'.next=σ.next) (hv:VOK w' g' σ'.objs av v)
  (h:σ'.putK c o.dst av k=some r) (hag:mo=false→Agree w w') (hK:Post c.ntmps k r g w σ base mo K):o.wp P a w K Q:=by
 unfold Oper.wp
 rw [hrun,Oper.upon_value]
 rcases putK_some h with ⟨hd,hk⟩ | ⟨i,hd,hi,hk⟩
 ·rw [hd];exact hK σ' g' a w' hk hst hext (fun m hm hf=>(hfr m hm hf).1) hn hag
 ·rw [hd];exact hK _ g' _ w' hk (hst.put hi hv) hext (fun m hm hf=>(hfr m hm hf).1.set i (hfr m hm hf).2) hn hag
theorem VOK_ref {objs:Objs} {u:Ty} {l:List u.den} {v:Value} {ep id:Nat} (ho:objs id=some (.row u l ep)) (hsv:v=g.sv id []) (hone:v.oneCell'=true) :
  VOK w g objs (.ref id [] ep) v:=by
 simp only [VOK]
 refine ⟨_,⟨v,rfl,hone,fun t l' e hx=>?_⟩,rfl⟩
 rw [ho] at hx
 simp only [Option.some.injEq,Obj.row.injEq] at hx
 obtain ⟨_,_,rfl⟩:=hx
 exact ⟨Nat.le_refl _,fun _=>hsv⟩
theorem tailK_some {t:Ty} {x:AVal} {f:List t.den→Option R} (h:tailK σ t x f=some r):t.isRo=true∧x.val=true∧asData σ 20 x (.sl false t) f=some r∧x.isNv=false:=by
 unfold tailK at h
 cases hb:(t.isRo && x.val && !x.isNv) with
 | false=>rw [hb] at h;simp at h
 | true=>
  rw [hb] at h
  simp only [Bool.and_eq_true,Bool.not_eq_true'] at hb
  exact ⟨hb.1.1,hb.1.2,h,hb.2⟩
theorem row_here {t:Ty} {l m:List t.den} {b off cap:Nat} {cc:Array Value} {news:List Value} {e:TypeId} {x:Value} {id:Nat} {w:World} {g g':Ghost}
  (hro:t.isRo=true) (htail:Tail P w g t x m news) (hroom:l.length+m.length≤cap) (hsz:off+cap*t.size≤cc.size)
  (hcell:w.heap[b]? = some (.cells cc e (0,0)))
  (hel:∀ (i:Nat) (h:i < l.length),Rep w g none t (l.get ⟨i,h⟩) (seg cc.toList (off+i*t.size) t.size))
  (hr:RoKept w g (w.setRow b (splice cc.toList (off+l.length*t.size) news).toArray) g') (i:Nat) (h:i < (l++m).length) :
  Rep (w.setRow b (splice cc.toList (off+l.length*t.size) news).toArray) g' none t ((l++m).get ⟨i,h⟩) (seg (splice cc.toList (off+l.length*t.size) news) (off+i*t.size) t.size):=by
 have hcc:cc.toList.length=cc.size:=Array.length_toList
 have hmul:(l.length+m.length)*t.size≤cap*t.size:=Nat.mul_le_mul_right _ hroom
 rw [Nat.add_mul] at hmul
 have hnl:=htail.length
 have hi:i < l.length+m.length:=by simpa using h
 by_cases hil:i < l.length
 ·have h3:(i+1)*t.size≤l.length*t.size:=Nat.mul_le_mul_right _ hil
  rw [Nat.add_mul] at h3
  rw [seg_splice_before _ _ _ _ _ (by omega) (by rw [hcc];omega)]
  have:=(hel i hil).kept hr
  simp only [List.get_eq_getElem] at this ⊢
  rw [List.getElem_append_left hil]
  exact this
 ·obtain ⟨j,rfl⟩:∃ j,i=l.length+j:=⟨i-l.length,by omega⟩
  have hj:j < m.length:=by omega
  have h3:(j+1)*t.size≤m.length*t.size:=Nat.mul_le_mul_right _ hj
  rw [Nat.add_mul] at h3
  have e1:off+(l.length+j)*t.size=(off+l.length*t.size)+j*t.size:=by rw [Nat.add_mul];omega
  rw [e1,seg_splice_inside _ _ _ _ _ (by omega) (by omega)]
  have:=(htail.elts j hj).kept hr
  simp only [List.get_eq_getElem] at this ⊢
  rw [List.getElem_append_right (by omega)]
  simpa using this
theorem row_grown {t:Ty} {l m:List t.den} {olds news:List Value} {zs:Array Value} {x:Value} {w w':World} {g g':Ghost}
  (htail:Tail P w g t x m news) (ho:olds.length=l.length*t.size)
  (hel:∀ (i:Nat) (h:i < l.length),Rep w g none t (l.get ⟨i,h⟩) (seg olds (i*t.size) t.size)) (hr:RoKept w g w' g') (i:Nat) (h:i < (l++m).length) :
  Rep w' g' none t ((l++m).get ⟨i,h⟩) (seg (olds.toArray++news.toArray++zs).toList (i*t.size) t.size):=by
 have hnl:=htail.length
 have hi:i < l.length+m.length:=by simpa using h
 have e0:(olds.toArray++news.toArray++zs).toList=olds++(news++zs.toList):=by simp
 rw [e0]
 by_cases hil:i < l.length
 ·have h3:(i+1)*t.size≤l.length*t.size:=Nat.mul_le_mul_right _ hil
  rw [Nat.add_mul] at h3
  rw [seg_append_left _ _ _ _ (by omega)]
  have:=(hel i hil).kept hr
  simp only [List.get_eq_getElem] at this ⊢
  rw [List.getElem_append_left hil]
  exact this
 ·obtain ⟨j,rfl⟩:∃ j,i=l.length+j:=⟨i-l.length,by omega⟩
  have hj:j < m.length:=by omega
  have h3:(j+1)*t.size≤m.length*t.size:=Nat.mul_le_mul_right _ hj
  rw [Nat.add_mul] at h3
  rw [Nat.add_mul,seg_append_right' _ _ _ _ _ ho.symm,seg_append_left _ _ _ _ (by omega)]
  have:=(htail.elts j hj).kept hr
  simp only [List.get_eq_getElem] at this ⊢
  rw [List.getElem_append_right (by omega)]
  simpa using this
theorem append_more {T E:TypeId} {t u:Ty} (hund:P.underlying T=some (.slice E)) (hE:InfoOK P E u) (hus:u.size=t.size) (ht:∀ b,g.tag b≠.alien→b < w.heap.size) (hro:t.isRo=true)
  {ty:TypeId} {b:Option Addr} {cap:Nat} {l m:List t.den} {olds news:List Value} {x:Value} (hold:Tail P w g t (.slice b l.length cap) l olds) (htail:Tail P w g t x m news)
  (hroom:cap < l.length+m.length) (hbig:l.length+m.length≤4294967296) (objs:Objs) (id ep:Nat) :
  ∃ cells cap',(Builtin.append_ #[T,T] ty #[.slice b l.length cap,x]).run P w = .ok (.slice (some ⟨w.heap.size,0,none⟩) (l.length+m.length) cap') (w.drew.alloc (.cells cells E))∧
   ObjOK (w.drew.alloc (.cells cells E)) (newG g w.heap.size id (.row id []) (.slice (some ⟨w.heap.size,0,none⟩) (l.length+m.length) cap')) objs id (.row t (l++m) ep):=by
 obtain ⟨zs,hrun,hzs⟩:=run_append_more (ty:=ty) hund hE hus htail hroom hbig (fun w' hw'=>hold.cells w' hw')
 refine ⟨_,_,hrun,?_⟩
 have hlen:(l++m).length=l.length+m.length:=by simp
 have hge:=grownCap_ge w (l.length+m.length) cap E
 have:=row_new (w:=w.drew) (g:=g) (base:=id) (u:=t) (l:=l++m) (cells:=olds.toArray++news.toArray++zs) (e:=E) (cap:=grownCap w (l.length+m.length) cap E) ht hro
  (by rw [hlen];exact hge) (grownCap_le_maxLen w (l.length+m.length) cap E (by unfold maxLen;omega))
  (by
   have h1:=hold.length
   have h2:=htail.length
   simp only [Array.size_append,List.size_toArray,hzs,h1,h2]
   rw [←Nat.add_mul,←Nat.add_mul]
   exact Nat.mul_le_mul_right _ (by omega))
  (fun i hi=>row_grown htail hold.length hold.elts (w':=w.drew) (g':=g) ⟨fun b hb=>⟨hb,rfl⟩⟩ i hi) objs ep
 rw [hlen] at this
 exact this
theorem run_append_op {x y:Operand} {args:Array Operand} {ts:Array TypeId} {t:TypeId} {v:Value} {w':World} (ho:o.op = .call { callee:=.builtin .append,args:=args,argTypes:=ts }) (ha:args.toList=[x,y]) (ht:ts.toList=[t,t])
  (h:∀ ty,(Builtin.append_ #[t,t] ty #[a.eval x,a.eval y]).run P w = .ok v w'):(execOp a.eval o).run P w = .ok (.value v) w':=by
 have e1:args = #[x,y]:=by apply Array.toList_inj.1;simpa using ha
 have e2:ts = #[t,t]:=by apply Array.toList_inj.1;simpa using ht
 subst e1;subst e2
 simp [execOp,ho,resolve,invoke,builtin,h]
end
end Go.Kz
namespace Go.Kz
variable {R:Type}
section
variable {P:Program} {o:Oper} {a:Act} {w:World} {K:Act→World→Prop} {Q:Exit→Act→World→Prop} {c:Ctx} {σ:St} {g:Ghost} {k:St→Option R} {r:R} {base:Nat} {mo:Bool}
theorem drewG_ro {m:Nat} {tg:Tag} {v:Value} (ht:∀ b,g.tag b≠.alien→b < w.heap.size) (ob:Go.Obj):RoKept w g (w.drew.alloc ob) (newG g w.heap.size m tg v):=
 ⟨fun b hb=>(newG_ro (w:=w.drew) ht ob).blk b hb⟩
theorem drewG_same {m:Nat} {tg:Tag} {v:Value} (ht:∀ b,g.tag b≠.alien→b < w.heap.size) (ob:Go.Obj) {id:Nat} (hid:id≠m):Same w g (w.drew.alloc ob) (newG g w.heap.size m tg v) id:=
 let h:=newG_same (w:=w.drew) (g:=g) (m:=m) (tg:=tg) (v:=v) ht ob hid
 ⟨⟨h.row.sv,h.row.blk⟩,h.blk,h.box⟩
theorem drewG_ext {m:Nat} {tg:Tag} {v:Value} (ht:∀ b,g.tag b≠.alien→b < w.heap.size) (ob:Go.Obj):Ext w g (w.drew.alloc ob) (newG g w.heap.size m tg v):=
 let h:=newG_ext (w:=w.drew) (g:=g) (m:=m) (tg:=tg) (v:=v) ht ob
 ⟨h.os,h.tape,h.output,Nat.le_trans (Nat.le_succ _) h.drawn,h.size,h.keep⟩
theorem obj_tail {id:Nat} {t:Ty} {l:List t.den} {e:Nat} (hobj:ObjOK w g σ.objs id (.row t l e)) :
  ∃ b cap olds,g.sv id [] = .slice b l.length cap∧l.length≤cap∧cap≤maxLen∧Tail P w g t (.slice b l.length cap) l olds∧
   ((b=none∧l=[]∧cap=0)∨∃ bk off cc ee,b=some ⟨bk,off,none⟩∧g.tag bk = .row id []∧w.heap[bk]? = some (.cells cc ee (0,0))∧off+cap*t.size≤cc.size∧
    ∀ (i:Nat) (h:i < l.length),Rep w g none t (l.get ⟨i,h⟩) (seg cc.toList (off+i*t.size) t.size)):=by
 obtain ⟨hro,b,cap,_,hsv,h1,h2,h3⟩:=hobj
 rcases h3 with ⟨rfl,hl,rfl⟩ | ⟨bk,off,cc,ee,rfl,htag,hcell,hsz,hel⟩
 ·subst hl
  exact ⟨none,0,[],hsv,h1,h2,Tail.of_nil,.inl ⟨rfl,rfl,rfl⟩⟩
 ·have hcap:l.length*t.size≤cap*t.size:=Nat.mul_le_mul_right _ h1
  have hel':∀ (i:Nat) (h:i < l.length),Rep w g none t (l.get ⟨i,h⟩) (seg cc.toList (off+i*t.size) t.size):=fun i hi=>Rep.anyOwn hro (hel i hi)
  exact ⟨_,cap,seg cc.toList off (l.length*t.size),hsv,h1,h2,Tail.of_block hcell (by omega) hel',.inr ⟨bk,off,cc,ee,rfl,htag,hcell,hsz,hel'⟩⟩
theorem append_own {args:Array Operand} {ts:Array TypeId} {x y:Operand} {t E:TypeId} {t1 u:Ty} {l m:List t1.den} {e id:Nat} {news:List Value}
  (ho:o.op = .call { callee:=.builtin .append,args:=args,argTypes:=ts }) (hargs:args.toList=[x,y]) (htys:ts.toList=[t,t])
  (hund:P.underlying t=some (.slice E)) (hinf:InfoOK P E u) (hus:u.size=t1.size) (hst:StOK c.ntmps g w a σ) (hobj0:σ.objs id=some (.row t1 l e)) (hev:a.eval x=g.sv id [])
  (hro:t1.isRo=true) (htail:Tail P w g t1 (a.eval y) m news) (hrm:l.length+m.length≤4294967296)
  (h:(σ.setObj id (.row t1 (l++m) (e+1))).putK c o.dst (.ref id [] (e+1)) k=some r) (hK:Post c.ntmps k r g w σ base true K):o.wp P a w K Q:=by
 obtain ⟨b,cap,olds,hsv,hlc,hcm,hold,hrow⟩:=obj_tail (P:=P) (hst.heap.objs _ _ hobj0)
 have hvx:a.eval x = .slice b l.length cap:=by rw [←hsv];exact hev
 have hids:∀ n,Fresh g σ n→n≠id:=by
  intro n hn he;subst he
  have:=hn.objs;rw [hobj0] at this;simp at this
 have hfr:∀ n,Fresh g σ n→n∉(AVal.ref id [] (e+1)).ids:=by
  intro n hn;simp only [AVal.ids,List.mem_singleton];exact hids n hn
 have hk0:∀ g':Ghost,IdKept g g' id (σ.objs id) (some (.row t1 (l++m) (e+1))):=fun g'=>.inr (.inl ⟨t1,l,l++m,e,e+1,hobj0,rfl,.inl (by omega)⟩)
 by_cases hmore:cap < l.length+m.length
 ·obtain ⟨cells,cap',hrun',hobj⟩:=append_more (P:=P) (ty:=0) hund hinf hus hst.heap.tags hro hold htail hmore (by omega) (σ.setObj id (.row t1 (l++m) (e+1))).objs id (e+1)
  have hrun:=run_append_op (P:=P) ho hargs htys (fun ty=>by rw [hvx];exact hrun')
  refine wp_done (g:=g) (base:=base) (σ':=σ.setObj id (.row t1 (l++m) (e+1))) (g':=newG g w.heap.size id (.row id []) (.slice (some ⟨w.heap.size,0,none⟩) (l.length+m.length) cap')) hrun ?_ ?_ (fun n hn hfn=>⟨Fresh.turn (g:=g) (fun b=>?_) (hids n hfn) (by simp) hfn,hfr n hfn⟩) rfl ?_ h (fun h=>Bool.noConfusion h) hK
  ·refine hst.turn (drewG_ro hst.heap.tags _) (fun i hi=>drewG_same hst.heap.tags _ hi) (.inl (hk0 _)) hobj ?_
   intro b hb
   simp only [newG] at hb
   split at hb
   ·rename_i he;subst he;simp
   ·have:=hst.heap.tags b hb;simp;omega
  ·exact drewG_ext hst.heap.tags _
  ·simp only [newG]
   by_cases he:b=w.heap.size
   ·right;exact ⟨[],by simp [he]⟩
   ·left;simp [he]
  ·exact VOK_ref (u:=t1) (l:=l++m) (by simp [St.setObj,upd_same]) (by simp [newG]) rfl
 ·have hle:l.length+m.length≤cap:=by omega
  rcases hrow with ⟨rfl,hl,rfl⟩ | ⟨bk,off,cc,ee,rfl,htag,hcell,hsz,hel⟩
  ·subst hl
   have hm:m=[]:=List.eq_nil_of_length_eq_zero (by simpa using hle)
   subst hm
   have hrun:=run_append_op (P:=P) (v:=.slice none 0 0) (w':=w) ho hargs htys (fun ty=>by rw [hvx];exact run_append_none (ty:=ty) hund hinf hus htail)
   refine wp_done (g:=g) (base:=base) (σ':=σ.setObj id (.row t1 ([]++[]) (e+1))) (g':=svG g id (.slice none 0 0)) hrun ?_ ?_ (fun n hn hfn=>⟨Fresh.turn (g:=g) (fun b=>.inl rfl) (hids n hfn) (by simp) hfn,hfr n hfn⟩) rfl ?_ h (fun h=>Bool.noConfusion h) hK
   ·refine hst.turn ⟨fun b hb=>⟨hb,rfl⟩⟩ (fun i hi=>svG_same hi) (.inl (hk0 _)) ?_ hst.heap.tags
    exact ⟨hro,none,0,by simp [svG],by simp [svG],Nat.le_refl _,Nat.zero_le _,.inl ⟨rfl,rfl,rfl⟩⟩
   ·exact ⟨rfl,rfl,rfl,Nat.le_refl _,Nat.le_refl _,fun b _ _=>⟨rfl,rfl⟩⟩
   ·exact VOK_ref (u:=t1) (l:=([]++[]:List t1.den)) (by simp [St.setObj,upd_same]) (by simp [svG]) rfl
  ·have hrun:=run_append_op (P:=P) ho hargs htys (fun ty=>by rw [hvx];exact run_append_here (ty:=ty) hund hinf hus hcell htail hle hsz)
   have hnl:=htail.length
   have hmul:(l.length+m.length)*t1.size≤cap*t1.size:=Nat.mul_le_mul_right _ hle
   rw [Nat.add_mul] at hmul
   have hcc:cc.toList.length=cc.size:=Array.length_toList
   have hro':RoKept w g (w.setRow bk (splice cc.toList (off+l.length*t1.size) news).toArray) (svG g id (.slice (some ⟨bk,off,none⟩) (l.length+m.length) cap)):=by
    refine ⟨fun b hb=>⟨hb,setRow_other w bk b _ ?_⟩⟩
    intro he;subst he;rw [htag] at hb;simp at hb
   refine wp_done (g:=g) (base:=base) (σ':=σ.setObj id (.row t1 (l++m) (e+1))) (g':=svG g id (.slice (some ⟨bk,off,none⟩) (l.length+m.length) cap)) hrun ?_ ?_ (fun n hn hfn=>⟨Fresh.turn (g:=g) (fun b=>.inl rfl) (hids n hfn) (by simp) hfn,hfr n hfn⟩) rfl ?_ h (fun h=>Bool.noConfusion h) hK
   ·refine hst.turn hro' (fun i hi=>?_) (.inl (hk0 _)) ?_ ?_
    ·refine ⟨⟨fun q=>by simp [svG,hi],fun q b hb=>⟨hb,setRow_other w bk b _ ?_⟩⟩,rfl,fun hb=>⟨hb,setRow_other w bk _ _ ?_⟩⟩
     ·intro he;subst he;rw [htag] at hb;simp only [Tag.row.injEq] at hb;exact hi hb.1.symm
     ·intro he;rw [he,htag] at hb;simp at hb
    ·refine ⟨hro,some ⟨bk,off,none⟩,cap,by simp [svG],by simp [svG],by simpa using hle,hcm,.inr ⟨bk,off,_,ee,rfl,htag,setRow_heap w bk cc _ ee _ hcell,?_,fun i hi=>?_⟩⟩
     ·rw [List.size_toArray,splice_length _ _ _ (by omega),hcc];exact hsz
     ·refine Rep.anyOwn hro (o:=none) ?_
      exact row_here (id:=id) hro htail hle hsz hcell hel hro' i hi
    ·intro b hb
     have:=hst.heap.tags b hb
     simpa [World.setRow] using this
   ·refine ⟨rfl,rfl,rfl,Nat.le_refl _,by simp [World.setRow],fun b _ hb=>⟨setRow_other w bk b _ ?_,rfl⟩⟩
    intro he;subst he;rw [htag] at hb;simp at hb
   ·exact VOK_ref (u:=t1) (l:=l++m) (by simp [St.setObj,upd_same]) (by simp [svG]) rfl
theorem svG_turn {id:Nat} {t:Ty} {l l':List t.den} {e e':Nat} {v:Value} (hst:StOK c.ntmps g w a σ) (hobj:σ.objs id=some (.row t l e)) (he:e < e')
  (hok:ObjOK w (svG g id v) (σ.setObj id (.row t l' e')).objs id (.row t l' e')) :
  StOK c.ntmps (svG g id v) w a (σ.setObj id (.row t l' e'))∧Ext w g w (svG g id v)∧∀ m,Fresh g σ m→Fresh (svG g id v) (σ.setObj id (.row t l' e')) m:=by
 refine ⟨hst.turn ⟨fun b hb=>⟨hb,rfl⟩⟩ (fun i hi=>svG_same hi) (.inl (.inr (.inl ⟨t,l,l',e,e',hobj,rfl,.inl he⟩))) hok hst.heap.tags,⟨rfl,rfl,rfl,Nat.le_refl _,Nat.le_refl _,fun b _ _=>⟨rfl,rfl⟩⟩,fun m hm=>?_⟩
 refine Fresh.turn (g:=g) (fun b=>.inl rfl) ?_ (by simp) hm
 intro heq;subst heq
 have:=hm.objs;rw [hobj] at this;simp at this
theorem resize_ok {id:Nat} {t:Ty} {l:List t.den} {e e':Nat} {p q:Int} (hst:StOK c.ntmps g w a σ) (hobj:σ.objs id=some (.row t l e)) (h0:0≤p) (hpq:p≤q) (hq:q≤(l.length:Int)) (he:e < e') :
  StOK c.ntmps (svG g id (subSlice (g.sv id []) t.size p q)) w a (σ.setObj id (.row t (sub l p q) e'))∧Ext w g w (svG g id (subSlice (g.sv id []) t.size p q))∧
   ∀ m,Fresh g σ m→Fresh (svG g id (subSlice (g.sv id []) t.size p q)) (σ.setObj id (.row t (sub l p q) e')) m:=by
 refine svG_turn hst hobj he ?_
 obtain ⟨hro,ad,cap,_,hsv,hlc,hcm,hrow⟩:=hst.heap.objs _ _ hobj
 have hlen:(sub l p q).length=(q-p).toNat:=by rw [sub_length l p q h0 hpq hq];omega
 have hv:subSlice (g.sv id []) t.size p q = .slice (if cap-p.toNat=0 then ad else ad.map (·.add (p.toNat*t.size))) (sub l p q).length (cap-p.toNat):=by rw [hsv,hlen];rfl
 refine ⟨hro,_,_,by simp only [svG,if_true];exact congrArg (fun v=>[v]) hv,by simp only [svG,if_true];exact hv,by rw [hlen];omega,by omega,?_⟩
 rcases hrow with ⟨rfl,hl,rfl⟩ | ⟨b,off,c',ee,rfl,htag,hcell,hsz,hel⟩
 ·left
  refine ⟨by simp,?_,by simp⟩
  rw [hl] at hq
  simp only [List.length_nil] at hq
  exact List.eq_nil_of_length_eq_zero (by rw [hlen];omega)
 ·right
  have hmul:cap*t.size=(cap-p.toNat)*t.size+p.toNat*t.size:=by rw [←Nat.add_mul];congr 1;omega
  by_cases hz:cap-p.toNat=0
  ·refine ⟨b,off,c',ee,by rw [if_pos hz],htag,hcell,by rw [hz];omega,fun i hi=>?_⟩
   exfalso
   have:i < (sub l p q).length:=hi
   omega
  ·refine ⟨b,off+p.toNat*t.size,c',ee,?_,htag,hcell,by omega,fun i hi=>?_⟩
   ·rw [if_neg hz]
    simp only [Option.map_some,Addr.add_lit]
   ·have hi':i < (sub l p q).length:=hi
    have hi3:p.toNat+i < l.length:=by omega
    have:=Rep.anyOwn (o':=none) hro (hel (p.toNat+i) hi3)
    have hg:=sub_get l p q i hi' hi3
    refine Rep.anyOwn hro (o:=none) ?_
    have e1:off+p.toNat*t.size+i*t.size=off+(p.toNat+i)*t.size:=by rw [Nat.add_mul];omega
    rw [e1]
    have h2:(sub l p q).get ⟨i,hi'⟩=l.get ⟨p.toNat+i,hi3⟩:=hg
    show Rep w _ none t ((sub l p q).get ⟨i,hi'⟩) _
    rw [h2]
    exact Rep.kept (show RoKept w g w (svG g id (subSlice (g.sv id []) t.size p q)) from ⟨fun b hb=>⟨hb,rfl⟩⟩) this
theorem Post.pre {n:Nat} {g0:Ghost} {σ0:St} (h:Post n k r g w σ base mo K) (he:Ext w g w g0) (hf:∀ m,Fresh g σ m→Fresh g0 σ0 m) (hn:σ0.next=σ.next):Post n k r g0 w σ0 base mo K:=
 fun σ' g' a' w' hk hst hext hfr hnx hag=>h σ' g' a' w' hk hst (he.trans hext) (fun m hm hfm=>hfr m hm (hf m hfm)) (hnx.trans hn) hag
theorem Post.pre' {n:Nat} {g0:Ghost} {σ0:St} (h:Post n k r g w σ base mo K) (he:Ext w g w g0) (hf:∀ m,(m < base∨base+8≤m)→Fresh g σ m→Fresh g0 σ0 m) (hn:σ0.next=σ.next):Post n k r g0 w σ0 base mo K:=
 fun σ' g' a' w' hk hst hext hfr hnx hag=>h σ' g' a' w' hk hst (he.trans hext) (fun m hm hfm=>hfr m hm (hf m hm hfm)) (hnx.trans hn) hag
theorem Tail.congr {g':Ghost} {t:Ty} {x:Value} {m:List t.den} {news:List Value} (h:Tail P w g t x m news) (hr:RoKept w g w g'):Tail P w g' t x m news:=
 ⟨h.len,h.cells,h.pre,h.length,fun i hi=>(h.elts i hi).kept hr,h.one⟩
theorem setObj_setObj (σ:St) (i:Nat) (x y:Obj):(σ.setObj i x).setObj i y=σ.setObj i y:=by
 simp only [St.setObj,St.mk.injEq,true_and,and_true]
 funext j
 simp only [upd]
 cases Nat.beq j i <;> rfl
theorem op_append (htt:TtOK P c.tt) {args:Array Operand} {ts:Array TypeId} (ho:o.op = .call { callee:=.builtin .append,args:=args,argTypes:=ts })
  (hst:StOK c.ntmps g w a σ) (hf:Fresh g σ base) (h:opK0 c σ base o k=some r) (hK:Post c.ntmps k r g w σ base true K):o.wp P a w K Q:=by
 simp only [opK0,ho] at h
 split at h
 ·rename_i x y t t' hargs htys
  split at h
  ·rename_i av bv ot u hx hy htt'
   cases hb:Nat.beq t t' with
   | false=>rw [hb] at h;simp at h
   | true=>
    rw [hb] at h
    have htq:=Nat.eq_of_beq_eq_true hb
    subst htq
    simp only [cond_true] at h
    have hT:=htt _ _ htt'
    simp only [TyOK] at hT
    obtain ⟨⟨E,hund,hE⟩,_⟩:=hT
    have hinf:=hE.info
    obtain ⟨ex,efx⟩:=ev_ok hst hx
    obtain ⟨ey,efy⟩:=ev_ok hst hy
    unfold appendK at h
    split at h
    ·-- nil
     have hv:=VOK_nil.1 ex
     split at h
     ·rename_i t1 _
      cases hbs:t1.sk.same u.sk with
      | false=>rw [hbs] at h;simp at h
      | true=>
       rw [hbs] at h
       simp only [cond_true] at h
       have hsk:=Sk.same_eq hbs
       have hus:u.size=t1.size:=by rw [←Ty.sk_size,←Ty.sk_size,hsk]
       obtain ⟨hro,hval,h,hnv⟩:=tailK_some h
       obtain ⟨m,news,h,htail⟩:=tail_ok (P:=P) hst.heap hro ey h hval hnv
       obtain ⟨hrm,h⟩:=chk_some h
       have hrm:=of_decide_eq_true hrm
       unfold room at hrm
       by_cases hm:m=[]
       ·subst hm
        have hrun:=run_append_op (P:=P) (v:=.slice none 0 0) (w':=w) ho hargs htys (fun ty=>by rw [hv];exact run_append_none (ty:=ty) hund hinf hus htail)
        refine wp_done (g:=g) (base:=base) (σ':=σ.setObj base (.row t1 [] 1)) (g':=svG g base (.slice none 0 0)) hrun ?_ ?_ (fun n hn hfn=>⟨Fresh.turn (g:=g) (fun b=>.inl rfl) (by omega) (by simp) hfn,by simp [AVal.ids];omega⟩) rfl ?_ h (fun h=>Bool.noConfusion h) hK
        ·refine hst.turn ⟨fun b hb=>⟨hb,rfl⟩⟩ (fun i hi=>svG_same hi) (.inr hf) ?_ hst.heap.tags
         exact ⟨hro,none,0,by simp [svG],by simp [svG],Nat.le_refl _,Nat.zero_le _,.inl ⟨rfl,rfl,rfl⟩⟩
        ·exact ⟨rfl,rfl,rfl,Nat.le_refl _,Nat.le_refl _,fun b _ _=>⟨rfl,rfl⟩⟩
        ·exact VOK_ref (u:=t1) (l:=[]) (by simp [St.setObj,upd_same]) (by simp [svG]) rfl
       ·have hpos:0 < m.length:=List.length_pos_iff.2 hm
        obtain ⟨cells,cap',hrun',hobj⟩:=append_more (P:=P) (ty:=0) (b:=none) (cap:=0) (l:=([]:List t1.den)) hund hinf hus hst.heap.tags hro Tail.of_nil htail (by simpa using hpos) (by simpa using hrm) (σ.setObj base (.row t1 m 1)).objs base 1
        simp only [List.length_nil,Nat.zero_add,List.nil_append] at hrun' hobj
        have hrun:=run_append_op (P:=P) ho hargs htys (fun ty=>by rw [hv];exact hrun')
        refine wp_done (g:=g) (base:=base) (σ':=σ.setObj base (.row t1 m 1)) (g':=newG g w.heap.size base (.row base []) (.slice (some ⟨w.heap.size,0,none⟩) m.length cap')) hrun ?_ ?_ (fun n hn hfn=>⟨Fresh.turn (g:=g) (fun b=>?_) (by omega) (by simp) hfn,by simp [AVal.ids];omega⟩) rfl ?_ h (fun h=>Bool.noConfusion h) hK
        ·refine hst.turn (drewG_ro hst.heap.tags _) (fun i hi=>drewG_same hst.heap.tags _ hi) (.inr hf) hobj ?_
         intro b hb
         simp only [newG] at hb
         split at hb
         ·rename_i he;subst he;simp
         ·have:=hst.heap.tags b hb;simp;omega
        ·exact drewG_ext hst.heap.tags _
        ·simp only [newG]
         by_cases he:b=w.heap.size
         ·right;exact ⟨[],by simp [he]⟩
         ·left;simp [he]
        ·exact VOK_ref (u:=t1) (l:=m) (by simp [St.setObj,upd_same]) (by simp [newG]) rfl
     ·simp at h
    ·-- an owned row
     rename_i id ep
     split at h
     ·rename_i t1 l e hobj0
      cases hbs:(Nat.beq e ep && t1.sk.same u.sk) with
      | false=>rw [hbs] at h;simp at h
      | true=>
       rw [hbs] at h
       simp only [cond_true] at h
       simp only [Bool.and_eq_true] at hbs
       have hee:=Nat.eq_of_beq_eq_true hbs.1
       subst hee
       have hsk:=Sk.same_eq hbs.2
       have hus:u.size=t1.size:=by rw [←Ty.sk_size,←Ty.sk_size,hsk]
       obtain ⟨hro,hval,h,hnv⟩:=tailK_some h
       obtain ⟨m,news,h,htail⟩:=tail_ok (P:=P) hst.heap hro ey h hval hnv
       obtain ⟨hrm,h⟩:=chk_some h
       have hrm:=of_decide_eq_true hrm
       unfold room at hrm
       simp only [VOK] at ex
       obtain ⟨cs,⟨v,rfl,hone,hv⟩,hv'⟩:=ex
       have e1:=(hv _ _ _ hobj0).2 rfl
       exact append_own ho hargs htys hund hinf hus hst hobj0 (by rw [←e1];exact hv') hro htail hrm h hK
     ·simp at h
    ·-- a part of an owned row
     rename_i id ep pa pb
     split at h
     ·rename_i t1 l e hobj0
      cases hbs:(Nat.beq e ep && t1.sk.same u.sk) with
      | false=>rw [hbs] at h;simp at h
      | true=>
       rw [hbs] at h
       simp only [cond_true] at h
       simp only [Bool.and_eq_true] at hbs
       have hee:=Nat.eq_of_beq_eq_true hbs.1
       subst hee
       have hsk:=Sk.same_eq hbs.2
       have hus:u.size=t1.size:=by rw [←Ty.sk_size,←Ty.sk_size,hsk]
       obtain ⟨hro,hval,h,hnv⟩:=tailK_some h
       obtain ⟨m,news,h,htail⟩:=tail_ok (P:=P) hst.heap hro ey h hval hnv
       obtain ⟨hrm,h⟩:=chk_some h
       have hrm:=of_decide_eq_true hrm
       unfold room at hrm
       simp only [VOK] at ex
       obtain ⟨cs,⟨v,rfl,hone,hv⟩,hv'⟩:=ex
       obtain ⟨_,h0,hab,hbl,e1⟩:=(hv _ _ _ hobj0).2 rfl
       obtain ⟨hst1,hext1,hfr1⟩:=resize_ok (e':=e+1) hst hobj0 h0 hab hbl (Nat.lt_succ_self _)
       refine append_own (id:=id) (e:=e+1) (l:=sub l pa pb) ho hargs htys hund hinf hus hst1 (by simp [St.setObj,upd_same]) ?_ hro (htail.congr ⟨fun b hb=>⟨hb,rfl⟩⟩) hrm (by rw [setObj_setObj];exact h) (hK.pre hext1 hfr1 rfl)
       rw [hv']
       simp only [svG,if_true]
       exact e1
     ·simp at h
    ·-- one of the rows of a row of rows
     rename_i id q0 p0 ep
     split at h
     ·rename_i t1 l0 e0 i0 hobj0
      cases hb0:Nat.beq i0 ep with
      | false=>rw [hb0] at h;simp at h
      | true=>
       rw [hb0] at h
       have hee:=Nat.eq_of_beq_eq_true hb0
       subst hee
       simp only [cond_true] at h
       have hwhole:Rep w g (some (id,[])) (.sl true t1) l0 [g.sv id []]:=hst.heap.objs id _ hobj0
       obtain ⟨U,X,_,_,_,_,_,hk1,_,_,htu,_,_,_,_⟩:=nest_get hwhole h
       obtain ⟨U',X',hk1',hget⟩:=getK_at _ _ _ h
       split at hk1'
       ·rename_i v l1
        cases hbs:v.sk.same u.sk with
        | false=>rw [hbs] at hk1';simp at hk1'
        | true=>
         rw [hbs] at hk1'
         simp only [cond_true] at hk1'
         have hsk:=Sk.same_eq hbs
         have hus:u.size=v.size:=by rw [←Ty.sk_size,←Ty.sk_size,hsk]
         obtain ⟨hro,hval,hk1',hnv⟩:=tailK_some hk1'
         obtain ⟨m,news,hk1',htail⟩:=tail_ok (P:=P) hst.heap hro ey hk1' hval hnv
         obtain ⟨hrm,hk1'⟩:=chk_some hk1'
         have hrm:=of_decide_eq_true hrm
         unfold room at hrm
         have htyR:tyR t1 (q0 :: p0)=some v:=by
          have hg:getK (.sl true t1) l0 (q0 :: p0) (fun u x=>some (⟨u,x⟩:(u:Ty)×u.den))=some ⟨.sl true v,l1⟩:=hget _ _
          obtain ⟨U2,X2,_,_,_,_,_,hk2,_,_,htu2,_,_,_,_⟩:=nest_get hwhole hg
          simp only [Option.some.injEq,Sigma.mk.injEq] at hk2
          obtain ⟨rfl,_⟩:=hk2
          have:=tyU_Q htu2
          cases q0 with
          | fst=>simp [tyQ] at this
          | snd=>simp [tyQ] at this
          | idx j0=>simpa [tyR,tyQ] using this
         simp only [VOK] at ex
         obtain ⟨cs,⟨vv,rfl,hone,hv⟩,hv'⟩:=ex
         have e1:=((hv _ _ _ _ _ hobj0).2 rfl).1 rfl
         obtain ⟨hst1,hext1,hfr1,hsv1,hro1⟩:=out_ok hst hf hobj0 hro htyR hget
         refine append_own (id:=base) (e:=0) (l:=l1) ho hargs htys hund hinf hus hst1 (by simp [St.setObj,upd_same]) ?_ hro (htail.congr hro1) hrm (by rw [setObj_setObj];exact hk1') (hK.pre' hext1 (fun m hm=>hfr1 m (by omega)) rfl)
         rw [hsv1]
         exact (hv'.trans e1)
       ·simp at hk1'
     ·simp at h
    ·simp at h
  ·simp at h
 ·simp at h
end
end Go.Kz
namespace Go.Kz
variable {R:Type}
def Runs (P:Program) (f:FuncId) (vals:Array Value) (w:World) (R:Value→World→Prop):Prop:=
 ((callFunc f vals).run P w = .ok (.enter f vals) w∧Calls P f vals w fun e w'=>∃ v,e = .returned v∧R v w')∨
 ∃ v w',(callFunc f vals).run P w = .ok (.value v) w'∧R v w'
def RoArgs (w:World) (g:Ghost):(p:APat)→p.den→List Value→Prop
 | .pr (.val t) q,(x,y),v :: vs=>t.isRo=true∧(∃ cs,Rep w g none t x cs∧v=mkV t.sk.isAgg cs)∧RoArgs w g q y vs
 | .un,_,[]=>True
 | _,_,_=>False
def ResOK (w:World) (g:Ghost) (x:AVal×List Obj) (v:Value):Prop:=HeapOK w g (nthL x.2)∧VOK w g (nthL x.2) x.1 v
def CalleeOK (P:Program) (f:FuncId):Callee→Prop
 | .pure p res F=>∀ w g d vals r,(∀ b,g.tag b≠.alien→g.tag b = .ro∧b < w.heap.size)→Known w g→RoArgs w g p d vals→F d=some r→
   Runs P f vals.toArray w fun v w'=>∃ g',Ext w g w' g'∧ResOK w' g' (exposeRes res r 0) v
 | .mut fin anch fout F=>∀ w g d (vals:List Value) r,vals.length=fin.slots.length→StOK vals.length g w ⟨vals.toArray,[]⟩ (St.of (slMk fin.slots d.1) (osMk fin.objs d.2))→
   (∀ m,fin.objs.length≤m→Fresh g (St.of (slMk fin.slots d.1) (osMk fin.objs d.2)) m)→F d=some r→
   Runs P f vals.toArray w fun v w'=>∃ g',Ext w g w' g'∧HeapOK w' g' (nthL (osMk fout.objs r.2))∧
    (∀ k i av,nthL anch k=some i→nthL ((slMk fout.slots r.1).map Prod.snd) k=some av→∃ u,vals[i]? = some u∧VOK w' g' (nthL (osMk fout.objs r.2)) av u)∧
    VOK w' g' (nthL (osMk fout.objs r.2)) (resVal (dropN anch.length ((slMk fout.slots r.1).map Prod.snd))) v
def EnvOK (P:Program) (env:Nat→List Callee):Prop:=∀ f c,c∈env f→CalleeOK P f c
def mergeG (g gc:Ghost) (n len size:Nat):Ghost where
 tag:=fun b=>if b < size then g.tag b else match gc.tag b with
  | .row i p=>if i < len then .row (n+i) p else .alien
  | .box i=>if i < len then .box (n+i) else .alien
  | t=>t
 sv:=fun i p=>if n≤i∧i < n+len then gc.sv (i-n) p else g.sv i p
 blk:=fun i=>if n≤i∧i < n+len then gc.blk (i-n) else g.blk i
theorem addObjs_objs:(os:List Obj)→(σ:St)→(n id:Nat)→(σ.addObjs n os).objs id=if n≤id∧id < n+os.length then nthL os (id-n) else σ.objs id
 | [],σ,n,id=>by simp [St.addObjs];intro h1 h2;omega
 | o :: os,σ,n,id=>by
  simp only [St.addObjs,addObjs_objs os,List.length_cons]
  by_cases h1:id=n
  ·subst h1
   rw [if_neg (by omega),if_pos (by omega)]
   simp only [St.setObj,upd_same,Nat.sub_self,nthL]
  ·by_cases h2:n+1≤id∧id < n+1+os.length
   ·rw [if_pos h2,if_pos (by omega)]
    obtain ⟨j,rfl⟩:∃ j,id=n+1+j:=⟨id-(n+1),by omega⟩
    have e1:n+1+j-(n+1)=j:=by omega
    have e2:n+1+j-n=j+1:=by omega
    rw [e1,e2];rfl
   ·rw [if_neg h2,if_neg (by omega)]
    simp only [St.setObj];rw [upd_other _ _ h1]
theorem addObjs_slots:(os:List Obj)→(σ:St)→(n:Nat)→(σ.addObjs n os).slots=σ.slots
 | [],_,_=>rfl
 | _ :: os,σ,n=>by simp only [St.addObjs];rw [addObjs_slots os];rfl
theorem addObjs_next:(os:List Obj)→(σ:St)→(n:Nat)→(σ.addObjs n os).next=σ.next
 | [],_,_=>rfl
 | _ :: os,σ,n=>by simp only [St.addObjs];rw [addObjs_next os];rfl
theorem Rep.noSl {w w':World} {g g':Ghost}:{o o':Own}→{t:Ty}→{d:t.den}→{cs:List Value}→t.noSl=true→Rep w g o t d cs→Rep w' g' o' t d cs
 | _,_,.int _,_,_,_,h=>h
 | _,_,.bool,_,_,_,h=>h
 | _,_,.str,_,_,_,h=>h
 | _,_,.unit,_,_,_,h=>h
 | _,_,.pair a b,(x,y),_,ht,h=>by
  obtain ⟨c1,c2,rfl,h1,h2⟩:=h
  simp only [Ty.noSl,Bool.and_eq_true] at ht
  exact ⟨c1,c2,rfl,Rep.noSl ht.1 h1,Rep.noSl ht.2 h2⟩
 | _,_,.arr n t,_,_,ht,h=>⟨h.1,h.2.1,fun i hi=>Rep.noSl (by simpa [Ty.noSl] using ht) (h.2.2 i hi)⟩
 | _,_,.sl _ _,_,_,ht,_=>by simp [Ty.noSl] at ht
 | _,_,.ptr _,_,_,ht,_=>by simp [Ty.noSl] at ht
 | _,_,.fn _ _,_,_,ht,_=>by simp [Ty.noSl] at ht
theorem flat_ro:{t:Ty}→t.flat=true→t.isRo=true→t.noSl=true
 | .int _,_,_=>rfl
 | .bool,_,_=>rfl
 | .str,_,_=>rfl
 | .unit,_,_=>rfl
 | .pair a b,h,k=>by
  simp only [Ty.flat,Bool.and_eq_true] at h
  simp only [Ty.isRo,Bool.and_eq_true] at k
  simp only [Ty.noSl,flat_ro h.1 k.1,flat_ro h.2 k.2,Bool.and_self]
 | .arr _ t,h,_=>h
 | .sl true t,_,k=>by simp [Ty.isRo] at k
 | .sl false t,h,_=>by simp [Ty.flat,Ty.noSl] at h
 | .ptr _,h,_=>by simp [Ty.flat,Ty.noSl] at h
 | .fn _ _,h,_=>by simp [Ty.flat,Ty.noSl] at h
def Carry (w:World) (g g':Ghost) (t:Ty):Prop:=RoKept w g w g'∨t.flat=true
theorem Carry.rep {w:World} {g g':Ghost} {t:Ty} (h:Carry w g g' t) (ht:t.isRo=true) {d:t.den} {cs:List Value} (hr:Rep w g none t d cs):Rep w g' none t d cs:=by
 rcases h with h | h
 ·exact hr.kept h
 ·exact Rep.noSl (flat_ro h ht) hr
theorem Carry.row {w:World} {g g':Ghost} {t:Ty} (h:Carry w g g' (.sl true t)) {l:List t.den} {i j:Nat} (hm:Moved w g w g' i [] j []) {v:Value} (hr:Rep w g (some (i,[])) (.sl true t) l [v]) :
  Rep w g' (some (j,[])) (.sl true t) l [v]:=by
 rcases h with h | h
 ·exact Rep.move h (o:=some (i,[])) (o':=some (j,[])) hm hr
 ·obtain ⟨a,cap,hv,h0,h1,h2,h3⟩:=hr
  have hsv:=hm.sv []
  simp only [List.append_nil] at hsv
  refine ⟨a,cap,hv,hsv.trans h0,h1,h2,?_⟩
  rcases h3 with h3 | ⟨b,off,c,e,ha,ht,hb,hs,he⟩
  ·exact .inl h3
  ·have hk:=hm.blk [] b (by simpa using ht)
   simp only [List.append_nil] at hk
   exact .inr ⟨b,off,c,e,ha,hk.1,hb,hs,fun i hi=>Rep.noSl h (he i hi)⟩
theorem expose_objs:(t:Ty)→(d:t.den)→(n m:Nat)→(expose t d n).2=(expose t d m).2∧(expose.exposeC t d n).2=(expose.exposeC t d m).2
 | .sl true t,l,n,m=>⟨rfl,rfl⟩
 | .sl false t,l,n,m=>⟨rfl,rfl⟩
 | .int _,_,_,_=>⟨rfl,rfl⟩
 | .bool,_,_,_=>⟨rfl,rfl⟩
 | .str,_,_,_=>⟨rfl,rfl⟩
 | .unit,_,_,_=>⟨rfl,rfl⟩
 | .arr _ _,_,_,_=>⟨rfl,rfl⟩
 | .ptr _,_,_,_=>⟨rfl,rfl⟩
 | .fn _ _,_,_,_=>⟨rfl,rfl⟩
 | .pair a b,(x,y),n,m=>by
  have ha:=(expose_objs a x n m).1
  have hb:=fun n m=>(expose_objs b y n m).2
  have e2:(expose.exposeC (.pair a b) (x,y) n).2=(expose.exposeC (.pair a b) (x,y) m).2:=by
   simp only [expose.exposeC]
   rw [ha,hb _ (m+(expose a x m).2.length)]
  refine ⟨?_,e2⟩
  simp only [expose]
  cases (Ty.pair a b).isRo
  ·simp only [cond_false]
   rw [ha,hb _ (m+(expose a x m).2.length)]
  ·rfl
theorem expose_rows:(t:Ty)→(d:t.den)→(n:Nat)→(∀ o∈(expose t d n).2,∃ u l,o=Obj.row u l 0∧(t.flat=true→u.noSl=true))∧
  (∀ o∈(expose.exposeC t d n).2,∃ u l,o=Obj.row u l 0∧(t.flat=true→u.noSl=true))
 | .sl true t,l,n=>⟨by intro o ho;simp only [expose,List.mem_singleton] at ho;exact ⟨t,l,ho,fun h=>h⟩,by simp [expose.exposeC]⟩
 | .sl false t,l,n=>⟨by simp [expose],by simp [expose.exposeC]⟩
 | .int _,_,_=>⟨by simp [expose],by simp [expose.exposeC]⟩
 | .bool,_,_=>⟨by simp [expose],by simp [expose.exposeC]⟩
 | .str,_,_=>⟨by simp [expose],by simp [expose.exposeC]⟩
 | .unit,_,_=>⟨by simp [expose],by simp [expose.exposeC]⟩
 | .arr _ _,_,_=>⟨by simp [expose],by simp [expose.exposeC]⟩
 | .ptr _,_,_=>⟨by simp [expose],by simp [expose.exposeC]⟩
 | .fn _ _,_,_=>⟨by simp [expose],by simp [expose.exposeC]⟩
 | .pair a b,(x,y),n=>by
  have ha:=fun n=>(expose_rows a x n).1
  have hb:=fun n=>(expose_rows b y n).2
  have e2:∀ o∈(expose.exposeC (.pair a b) (x,y) n).2,∃ u l,o=Obj.row u l 0∧((Ty.pair a b).flat=true→u.noSl=true):=by
   intro o ho
   simp only [expose.exposeC,List.mem_append] at ho
   rcases ho with ho | ho
   ·obtain ⟨u,l,h1,h2⟩:=ha _ o ho
    exact ⟨u,l,h1,fun h=>h2 (by simp only [Ty.flat,Bool.and_eq_true] at h;exact h.1)⟩
   ·obtain ⟨u,l,h1,h2⟩:=hb _ o ho
    exact ⟨u,l,h1,fun h=>h2 (by simp only [Ty.flat,Bool.and_eq_true] at h;exact h.2)⟩
  refine ⟨?_,e2⟩
  intro o ho
  simp only [expose] at ho
  cases hr:(Ty.pair a b).isRo with
  | true=>rw [hr] at ho;simp at ho
  | false=>
   rw [hr] at ho
   exact e2 o ho
structure Shift (gc g:Ghost) (n len:Nat) (oc o:Objs):Prop where
 objs:∀ i,i < len→o (n+i)=oc i
 sv:∀ i p,i < len→g.sv (n+i) p=gc.sv i p
theorem Carry.left {w:World} {g g':Ghost} {a b:Ty} (h:Carry w g g' (.pair a b)):Carry w g g' a:=by
 rcases h with h | h
 ·exact .inl h
 ·simp only [Ty.flat,Bool.and_eq_true] at h;exact .inr h.1
theorem Carry.right {w:World} {g g':Ghost} {a b:Ty} (h:Carry w g g' (.pair a b)):Carry w g g' b:=by
 rcases h with h | h
 ·exact .inl h
 ·simp only [Ty.flat,Bool.and_eq_true] at h;exact .inr h.2
theorem expose_aok {w:World} {gc g:Ghost} {n len:Nat} {oc o:Objs} (hs:Shift gc g n len oc o):(t:Ty)→(d:t.den)→(m:Nat)→Carry w gc g t→
  (∀ cs,m+(expose t d m).2.length≤len→AOK w gc oc (expose t d m).1 cs→AOK w g o (expose t d (n+m)).1 cs)∧
  (∀ cs,m+(expose.exposeC t d m).2.length≤len→AOK w gc oc (expose.exposeC t d m).1 cs→AOK w g o (expose.exposeC t d (n+m)).1 cs)
 | .sl true t,l,m,hc=>by
  refine ⟨fun cs hl h=>?_,fun cs _ h=>h⟩
  obtain ⟨v,hv,hone,hx⟩:=h
  have hm:m < len:=by simp only [expose,List.length_singleton] at hl;omega
  refine ⟨v,hv,hone,fun t l e he=>?_⟩
  rw [hs.objs m hm] at he
  obtain ⟨h1,h2⟩:=hx _ _ _ he
  exact ⟨h1,fun h=>by rw [hs.sv m [] hm];exact h2 h⟩
 | .sl false t,l,m,hc=>⟨fun cs _ h=>⟨h.1,hc.rep h.1 h.2⟩,fun cs _ h=>h⟩
 | .int _,_,m,hc=>⟨fun cs _ h=>⟨h.1,hc.rep h.1 h.2⟩,fun cs _ h=>h⟩
 | .bool,_,m,hc=>⟨fun cs _ h=>⟨h.1,hc.rep h.1 h.2⟩,fun cs _ h=>h⟩
 | .str,_,m,hc=>⟨fun cs _ h=>⟨h.1,hc.rep h.1 h.2⟩,fun cs _ h=>h⟩
 | .unit,_,m,hc=>⟨fun cs _ h=>⟨h.1,hc.rep h.1 h.2⟩,fun cs _ h=>h⟩
 | .arr _ _,_,m,hc=>⟨fun cs _ h=>⟨h.1,hc.rep h.1 h.2⟩,fun cs _ h=>h⟩
 | .ptr _,_,m,hc=>⟨fun cs _ h=>⟨h.1,hc.rep h.1 h.2⟩,fun cs _ h=>h⟩
 | .fn _ _,_,m,hc=>⟨fun cs _ h=>⟨h.1,hc.rep h.1 h.2⟩,fun cs _ h=>h⟩
 | .pair a b,(x,y),m,hc=>by
  have ha:=fun m=>(expose_aok hs a x m hc.left).1
  have hb:=fun m=>(expose_aok hs b y m hc.right).2
  have hl:(expose a x (n+m)).2.length=(expose a x m).2.length:=by rw [(expose_objs a x (n+m) m).1]
  have key:∀ cs,m+((expose a x m).2++(expose.exposeC b y (m+(expose a x m).2.length)).2).length≤len→
    (∃ c1 c2,cs=c1++c2∧AOK w gc oc (expose a x m).1 c1∧AOK w gc oc (expose.exposeC b y (m+(expose a x m).2.length)).1 c2)→
    ∃ c1 c2,cs=c1++c2∧AOK w g o (expose a x (n+m)).1 c1∧AOK w g o (expose.exposeC b y (n+m+(expose a x (n+m)).2.length)).1 c2:=by
   intro cs hle ⟨c1,c2,hcs,h1,h2⟩
   rw [List.length_append] at hle
   refine ⟨c1,c2,hcs,ha m c1 (by omega) h1,?_⟩
   rw [hl,Nat.add_assoc]
   exact hb _ c2 (by omega) h2
  refine ⟨fun cs hle h=>?_,fun cs hle h=>key cs (by simpa only [expose.exposeC] using hle) h⟩
  simp only [expose] at hle h ⊢
  cases hr:(Ty.pair a b).isRo with
  | true=>
   rw [hr] at h
   simp only [cond_true] at h ⊢
   exact ⟨h.1,hc.rep h.1 h.2⟩
  | false=>
   rw [hr] at h hle
   simp only [cond_false] at h hle ⊢
   exact key cs hle h
theorem expose_agg:(t:Ty)→(d:t.den)→(n m:Nat)→(expose t d n).1.isAgg=(expose t d m).1.isAgg
 | .sl true t,l,n,m=>rfl
 | .sl false t,l,n,m=>rfl
 | .int _,_,_,_=>rfl
 | .bool,_,_,_=>rfl
 | .str,_,_,_=>rfl
 | .unit,_,_,_=>rfl
 | .arr _ _,_,_,_=>rfl
 | .ptr _,_,_,_=>rfl
 | .fn _ _,_,_,_=>rfl
 | .pair a b,(x,y),n,m=>by
  simp only [expose]
  cases (Ty.pair a b).isRo <;> rfl
theorem expose_form:(t:Ty)→(d:t.den)→(n:Nat)→(∀ x y,(expose t d n).1≠.pr x y)∧(expose t d n).1≠.un∧∀ c,(expose t d n).1≠.tup c
 | .sl true t,l,n=>⟨by simp [expose],by simp [expose],by simp [expose]⟩
 | .sl false t,l,n=>⟨by simp [expose],by simp [expose],by simp [expose]⟩
 | .int _,_,_=>⟨by simp [expose],by simp [expose],by simp [expose]⟩
 | .bool,_,_=>⟨by simp [expose],by simp [expose],by simp [expose]⟩
 | .str,_,_=>⟨by simp [expose],by simp [expose],by simp [expose]⟩
 | .unit,_,_=>⟨by simp [expose],by simp [expose],by simp [expose]⟩
 | .arr _ _,_,_=>⟨by simp [expose],by simp [expose],by simp [expose]⟩
 | .ptr _,_,_=>⟨by simp [expose],by simp [expose],by simp [expose]⟩
 | .fn _ _,_,_=>⟨by simp [expose],by simp [expose],by simp [expose]⟩
 | .pair a b,(x,y),n=>by
  simp only [expose]
  cases (Ty.pair a b).isRo <;> simp
theorem expose_vok {w:World} {gc g:Ghost} {n len:Nat} {oc o:Objs} (hs:Shift gc g n len oc o) (t:Ty) (d:t.den) (m:Nat) (hc:Carry w gc g t) {v:Value}
  (hl:m+(expose t d m).2.length≤len) (h:VOK w gc oc (expose t d m).1 v):VOK w g o (expose t d (n+m)).1 v:=by
 obtain ⟨cs,hok,hv⟩:=VOK_cells h (expose_form t d m).2.2
 exact VOK_of_cells ((expose_aok hs t d m hc).1 cs hl hok) (by rw [hv,expose_agg t d (n+m) m]) (expose_form t d _).1 (expose_form t d _).2.1
theorem expose_ids:(t:Ty)→(d:t.den)→(n:Nat)→(∀ i∈(expose t d n).1.ids,n≤i∧i < n+(expose t d n).2.length)∧(∀ i∈(expose.exposeC t d n).1.ids,n≤i∧i < n+(expose.exposeC t d n).2.length)
 | .sl true t,l,n=>⟨by simp [expose,AVal.ids],by simp [expose.exposeC,AVal.ids]⟩
 | .sl false t,l,n=>⟨by simp [expose,AVal.ids],by simp [expose.exposeC,AVal.ids]⟩
 | .int _,_,_=>⟨by simp [expose,AVal.ids],by simp [expose.exposeC,AVal.ids]⟩
 | .bool,_,_=>⟨by simp [expose,AVal.ids],by simp [expose.exposeC,AVal.ids]⟩
 | .str,_,_=>⟨by simp [expose,AVal.ids],by simp [expose.exposeC,AVal.ids]⟩
 | .unit,_,_=>⟨by simp [expose,AVal.ids],by simp [expose.exposeC,AVal.ids]⟩
 | .arr _ _,_,_=>⟨by simp [expose,AVal.ids],by simp [expose.exposeC,AVal.ids]⟩
 | .ptr _,_,_=>⟨by simp [expose,AVal.ids],by simp [expose.exposeC,AVal.ids]⟩
 | .fn _ _,_,_=>⟨by simp [expose,AVal.ids],by simp [expose.exposeC,AVal.ids]⟩
 | .pair a b,(x,y),n=>by
  have ha:=fun n=>(expose_ids a x n).1
  have hb:=fun n=>(expose_ids b y n).2
  have e2:∀ i∈(expose.exposeC (.pair a b) (x,y) n).1.ids,n≤i∧i < n+(expose.exposeC (.pair a b) (x,y) n).2.length:=by
   intro i hi
   simp only [expose.exposeC,AVal.ids,List.mem_append,List.length_append] at hi ⊢
   rcases hi with hi | hi
   ·have:=ha _ i hi;omega
   ·have:=hb _ i hi;omega
  refine ⟨?_,e2⟩
  intro i hi
  simp only [expose] at hi ⊢
  cases hr:(Ty.pair a b).isRo with
  | true=>rw [hr] at hi;simp [AVal.ids] at hi
  | false=>
   rw [hr] at hi
   rw [cond_false] at hi ⊢;exact e2 i hi
end Go.Kz
namespace Go.Kz
variable {R:Type}
abbrev chain:=exposeRes.chain
theorem chain_objs:(ts:List Ty)→(d:resDen ts)→(n m:Nat)→(chain ts d n).2=(chain ts d m).2
 | [],_,_,_=>rfl
 | [t],d,n,m=>(expose_objs t d n m).1
 | t :: u :: ts,(d,ds),n,m=>by
  simp only [chain,exposeRes.chain]
  rw [(expose_objs t d n m).1]
  congr 1
  exact chain_objs (u :: ts) ds _ _
theorem chain_rows:(ts:List Ty)→(d:resDen ts)→(n:Nat)→∀ o∈(chain ts d n).2,∃ u l,o=Obj.row u l 0∧(flats ts=true→u.noSl=true)
 | [],_,_,o,ho=>by simp [chain,exposeRes.chain] at ho
 | [t],d,n,o,ho=>by
  obtain ⟨u,l,h1,h2⟩:=(expose_rows t d n).1 o ho
  exact ⟨u,l,h1,fun h=>h2 (by simp only [flats,Bool.and_eq_true] at h;exact h.1)⟩
 | t :: u :: ts,(d,ds),n,o,ho=>by
  simp only [chain,exposeRes.chain,List.mem_append] at ho
  rcases ho with ho | ho
  ·obtain ⟨u',l,h1,h2⟩:=(expose_rows t d n).1 o ho
   exact ⟨u',l,h1,fun h=>h2 (by simp only [flats,Bool.and_eq_true] at h;exact h.1)⟩
  ·obtain ⟨u',l,h1,h2⟩:=chain_rows (u :: ts) ds _ o ho
   exact ⟨u',l,h1,fun h=>h2 (by rw [flats,Bool.and_eq_true] at h;exact h.2)⟩
theorem chain_vsok {w:World} {gc g:Ghost} {n len:Nat} {oc o:Objs} (hs:Shift gc g n len oc o):(ts:List Ty)→(d:resDen ts)→(m:Nat)→(∀ t∈ts,Carry w gc g t)→
  ∀ vs,m+(chain ts d m).2.length≤len→VsOK w gc oc (chain ts d m).1 vs→VsOK w g o (chain ts d (n+m)).1 vs
 | [],_,_,_,vs,_,h=>by simpa [chain,exposeRes.chain,VsOK] using h
 | [t],d,m,hc,vs,hl,h=>by
  simp only [chain,exposeRes.chain,VsOK] at hl h ⊢
  obtain ⟨v,r,hv,h1,h2⟩:=h
  exact ⟨v,r,hv,expose_vok hs t d m (hc t (by simp)) hl h1,h2⟩
 | t :: u :: ts,(d,ds),m,hc,vs,hl,h=>by
  simp only [chain,exposeRes.chain,VsOK,List.length_append] at hl h ⊢
  obtain ⟨v,r,hv,h1,h2⟩:=h
  refine ⟨v,r,hv,expose_vok hs t d m (hc t (by simp)) (by omega) h1,?_⟩
  have e:(expose t d (n+m)).2.length=(expose t d m).2.length:=by rw [(expose_objs t d (n+m) m).1]
  rw [e,Nat.add_assoc]
  exact chain_vsok hs (u :: ts) ds _ (fun t ht=>hc t (by simp at ht ⊢;exact .inr ht)) r (by rw [←Nat.add_assoc] at hl;exact hl) h2
theorem chain_ids:(ts:List Ty)→(d:resDen ts)→(n:Nat)→∀ i∈(chain ts d n).1.ids,n≤i∧i < n+(chain ts d n).2.length
 | [],_,_,i,hi=>by simp [chain,exposeRes.chain,AVal.ids] at hi
 | [t],d,n,i,hi=>by
  simp only [chain,exposeRes.chain,AVal.ids,List.append_nil] at hi ⊢
  exact (expose_ids t d n).1 i hi
 | t :: u :: ts,(d,ds),n,i,hi=>by
  simp only [chain,exposeRes.chain,AVal.ids,List.mem_append,List.length_append] at hi ⊢
  rcases hi with hi | hi
  ·have:=(expose_ids t d n).1 i hi;omega
  ·have:=chain_ids (u :: ts) ds _ i hi
   simp only [chain] at this
   omega
theorem res_objs:(ts:List Ty)→(d:resDen ts)→(n m:Nat)→(exposeRes ts d n).2=(exposeRes ts d m).2
 | [],_,_,_=>rfl
 | [t],d,n,m=>(expose_objs t d n m).1
 | t :: u :: ts,(d,ds),n,m=>by
  simp only [exposeRes]
  rw [(expose_objs t d n m).1]
  congr 1
  exact chain_objs (u :: ts) ds _ _
theorem res_rows:(ts:List Ty)→(d:resDen ts)→(n:Nat)→∀ o∈(exposeRes ts d n).2,∃ u l,o=Obj.row u l 0∧(flats ts=true→u.noSl=true)
 | [],_,_,o,ho=>by simp [exposeRes] at ho
 | [t],d,n,o,ho=>chain_rows [t] d n o ho
 | t :: u :: ts,(d,ds),n,o,ho=>chain_rows (t :: u :: ts) (d,ds) n o ho
theorem res_ids:(ts:List Ty)→(d:resDen ts)→(n:Nat)→∀ i∈(exposeRes ts d n).1.ids,n≤i∧i < n+(exposeRes ts d n).2.length
 | [],_,_,i,hi=>by simp [exposeRes,AVal.ids] at hi
 | [t],d,n,i,hi=>(expose_ids t d n).1 i hi
 | t :: u :: ts,(d,ds),n,i,hi=>chain_ids (t :: u :: ts) (d,ds) n i hi
theorem res_vok {w:World} {gc g:Ghost} {n len:Nat} {oc o:Objs} (hs:Shift gc g n len oc o):(ts:List Ty)→(d:resDen ts)→(∀ t∈ts,Carry w gc g t)→
  ∀ v,(exposeRes ts d 0).2.length≤len→VOK w gc oc (exposeRes ts d 0).1 v→VOK w g o (exposeRes ts d n).1 v
 | [],_,_,v,_,h=>by
  simp only [exposeRes,VOK,VsOK] at h ⊢;exact h
 | [t],d,hc,v,hl,h=>expose_vok hs t d 0 (hc t (by simp)) (by simpa [exposeRes] using hl) h
 | t :: u :: ts,(d,ds),hc,v,hl,h=>by
  have h':∃ vs,v = .tuple vs.toArray∧VsOK w gc oc (chain (t :: u :: ts) (d,ds) 0).1 vs:=by
   simpa only [exposeRes,VOK,chain,exposeRes.chain] using h
  obtain ⟨vs,hv,h2⟩:=h'
  have:=chain_vsok hs (t :: u :: ts) (d,ds) 0 hc vs (by rw [Nat.zero_add];exact hl) h2
  show VOK w g o (.tup (chain (t :: u :: ts) (d,ds) n).1) v
  simp only [VOK]
  exact ⟨vs,hv,this⟩
theorem carry_all {w:World} {g g':Ghost} {ts:List Ty} (h:RoKept w g w g'∨flats ts=true):∀ t∈ts,Carry w g g' t:=by
 rcases h with h | h
 ·exact fun _ _=>.inl h
 ·induction ts with
  | nil=>simp
  | cons t ts ih=>
   simp only [flats,Bool.and_eq_true] at h
   intro u hu
   rcases List.mem_cons.1 hu with rfl | hu
   ·exact .inr h.1
   ·exact ih h.2 u hu
theorem nthL_mem {α:Type}:{l:List α}→{i:Nat}→{x:α}→nthL l i=some x→x∈l
 | [],i,x,h=>by cases i <;> simp [nthL] at h
 | y :: l,0,x,h=>by simp only [nthL,Option.some.injEq] at h;simp [h]
 | y :: l,i+1,x,h=>by simp only [nthL] at h;exact List.mem_cons_of_mem _ (nthL_mem h)
theorem nthL_lt {α:Type}:{l:List α}→{i:Nat}→{x:α}→nthL l i=some x→i < l.length
 | [],i,x,h=>by cases i <;> simp [nthL] at h
 | y :: l,0,x,h=>by simp
 | y :: l,i+1,x,h=>by simp only [nthL] at h;have:=nthL_lt h;simp;omega
structure Lent (w:World) (g gl:Ghost):Prop where
 tags:∀ b,gl.tag b≠.alien→gl.tag b = .ro∧b < w.heap.size
section
variable {w w':World} {g gl gc:Ghost} {n len:Nat}
theorem merge_heap (hl:Lent w g gl) (he:Ext w gl w' gc) {b:Nat} (hb:b < w.heap.size):w'.heap[b]? = w.heap[b]?∧gc.tag b=gl.tag b:=by
 refine he.keep b hb ?_
 by_cases h:gl.tag b = .alien
 ·exact .inl h
 ·exact .inr (hl.tags b h).1
theorem merge_ro (hl:Lent w g gl) (he:Ext w gl w' gc) (ht:∀ b,g.tag b≠.alien→b < w.heap.size):RoKept w g w' (mergeG g gc n len w.heap.size):=
 ⟨fun b hb=>by
  have hlt:=ht b (by rw [hb];simp)
  exact ⟨by simp only [mergeG,if_pos hlt];exact hb,(merge_heap hl he hlt).1⟩⟩
theorem merge_same (hl:Lent w g gl) (he:Ext w gl w' gc) (ht:∀ b,g.tag b≠.alien→b < w.heap.size) {id:Nat} (hid:id < n∨n+len≤id):Same w g w' (mergeG g gc n len w.heap.size) id:=by
 refine ⟨⟨fun q=>by simp only [mergeG];rw [if_neg (by omega)],fun q b hb=>?_⟩,by simp only [mergeG];rw [if_neg (by omega)],fun hb=>?_⟩
 ·have hlt:=ht b (by rw [hb];simp)
  exact ⟨by simp only [mergeG,if_pos hlt];exact hb,(merge_heap hl he hlt).1⟩
 ·have hlt:=ht (g.blk id) (by rw [hb];simp)
  exact ⟨by simp only [mergeG,if_pos hlt];exact hb,(merge_heap hl he hlt).1⟩
theorem merge_ext (hl:Lent w g gl) (he:Ext w gl w' gc):Ext w g w' (mergeG g gc n len w.heap.size):=
 ⟨he.os,he.tape,he.output,he.drawn,he.size,fun b hb _=>⟨(merge_heap hl he hb).1,by simp only [mergeG,if_pos hb]⟩⟩
theorem merge_moved (hl:Lent w g gl) (he:Ext w gl w' gc) {i:Nat} (hi:i < len):Moved w' gc w' (mergeG g gc n len w.heap.size) i [] (n+i) []:=by
 refine ⟨fun q=>?_,fun q b hb=>⟨?_,rfl⟩⟩
 ·simp only [mergeG];rw [if_pos (by omega)];congr 1;omega
 ·have hge:¬ b < w.heap.size:=by
   intro hlt
   have:=(merge_heap hl he hlt).2
   rw [hb] at this
   by_cases h:gl.tag b = .alien
   ·rw [h] at this;simp at this
   ·rw [(hl.tags b h).1] at this;simp at this
  simp only [mergeG,if_neg hge,hb,if_pos hi]
theorem merge_st {N:Nat} {a:Act} {σ:St} {ts:List Ty} {d:resDen ts} {v:Value} (hst:StOK N g w a σ) (hl:Lent w g gl) (he:Ext w gl w' gc)
  (hfr:∀ m,n≤m→m < n+8→Fresh g σ m) (hlen:(exposeRes ts d 0).2.length≤8) (hc:RoKept w' gc w' (mergeG g gc n (exposeRes ts d 0).2.length w.heap.size)∨flats ts=true)
  (hres:ResOK w' gc (exposeRes ts d 0) v) :
  let g':=mergeG g gc n (exposeRes ts d 0).2.length w.heap.size
  let σ':=σ.addObjs n (exposeRes ts d n).2
  StOK N g' w' a σ'∧VOK w' g' σ'.objs (exposeRes ts d n).1 v∧(∀ m,(m < n∨n+8≤m)→Fresh g σ m→Fresh g' σ' m∧m∉(exposeRes ts d n).1.ids):=by
 intro g' σ'
 have ht:=hst.heap.tags
 let os:=(exposeRes ts d 0).2
 have hosl:os.length=(exposeRes ts d 0).2.length:=rfl
 have hos:(exposeRes ts d n).2=os:=res_objs ts d n 0
 have hobjs:∀ id,σ'.objs id=if n≤id∧id < n+os.length then nthL os (id-n) else σ.objs id:=by
  intro id;show (σ.addObjs n (exposeRes ts d n).2).objs id=_;rw [addObjs_objs,hos]
 have hslots:σ'.slots=σ.slots:=addObjs_slots _ _ _
 have hro:RoKept w g w' g':=merge_ro hl he ht
 have hkept:∀ id,¬ Fresh g σ id→IdKept g g' id (σ.objs id) (σ'.objs id):=by
  intro id hid
  have hout:id < n∨n+os.length≤id:=by
   by_cases h:n≤id∧id < n+os.length
   ·exact absurd (hfr id h.1 (by omega)) hid
   ·omega
  rw [hobjs,if_neg (by omega)]
  exact IdKept.same (merge_same hl he ht hout)
 have hshift:Shift gc g' n os.length (nthL os) σ'.objs:=by
  refine ⟨fun i hi=>?_,fun i p hi=>?_⟩
  ·rw [hobjs,if_pos (by omega)];congr 1;omega
  ·show (mergeG g gc n os.length w.heap.size).sv (n+i) p=_
   simp only [mergeG];rw [if_pos (by omega)];congr 1;omega
 have hcarry:=carry_all hc
 refine ⟨⟨fun i av hi=>?_,⟨fun id x hx=>?_,fun b hb=>?_⟩,hst.size,hst.defers,hst.known.kept hro⟩,?_,fun m hm hf=>⟨⟨?_,fun b p hb=>?_,fun b hb=>?_,fun i av hi=>?_,fun id av hi=>?_⟩,?_⟩⟩
 ·rw [hslots] at hi
  obtain ⟨u,hu,hok⟩:=hst.slots i av hi
  exact ⟨u,hu,VOK.frame hro (fun id hid=>hkept id (fun hf=>hf.slots i av hi hid)) hok⟩
 ·rw [hobjs] at hx
  by_cases hin:n≤id∧id < n+os.length
  ·rw [if_pos hin] at hx
   obtain ⟨i,rfl⟩:∃ i,id=n+i:=⟨id-n,by omega⟩
   have hi:i < os.length:=by omega
   rw [Nat.add_sub_cancel_left] at hx
   obtain ⟨u,l,hxe,hflat⟩:=res_rows ts d 0 x (nthL_mem hx)
   have hobj:=hres.1.objs i x hx
   subst hxe
   refine ⟨hobj.1,?_⟩
   have hsv:=hshift.sv i [] hi
   rw [hsv]
   have hcr:Carry w' gc g' (.sl true u):=by
    rcases hc with h | h
    ·exact .inl h
    ·exact .inr (by simpa [Ty.flat] using hflat h)
   exact Carry.row hcr (merge_moved hl he hi) hobj.2
  ·rw [if_neg hin] at hx
   refine ObjOK.frame hro (merge_same hl he ht (by omega)) (fun y hy id' hid'=>hkept id' (fun hf=>?_)) (hst.heap.objs id x hx)
   subst hy;exact hf.cells id y hx hid'
 ·have hb':(mergeG g gc n os.length w.heap.size).tag b≠.alien:=hb
  simp only [mergeG] at hb'
  by_cases hlt:b < w.heap.size
  ·have:=he.size;omega
  ·rw [if_neg hlt] at hb'
   refine hres.1.tags b ?_
   intro hal;rw [hal] at hb';simp at hb'
 ·refine res_vok hshift ts d hcarry v (Nat.le_refl _) hres.2
 ·rw [hobjs,if_neg (by omega)];exact hf.objs
 ·have hb':(mergeG g gc n os.length w.heap.size).tag b = .row m p:=hb
  simp only [mergeG] at hb'
  split at hb'
  ·exact hf.row b p hb'
  ·split at hb'
   ·split at hb'
    ·simp only [Tag.row.injEq] at hb';omega
    ·simp at hb'
   ·split at hb' <;> simp at hb'
   ·rename_i h1 _;exact h1 _ _ hb'
 ·have hb':(mergeG g gc n os.length w.heap.size).tag b = .box m:=hb
  simp only [mergeG] at hb'
  split at hb'
  ·exact hf.box b hb'
  ·split at hb'
   ·split at hb' <;> simp at hb'
   ·split at hb'
    ·simp only [Tag.box.injEq] at hb';omega
    ·simp at hb'
   ·rename_i _ h1;exact h1 _ hb'
 ·rw [hslots] at hi;exact hf.slots i av hi
 ·rw [hobjs] at hi
  split at hi
  ·obtain ⟨u,l,hxe,_⟩:=res_rows ts d 0 _ (nthL_mem hi)
   simp at hxe
  ·exact hf.cells id av hi
 ·intro hm'
  have:=res_ids ts d n m hm'
  rw [hos] at this
  omega
end
end Go.Kz
namespace Go.Kz
variable {R:Type}
theorem leaf_vs {w:World} {g:Ghost} {objs:Objs}:{a:AVal}→{cs:List Value}→leafC a=true→AOK w g objs a cs→VsOK w g objs a cs
 | .pr x c,cs,hl,h=>by
  simp only [leafC,Bool.and_eq_true,Bool.not_eq_true'] at hl
  obtain ⟨c1,c2,rfl,h1,h2⟩:=h
  obtain ⟨hag,hn1,hn2,hn3⟩:=val_isAgg hl.1.1
  have hlen:=h1.len
  have hsz:x.sk.size=1:=by
   have:=hl.1.2
   cases hsk:x.sk <;> rw [hsk] at this <;> simp [Sk.isAgg] at this
   rfl
  rw [hsz] at hlen
  obtain ⟨v,rfl⟩:=List.length_eq_one_iff.1 hlen
  simp only [VsOK]
  refine ⟨v,c2,rfl,VOK_of_cells h1 ?_ hn1 hn2,leaf_vs hl.2 h2⟩
  rw [hag,hl.1.2];rfl
 | .un,cs,_,h=>by simp only [VsOK];exact h
 | .data _ _,_,hl,_=>by simp [leafC] at hl
 | .nilS,_,hl,_=>by simp [leafC] at hl
 | .ref _ _ _,_,hl,_=>by simp [leafC] at hl
 | .view _ _ _ _ _,_,hl,_=>by simp [leafC] at hl
 | .bptr _ _,_,hl,_=>by simp [leafC] at hl
 | .eptr _ _ _,_,hl,_=>by simp [leafC] at hl
 | .mref _,_,hl,_=>by simp [leafC] at hl
 | .nv _ _ _ _,_,hl,_=>by simp [leafC] at hl
 | .clos _ _,_,hl,_=>by simp [leafC] at hl
 | .agg _,_,hl,_=>by simp [leafC] at hl
 | .tup _,_,hl,_=>by simp [leafC] at hl
theorem vs_append {w:World} {g:Ghost} {objs:Objs}:{a c:AVal}→{vs us:List Value}→VsOK w g objs a vs→VsOK w g objs c us→VsOK w g objs (appendC a c) (vs++us)
 | .pr x y,c,vs,us,h,k=>by
  simp only [VsOK,appendC] at h ⊢
  obtain ⟨v,r,rfl,h1,h2⟩:=h
  exact ⟨v,r++us,rfl,h1,vs_append h2 k⟩
 | .un,c,vs,us,h,k=>by
  simp only [VsOK] at h
  subst h
  exact k
 | .data _ _,_,_,_,h,_=>by simp [VsOK] at h
 | .nilS,_,_,_,h,_=>by simp [VsOK] at h
 | .ref _ _ _,_,_,_,h,_=>by simp [VsOK] at h
 | .view _ _ _ _ _,_,_,_,h,_=>by simp [VsOK] at h
 | .bptr _ _,_,_,_,h,_=>by simp [VsOK] at h
 | .eptr _ _ _,_,_,_,h,_=>by simp [VsOK] at h
 | .mref _,_,_,_,h,_=>by simp [VsOK] at h
 | .nv _ _ _ _,_,_,_,h,_=>by simp [VsOK] at h
 | .clos _ _,_,_,_,h,_=>by simp [VsOK] at h
 | .agg _,_,_,_,h,_=>by simp [VsOK] at h
 | .tup _,_,_,_,h,_=>by simp [VsOK] at h
theorem asData_isAgg {w:World} {g:Ghost} {σ:St} (hh:HeapOK w g σ.objs) {a:AVal} {t:Ty} {f:t.den→Option R} {r:R} (hv:a.val=true) (h:asData σ 20 a t f=some r):a.isAgg=t.sk.isAgg:=by
 cases a with
 | data t' d=>
  simp only [asData] at h
  obtain ⟨rfl,_⟩:=castK_some h
  rfl
 | nilS=>
  simp only [asData] at h
  cases hb:t.isRo with
  | false=>rw [hb] at h;simp at h
  | true=>
   rw [hb] at h
   obtain ⟨o,u,rfl,_⟩:=nilK_some h
   rfl
 | ref id p ep=>
  simp only [asData] at h
  obtain ⟨t',l,_,_,_,h⟩:=fetch_ok hh h
  obtain ⟨he,_⟩:=castK_some h
  rw [←he];rfl
 | view id p ep x y=>
  simp only [asData] at h
  obtain ⟨t',l,_,_,_,h⟩:=fetch_ok hh h
  obtain ⟨he,_⟩:=castK_some h
  rw [←he];rfl
 | bptr id p=>cases t <;> simp [asData] at h <;> rfl
 | eptr id p ep=>cases t <;> simp [asData] at h <;> rfl
 | mref id=>simp [asData] at h
 | ifc t c=>simp [asData] at h
 | nv pt id p ep=>
  cases pt with
  | true=>simp [asData] at h
  | false=>
   simp only [asData] at h
   obtain ⟨_,_,_,_,_,_,_,_,_,h,_⟩:=nrow_ok hh h
   obtain ⟨he,_⟩:=castK_some h
   rw [←he];rfl
 | clos f c=>cases t <;> simp [asData] at h <;> rfl
 | agg c=>
  cases c with
  | pr x y=>
   simp only [asData] at h
   cases t <;> simp [asData] at h <;> rfl
  | un=>
   simp only [asData] at h
   cases t <;> simp [asData] at h <;> rfl
  | _=>simp [AVal.val] at hv
 | tup c=>simp [AVal.val] at hv
 | pr x y=>simp [AVal.val] at hv
 | un=>simp [AVal.val] at hv
theorem asData_no {w:World} {g:Ghost} {σ:St}:(n:Nat)→{a:AVal}→{t:Ty}→{k:t.den→Option R}→{r:R}→{cs:List Value}→noIds a=true→
  AOK w g σ.objs a cs→asData σ n a t k=some r→∃ d,k d=some r∧t.isRo=true∧Rep w g none t d cs
 | 0,_,_,_,_,_,_,_,h=>by simp [asData] at h
 | n+1,.data t' d,t,k,r,cs,_,hok,h=>by
  simp only [asData] at h
  obtain ⟨rfl,h⟩:=castK_some h
  exact ⟨_,h,hok.1,hok.2⟩
 | n+1,.nilS,t,k,r,cs,_,hok,h=>by
  simp only [asData] at h
  cases hb:t.isRo with
  | false=>rw [hb] at h;simp at h
  | true=>
   rw [hb] at h
   obtain ⟨o,u,rfl,h⟩:=nilK_some h
   cases o with
   | true=>simp [Ty.isRo] at hb
   | false=>
    have hok':cs=[.slice none 0 0]:=hok
    subst hok'
    exact ⟨_,h,rfl,none,0,rfl,Nat.le_refl _,Nat.zero_le _,fun hn=>absurd rfl hn⟩
 | n+1,.clos f c,t,k,r,cs,hn,hok,h=>by
  cases t with
  | fn f' t=>
   simp only [asData] at h
   cases hb:Nat.beq f f' with
   | false=>rw [hb] at h;simp at h
   | true=>
    rw [hb] at h
    have he:f=f':=Nat.eq_of_beq_eq_true hb
    subst he
    obtain ⟨vs,rfl,hc⟩:=hok
    obtain ⟨d,hk,hr,hrep⟩:=asData_no n (a:=c) (by simpa [noIds] using hn) hc h
    exact ⟨d,hk,by simpa [Ty.isRo] using hr,vs,rfl,hrep⟩
  | _=>simp [asData] at h
 | n+1,.agg c,t,k,r,cs,hn,hok,h=>by
  simp only [asData] at h
  exact asData_no n (a:=c) (by simpa [noIds] using hn) hok h
 | n+1,.pr a b,t,k,r,cs,hn,hok,h=>by
  cases t with
  | pair t u=>
   simp only [asData] at h
   simp only [noIds,Bool.and_eq_true] at hn
   obtain ⟨c1,c2,rfl,ha,hb⟩:=hok
   obtain ⟨x,hk,hr1,hrep1⟩:=asData_no n hn.1 ha h
   obtain ⟨y,hk,hr2,hrep2⟩:=asData_no n hn.2 hb hk
   exact ⟨(x,y),hk,by simp [Ty.isRo,hr1,hr2],c1,c2,rfl,hrep1,hrep2⟩
  | _=>simp [asData] at h
 | n+1,.un,t,k,r,cs,_,hok,h=>by
  cases t with
  | unit=>
   simp only [asData] at h
   exact ⟨(),h,rfl,hok⟩
  | _=>simp [asData] at h
 | n+1,.ref _ _ _,_,_,_,_,hn,_,_=>by simp [noIds] at hn
 | n+1,.view _ _ _ _ _,_,_,_,_,hn,_,_=>by simp [noIds] at hn
 | n+1,.bptr _ _,_,_,_,_,hn,_,_=>by simp [noIds] at hn
 | n+1,.eptr _ _ _,_,_,_,_,hn,_,_=>by simp [noIds] at hn
 | n+1,.mref _,_,_,_,_,hn,_,_=>by simp [noIds] at hn
 | n+1,.nv _ _ _ _,_,_,_,_,hn,_,_=>by simp [noIds] at hn
 | n+1,.tup _,_,_,_,_,_,hok,_=>hok.elim
def alienG (g:Ghost):Ghost:={ g with tag:=fun b=>match g.tag b with
 | .ro=>.ro
 | _=>.alien }
theorem alienG_tag {g:Ghost} {b:Nat}:(alienG g).tag b = .ro↔g.tag b = .ro:=by
 simp only [alienG]
 cases g.tag b <;> simp
theorem alienG_ro (w:World) (g:Ghost):RoKept w g w (alienG g):=⟨fun b hb=>⟨alienG_tag.2 hb,rfl⟩⟩
theorem alienG_lent {w:World} {g:Ghost} (ht:∀ b,g.tag b≠.alien→b < w.heap.size):Lent w g (alienG g):=by
 refine ⟨fun b hb=>?_⟩
 have h1:(alienG g).tag b = .ro:=by
  simp only [alienG] at hb ⊢
  cases h:g.tag b <;> rw [h] at hb <;> simp at hb ⊢
 exact ⟨h1,ht b (by rw [alienG_tag.1 h1];simp)⟩
theorem roG_lent {w:World} {g:Ghost} (ht:∀ b,g.tag b≠.alien→b < w.heap.size):Lent w g (roG g):=by
 refine ⟨fun b hb=>?_⟩
 simp only [roG] at hb ⊢
 cases h:g.tag b with
 | alien=>rw [h] at hb;simp at hb
 | ro=>exact ⟨rfl,ht b (by rw [h];simp)⟩
 | row i p=>exact ⟨rfl,ht b (by rw [h];simp)⟩
 | box i=>exact ⟨rfl,ht b (by rw [h];simp)⟩
theorem args_ok {w:World} {g gl:Ghost} {σ:St} (hh:HeapOK w g σ.objs) (hgl:gl=roG g∨gl=alienG g):{p:APat}→{a:AVal}→{vs:List Value}→{b:Bnd}→{k:p.den→Bnd→Option R}→{r:R}→
  (gl=roG g∨noIds a=true)→chainP p=true→valsC a=true→VsOK w g σ.objs a vs→matchArgs σ p a b k=some r→∃ d,k d b=some r∧RoArgs w gl p d vs
 | .pr (.val t) q,.pr x y,vs,b,k,r,hm,hp,hv,h,hk=>by
  simp only [matchArgs] at hk
  simp only [valsC,Bool.and_eq_true] at hv
  simp only [VsOK] at h
  obtain ⟨v,rest,rfl,h1,h2⟩:=h
  obtain ⟨hag,hn1,hn2,hn3⟩:=val_isAgg hv.1
  obtain ⟨cs,hok,hmk⟩:=VOK_cells h1 hn3
  have hd:∃ d,(matchArgs σ q y b fun dy b=>k (d,dy) b)=some r∧t.isRo=true∧Rep w gl none t d cs:=by
   rcases hm with rfl | hm
   ·exact asData_ok hh 20 hok hk
   ·simp only [noIds,Bool.and_eq_true] at hm
    obtain ⟨d,hk,hr,hrep⟩:=asData_no 20 hm.1 hok hk
    refine ⟨d,hk,hr,?_⟩
    rcases hgl with rfl | rfl
    ·exact hrep.kept (roG_ro w g)
    ·exact hrep.kept (alienG_ro w g)
  obtain ⟨d,hk',hr,hrep⟩:=hd
  obtain ⟨dy,hk2,hargs⟩:=args_ok hh hgl (hm.imp _root_.id (fun hm=>by simp only [noIds,Bool.and_eq_true] at hm;exact hm.2)) (by simpa [chainP] using hp) hv.2 h2 hk'
  exact ⟨(d,dy),hk2,hr,⟨cs,hrep,by rw [hmk,asData_isAgg hh hv.1 hk]⟩,hargs⟩
 | .un,.un,vs,b,k,r,_,_,_,h,hk=>by
  simp only [matchArgs] at hk
  simp only [VsOK] at h
  subst h
  exact ⟨(),hk,trivial⟩
 | .un,.pr _ _,_,_,_,_,_,_,_,_,hk=>by simp [matchArgs] at hk
 | .un,.data _ _,_,_,_,_,_,_,hv,_,_=>by simp [valsC] at hv
 | .un,.nilS,_,_,_,_,_,_,hv,_,_=>by simp [valsC] at hv
 | .un,.ref _ _ _,_,_,_,_,_,_,hv,_,_=>by simp [valsC] at hv
 | .un,.view _ _ _ _ _,_,_,_,_,_,_,hv,_,_=>by simp [valsC] at hv
 | .un,.bptr _ _,_,_,_,_,_,_,hv,_,_=>by simp [valsC] at hv
 | .un,.eptr _ _ _,_,_,_,_,_,_,hv,_,_=>by simp [valsC] at hv
 | .un,.mref _,_,_,_,_,_,_,hv,_,_=>by simp [valsC] at hv
 | .un,.nv _ _ _ _,_,_,_,_,_,_,hv,_,_=>by simp [valsC] at hv
 | .un,.clos _ _,_,_,_,_,_,_,hv,_,_=>by simp [valsC] at hv
 | .un,.agg _,_,_,_,_,_,_,hv,_,_=>by simp [valsC] at hv
 | .un,.tup _,_,_,_,_,_,_,hv,_,_=>by simp [valsC] at hv
 | .pr (.val _) _,.un,_,_,_,_,_,_,_,_,hk=>by simp [matchArgs] at hk
 | .pr (.val _) _,.data _ _,_,_,_,_,_,_,hv,_,_=>by simp [valsC] at hv
 | .pr (.val _) _,.nilS,_,_,_,_,_,_,hv,_,_=>by simp [valsC] at hv
 | .pr (.val _) _,.ref _ _ _,_,_,_,_,_,_,hv,_,_=>by simp [valsC] at hv
 | .pr (.val _) _,.view _ _ _ _ _,_,_,_,_,_,_,hv,_,_=>by simp [valsC] at hv
 | .pr (.val _) _,.bptr _ _,_,_,_,_,_,_,hv,_,_=>by simp [valsC] at hv
 | .pr (.val _) _,.eptr _ _ _,_,_,_,_,_,_,hv,_,_=>by simp [valsC] at hv
 | .pr (.val _) _,.mref _,_,_,_,_,_,_,hv,_,_=>by simp [valsC] at hv
 | .pr (.val _) _,.nv _ _ _ _,_,_,_,_,_,_,hv,_,_=>by simp [valsC] at hv
 | .pr (.val _) _,.clos _ _,_,_,_,_,_,_,hv,_,_=>by simp [valsC] at hv
 | .pr (.val _) _,.agg _,_,_,_,_,_,_,hv,_,_=>by simp [valsC] at hv
 | .pr (.val _) _,.tup _,_,_,_,_,_,_,hv,_,_=>by simp [valsC] at hv
 | .pr (.ref _) _,_,_,_,_,_,_,hp,_,_,_=>by simp [chainP] at hp
 | .pr (.bptr _) _,_,_,_,_,_,_,hp,_,_,_=>by simp [chainP] at hp
 | .pr (.clos _ _) _,_,_,_,_,_,_,hp,_,_,_=>by simp [chainP] at hp
 | .pr (.agg _) _,_,_,_,_,_,_,hp,_,_,_=>by simp [chainP] at hp
 | .pr (.pr _ _) _,_,_,_,_,_,_,hp,_,_,_=>by simp [chainP] at hp
 | .pr .un _,_,_,_,_,_,_,hp,_,_,_=>by simp [chainP] at hp
 | .val _,_,_,_,_,_,_,hp,_,_,_=>by simp [chainP] at hp
 | .ref _,_,_,_,_,_,_,hp,_,_,_=>by simp [chainP] at hp
 | .bptr _,_,_,_,_,_,_,hp,_,_,_=>by simp [chainP] at hp
 | .clos _ _,_,_,_,_,_,_,hp,_,_,_=>by simp [chainP] at hp
 | .agg _,_,_,_,_,_,_,hp,_,_,_=>by simp [chainP] at hp
section
variable {P:Program} {o:Oper} {a:Act} {w:World} {K:Act→World→Prop} {Q:Exit→Act→World→Prop} {c:Ctx} {σ:St} {g:Ghost} {k:St→Option R} {r:R} {base:Nat} {mo:Bool}
theorem done_K {σ':St} {g':Ghost} {w':World} {av:AVal} {v:Value} (hst:StOK c.ntmps g' w' a σ') (hext:Ext w g w' g')
  (hfr:∀ m,(m < base∨base+8≤m)→Fresh g σ m→Fresh g' σ' m∧m∉av.ids) (hn:σ'.next=σ.next) (hv:VOK w' g' σ'.objs av v)
  (h:σ'.putK c o.dst av k=some r) (hag:mo=false→Agree w w') (hK:Post c.ntmps k r g w σ base mo K):K (a.put o.dst v) w':=by
 rcases putK_some h with ⟨hd,hk⟩ | ⟨i,hd,hi,hk⟩
 ·rw [hd];exact hK σ' g' a w' hk hst hext (fun m hm hf=>(hfr m hm hf).1) hn hag
 ·rw [hd];exact hK _ g' _ w' hk (hst.put hi hv) hext (fun m hm hf=>(hfr m hm hf).1.set i (hfr m hm hf).2) hn hag
theorem callee_ok {gv args all:AVal} {fid:Nat} {x:Operand} {vs:List Value} (hg:VOK w g σ.objs gv (a.eval x)) (hargs:VsOK w g σ.objs args vs)
  (h:calleeOf gv args=some (fid,all)) :
  ∃ us,a.eval x = .func (.func fid) #[] us.toArray∧VsOK w g σ.objs all (vs++us):=by
 unfold calleeOf at h
 split at h
 ·rename_i f cap
  cases hl:leafC cap with
  | false=>rw [hl] at h;simp at h
  | true=>
   rw [hl] at h
   simp only [cond_true,Option.some.injEq,Prod.mk.injEq] at h
   obtain ⟨rfl,rfl⟩:=h
   simp only [VOK] at hg
   obtain ⟨cs,⟨us,rfl,hc⟩,hv⟩:=hg
   exact ⟨us,hv,vs_append hargs (leaf_vs hl hc)⟩
 ·rename_i f t d
  cases hl:(leafC (splitC t d) && (splitC t d).sk.same t.sk) with
  | false=>rw [hl] at h;simp at h
  | true=>
   rw [hl] at h
   simp only [cond_true,Option.some.injEq,Prod.mk.injEq] at h
   obtain ⟨rfl,rfl⟩:=h
   simp only [Bool.and_eq_true] at hl
   simp only [VOK] at hg
   obtain ⟨cs,⟨hro,us,rfl,hrep⟩,hv⟩:=hg
   exact ⟨us,hv,vs_append hargs (leaf_vs hl.1 (splitC_rep (by simpa [Ty.isRo] using hro) hrep (Sk.same_eq hl.2)))⟩
 ·simp at h
theorem pickC_mem {a:AVal}:{l:List Callee}→{x:Callee}→pickC a l=some x→x∈l
 | [],_,h=>by simp [pickC] at h
 | y :: l,x,h=>by
  simp only [pickC] at h
  cases hf:y.fits a with
  | true=>rw [hf] at h;simp only [cond_true,Option.some.injEq] at h;simp [h]
  | false=>rw [hf] at h;exact List.mem_cons_of_mem _ (pickC_mem h)
theorem op_callP {fid:Nat} {p:APat} {res:List Ty} {F:p.den→Option (resDen res)} (hco:CalleeOK P fid (.pure p res F)) {all:AVal} {vals:List Value} (hrun:(execOp a.eval o).run P w=(callFunc fid vals.toArray).run P w) (hall:VsOK w g σ.objs all vals)
  (hst:StOK c.ntmps g w a σ) (hfr:∀ m,base≤m→m < base+8→Fresh g σ m)
  (h:(callPure σ base all p res F fun v σ=>σ.putK c o.dst v k)=some r) (hK:Post c.ntmps k r g w σ base mo K):o.wp P a w K Q:=by
 ·unfold callPure at h
  cases hb:(chainP p && valsC all && (flats res || noIds all)) with
  | false=>rw [hb] at h;simp at h
  | true=>
   rw [hb] at h
   simp only [cond_true] at h
   simp only [Bool.and_eq_true,Bool.or_eq_true] at hb
   have key:∀ gl,(gl=roG g∨gl=alienG g)→(gl=roG g∨noIds all=true)→(gl=alienG g∨flats res=true)→o.wp P a w K Q:=by
    intro gl hgl hmode hmode2
    have hlent:Lent w g gl:=by
     rcases hgl with rfl | rfl
     ·exact roG_lent hst.heap.tags
     ·exact alienG_lent hst.heap.tags
    obtain ⟨d,hk,hro⟩:=args_ok hst.heap hgl hmode hb.1.1 hb.1.2 hall h
    simp only [Option.bind_eq_some_iff] at hk
    obtain ⟨rv,hF,hk⟩:=hk
    cases hb2:Nat.ble (exposeRes res rv base).2.length 8 with
    | false=>rw [hb2] at hk;simp at hk
    | true=>
     rw [hb2] at hk
     simp only [cond_true] at hk
     have hlen:=Nat.le_of_ble_eq_true hb2
     rw [res_objs res rv base 0] at hlen
     have hdone:∀ v w',(∃ g',Ext w gl w' g'∧ResOK w' g' (exposeRes res rv 0) v)→K (a.put o.dst v) w':=by
      intro v w' ⟨gc,hext,hres⟩
      have hc:RoKept w' gc w' (mergeG g gc base (exposeRes res rv 0).2.length w.heap.size)∨flats res=true:=by
       rcases hmode2 with rfl | hf
       ·left
        refine ⟨fun b hb=>⟨?_,rfl⟩⟩
        simp only [mergeG]
        by_cases hlt:b < w.heap.size
        ·rw [if_pos hlt]
         have:=(merge_heap hlent hext hlt).2
         rw [hb] at this
         exact alienG_tag.1 this.symm
        ·rw [if_neg hlt,hb]
       ·exact .inr hf
      obtain ⟨h1,h2,h3⟩:=merge_st hst hlent hext hfr hlen hc hres
      exact done_K h1 (merge_ext hlent hext) h3 (addObjs_next _ _ _) h2 hk (fun _ b hb=>(merge_heap hlent hext hb).1) hK
     have hkn:Known w gl:=by
      rcases hgl with rfl | rfl
      ·exact hst.known.kept (roG_ro w g)
      ·exact hst.known.kept (alienG_ro w g)
     rcases hco w gl d vals rv hlent.tags hkn hro hF with ⟨hr1,hr2⟩ | ⟨v,w',hr1,hr2⟩
     ·unfold Oper.wp
      rw [hrun,hr1,Oper.upon_enter]
      refine Calls.mono hr2 (fun e w' he=>?_)
      obtain ⟨v,rfl,hv⟩:=he
      exact hdone v w' hv
     ·unfold Oper.wp
      rw [hrun,hr1,Oper.upon_value]
      exact hdone v w' hr2
   by_cases hn:noIds all=true
   ·exact key (alienG g) (.inr rfl) (.inr hn) (.inl rfl)
   ·exact key (roG g) (.inl rfl) (.inl rfl) (.inr (hb.2.resolve_right hn))
theorem op_callG (henv:EnvOK P c.env) {fid:Nat} {all:AVal} {vals:List Value} (hrun:(execOp a.eval o).run P w=(callFunc fid vals.toArray).run P w) (hall:VsOK w g σ.objs all vals)
  (hst:StOK c.ntmps g w a σ) (hfr:∀ m,base≤m→m < base+8→Fresh g σ m)
  (h:(match pickC all (c.env fid) with
   | some (.pure p res F)=>callPure σ base all p res F fun v σ=>σ.putK c o.dst v k
   | _=>none)=some r) (hK:Post c.ntmps k r g w σ base mo K):o.wp P a w K Q:=by
 split at h
 ·rename_i p res F hpick
  exact op_callP (henv fid _ (pickC_mem hpick)) hrun hall hst hfr h hK
 ·simp at h
theorem op_call (henv:EnvOK P c.env) {cl:Call} {x:Operand} (ho:o.op = .call cl) (hcl:cl.callee = .value x)
  (hst:StOK c.ntmps g w a σ) (hfr:∀ m,base≤m→m < base+8→Fresh g σ m) {gv args:AVal} (hx:ev σ x=some gv) (hargs:evs σ cl.args.toList=some args)
  (h:(callK c σ base gv args fun v σ=>σ.putK c o.dst v k)=some r) (hK:Post c.ntmps k r g w σ base mo K):o.wp P a w K Q:=by
 obtain ⟨eg,_⟩:=ev_ok hst hx
 obtain ⟨ea,_⟩:=evs_ok hst hargs
 unfold callK at h
 split at h
 ·rename_i fid all hcallee
  obtain ⟨us,hfv,hall⟩:=callee_ok eg ea hcallee
  refine op_callG henv (fid:=fid) (all:=all) (vals:=(cl.args.toList.map a.eval)++us) ?_ hall hst hfr h hK
  have e1:cl.args.map a.eval=(cl.args.toList.map a.eval).toArray:=by apply Array.toList_inj.1;rw [Array.toList_map]
  simp [execOp,ho,resolve,hcl,hfv,Deferred.ofValue,invoke,e1]
 ·simp at h
end
end Go.Kz
