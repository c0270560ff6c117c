/-
  New memory.
-/
import Derived.Test.YtoccnkcnkcngjaaDoorKzO
import Derived.Laws.MakeOwn
set_option linter.unusedVariables false
set_option linter.unusedSimpArgs false
namespace Go.Kz
variable {R:Type}
def newG (g:Ghost) (b0 m:Nat) (tg:Tag) (v:Value):Ghost where
 tag:=fun b=>if b=b0 then tg else g.tag b
 sv:=fun i p=>if i=m then (if p=[] then v else .slice none 0 0) else g.sv i p
 blk:=fun i=>if i=m then b0 else g.blk i
section
variable {w:World} {g:Ghost} {σ:St} {o:Obj} {m:Nat} {tg:Tag} {v:Value}
theorem newG_ro (ht:∀ b,g.tag b≠.alien→b < w.heap.size) (ob:Go.Obj):RoKept w g (w.alloc ob) (newG g w.heap.size m tg v):=
 ⟨fun b hb=>by
  have:=ht b (by rw [hb];simp)
  exact ⟨by simp only [newG];rw [if_neg (by omega)];exact hb,heap_alloc_old w ob this⟩⟩
theorem newG_same (ht:∀ b,g.tag b≠.alien→b < w.heap.size) (ob:Go.Obj) {id:Nat} (hid:id≠m):Same w g (w.alloc ob) (newG g w.heap.size m tg v) id:=by
 refine ⟨⟨fun q=>by simp [newG,hid],fun q b hb=>?_⟩,by simp [newG,hid],fun hb=>?_⟩
 ·have:=ht b (by rw [hb];simp)
  exact ⟨by simp only [newG];rw [if_neg (by omega)];exact hb,heap_alloc_old w ob this⟩
 ·have:=ht (g.blk id) (by rw [hb];simp)
  exact ⟨by simp only [newG];rw [if_neg (by omega)];exact hb,heap_alloc_old w ob this⟩
theorem newG_ext (ht:∀ b,g.tag b≠.alien→b < w.heap.size) (ob:Go.Obj):Ext w g (w.alloc ob) (newG g w.heap.size m tg v):=by
 refine ⟨rfl,rfl,rfl,Nat.le_refl _,by simp,fun b hb _=>⟨heap_alloc_old w ob hb,?_⟩⟩
 simp only [newG];rw [if_neg (by omega)]
theorem upd_same {α:Type} (f:Nat→Option α) (i:Nat) (x:Option α):upd f i x i=x:=by simp [upd]
theorem upd_other {α:Type} (f:Nat→Option α) {i j:Nat} (x:Option α) (h:j≠i):upd f i x j=f j:=by
 simp only [upd]
 cases hb:Nat.beq j i with
 | true=>exact absurd (Nat.eq_of_beq_eq_true hb) h
 | false=>rfl
theorem newG_kept (hh:HeapOK w g σ.objs) (ob:Go.Obj) {id:Nat} (hid:id≠m):IdKept g (newG g w.heap.size m tg v) id (σ.objs id) ((σ.setObj m o).objs id):=by
 simp only [St.setObj]
 rw [upd_other _ _ hid]
 exact IdKept.same (newG_same hh.tags ob hid)
theorem StOK.new {n:Nat} {a:Act} (hst:StOK n g w a σ) (hf:Fresh g σ m) (ob:Go.Obj) (htg:tg≠.alien)
  (hobj:ObjOK (w.alloc ob) (newG g w.heap.size m tg v) (σ.setObj m o).objs m o):StOK n (newG g w.heap.size m tg v) (w.alloc ob) a (σ.setObj m o):=by
 refine ⟨fun i av hi=>?_,⟨fun id x hx=>?_,fun b hb=>?_⟩,hst.size,hst.defers,hst.known.kept (newG_ro hst.heap.tags ob)⟩
 ·obtain ⟨u,hu,hok⟩:=hst.slots i av hi
  refine ⟨u,hu,VOK.frame (newG_ro hst.heap.tags ob) (fun id hid=>newG_kept hst.heap ob ?_) hok⟩
  intro he;subst he;exact hf.slots i av hi hid
 ·by_cases hid:id=m
  ·subst hid
   simp only [St.setObj,upd_same,Option.some.injEq] at hx
   subst hx
   exact hobj
  ·have hx':σ.objs id=some x:=by simpa [St.setObj,upd_other _ _ hid] using hx
   refine ObjOK.frame (newG_ro hst.heap.tags ob) (newG_same hst.heap.tags ob hid) (fun y hy id' hid'=>newG_kept hst.heap ob ?_) (hst.heap.objs id x hx')
   intro he;subst he;subst hy
   exact hf.cells id y hx' hid'
 ·simp only [newG] at hb
  split at hb
  ·rename_i he;subst he;simp
  ·have:=hst.heap.tags b hb;simp;omega
theorem Fresh.new {m':Nat} (hm:m'≠m) (hrow:∀ p,tg≠.row m' p) (hbox:tg≠.box m') (ho:∀ y,o = .cell y→m'∉y.ids) (hf:Fresh g σ m'):Fresh (newG g w.heap.size m tg v) (σ.setObj m o) m':=by
 refine ⟨by simp only [St.setObj];rw [upd_other _ _ hm];exact hf.objs,fun b p hb=>?_,fun b hb=>?_,hf.slots,fun id av hi=>?_⟩
 ·simp only [newG] at hb
  split at hb
  ·exact hrow p hb
  ·exact hf.row b p hb
 ·simp only [newG] at hb
  split at hb
  ·exact hbox hb
  ·exact hf.box b hb
 ·by_cases hid:id=m
  ·subst hid
   simp only [St.setObj,upd_same,Option.some.injEq] at hi
   exact ho av hi
  ·simp only [St.setObj] at hi
   rw [upd_other _ _ hid] at hi
   exact hf.cells id av hi
end
theorem seg_flatten_replicate (n:Nat) (cs:List Value) (i:Nat) (h:i < n):seg (List.replicate n cs).flatten (i*cs.length) cs.length=cs:=by
 induction n generalizing i with
 | zero=>omega
 | succ n ih=>
  simp only [List.replicate_succ,List.flatten_cons]
  cases i with
  | zero=>
   simp only [Nat.zero_mul]
   rw [seg_append_left _ _ _ _ (by omega),seg_all]
  | succ i=>
   rw [Nat.add_mul,Nat.one_mul,Nat.add_comm]
   rw [seg_append_right' _ _ _ _ _ rfl]
   exact ih i (by omega)
theorem length_flatten_replicate (n:Nat) (cs:List Value):(List.replicate n cs).flatten.length=n*cs.length:=by
 induction n with
 | zero=>simp
 | succ n ih=>simp only [List.replicate_succ,List.flatten_cons,List.length_append,ih,Nat.add_mul];omega
theorem zeroCells_len:(t:Ty)→(zeroCells t).length=t.size
 | .int _=>rfl
 | .bool=>rfl
 | .str=>rfl
 | .unit=>rfl
 | .pair a b=>by simp only [zeroCells,List.length_append,Ty.size,zeroCells_len a,zeroCells_len b]
 | .arr n t=>by rw [zeroCells,length_flatten_replicate,zeroCells_len t];rfl
 | .sl _ _=>rfl
 | .ptr _=>rfl
 | .fn _ _=>rfl
theorem zero_rep {w:World} {g:Ghost}:{t:Ty}→{d:t.den}→t.isRo=true→t.zero=some d→Rep w g none t d (zeroCells t)
 | .int k,d,_,h=>by
  simp only [Ty.zero,Option.some.injEq] at h
  subst h
  refine ⟨rfl,?_⟩
  cases k <;> simp [IntKind.min,IntKind.max,IntKind.bits,IntKind.signed]
 | .bool,d,_,h=>by simp only [Ty.zero,Option.some.injEq] at h;subst h;rfl
 | .str,d,_,h=>by
  simp only [Ty.zero,Option.some.injEq] at h
  subst h
  exact ⟨ByteArray.empty,rfl,rfl,Nat.zero_le _⟩
 | .unit,d,_,h=>rfl
 | .pair a b,d,hr,h=>by
  simp only [Ty.zero] at h
  simp only [Ty.isRo,Bool.and_eq_true] at hr
  split at h
  ·rename_i x y hx hy
   simp only [Option.some.injEq] at h
   subst h
   exact ⟨_,_,rfl,zero_rep hr.1 hx,zero_rep hr.2 hy⟩
  ·simp at h
 | .arr n t,d,hr,h=>by
  simp only [Ty.zero] at h
  split at h
  ·rename_i x hx
   simp only [Option.some.injEq] at h
   subst h
   have hrep:=zero_rep (w:=w) (g:=g) (by simpa [Ty.isRo] using hr) hx
   refine ⟨by simp,by rw [zeroCells,length_flatten_replicate,zeroCells_len],fun i hi=>?_⟩
   have hi':i < n:=by simpa using hi
   simp only [List.get_eq_getElem,List.getElem_replicate,zeroCells]
   have:=seg_flatten_replicate n (zeroCells t) i hi'
   rw [zeroCells_len] at this
   rw [this];exact hrep
  ·simp at h
 | .sl false t,d,_,h=>by
  simp only [Ty.zero,Option.some.injEq] at h
  subst h
  exact ⟨none,0,rfl,Nat.le_refl _,Nat.zero_le _,fun hn=>absurd rfl hn⟩
 | .sl true t,d,hr,h=>by simp [Ty.isRo] at hr
 | .ptr _,_,_,h=>by simp [Ty.zero] at h
 | .fn _ _,_,_,h=>by simp [Ty.zero] at h
theorem noSl_isRo:{t:Ty}→t.noSl=true→t.isRo=true
 | .int _,_=>rfl
 | .bool,_=>rfl
 | .str,_=>rfl
 | .unit,_=>rfl
 | .pair a b,h=>by simp only [Ty.noSl,Bool.and_eq_true] at h;simp [Ty.isRo,noSl_isRo h.1,noSl_isRo h.2]
 | .arr _ t,h=>by simp only [Ty.noSl] at h;simp only [Ty.isRo];exact noSl_isRo h
 | .sl _ _,h=>by simp [Ty.noSl] at h
 | .ptr _,h=>by simp [Ty.noSl] at h
 | .fn _ _,h=>by simp [Ty.noSl] at h
theorem zeroA_pair (a b:Ty):zeroA (.pair a b)=(match Ty.zero (.pair a b),(Ty.pair a b).noSl with
  | some z,true=>some (.data (.pair a b) z)
  | _,_=>(zeroC (.pair a b)).map .agg):=rfl
theorem zeroC_pair (a b:Ty):zeroC (.pair a b)=(match zeroA a,zeroC b with
  | some x,some y=>some (.pr x y)
  | _,_=>none):=rfl
theorem zeroA_arr (n:Nat) (t:Ty):zeroA (.arr n t)=(match Ty.zero (.arr n t),(Ty.arr n t).noSl with
  | some z,true=>some (.data (.arr n t) z)
  | _,_=>none):=by
 unfold zeroA zeroAC
 simp only
 split <;> split <;> simp_all
mutual
theorem zeroA_ok {w:World} {g:Ghost} {objs:Objs}:{u:Ty}→{z:AVal}→zeroA u=some z→z.sk=u.sk∧z.ids=[]∧AOK w g objs z (zeroCells u)∧z.val=true
 | .sl o t,z,h=>by
  simp only [zeroA,zeroAC,Option.some.injEq] at h
  subst h
  exact ⟨rfl,rfl,rfl,rfl⟩
 | .pair a b,z,h=>by
  rw [zeroA_pair] at h
  split at h
  ·rename_i d h1 h2
   simp only [Option.some.injEq] at h
   subst h
   have hr:=noSl_isRo h2
   exact ⟨rfl,rfl,⟨hr,zero_rep hr h1⟩,rfl⟩
  ·simp only [Option.map_eq_some_iff] at h
   obtain ⟨x,hx,rfl⟩:=h
   obtain ⟨h1,h2,h3,h4⟩:=zeroC_ok (w:=w) (g:=g) (objs:=objs) hx
   exact ⟨h1,h2,h3,h4⟩
 | .int k,z,h=>by
  simp only [zeroA,zeroAC,Ty.zero,Ty.noSl,Option.some.injEq] at h
  subst h
  exact ⟨rfl,rfl,⟨rfl,zero_rep rfl rfl⟩,rfl⟩
 | .bool,z,h=>by
  simp only [zeroA,zeroAC,Ty.zero,Ty.noSl,Option.some.injEq] at h
  subst h
  exact ⟨rfl,rfl,⟨rfl,zero_rep rfl rfl⟩,rfl⟩
 | .str,z,h=>by
  simp only [zeroA,zeroAC,Ty.zero,Ty.noSl,Option.some.injEq] at h
  subst h
  exact ⟨rfl,rfl,⟨rfl,zero_rep rfl rfl⟩,rfl⟩
 | .unit,z,h=>by
  simp only [zeroA,zeroAC,Ty.zero,Ty.noSl,Option.some.injEq] at h
  subst h
  exact ⟨rfl,rfl,⟨rfl,zero_rep rfl rfl⟩,rfl⟩
 | .arr n t,z,h=>by
  rw [zeroA_arr] at h
  split at h
  ·rename_i d h1 h2
   simp only [Option.some.injEq] at h
   subst h
   have hr:=noSl_isRo h2
   exact ⟨rfl,rfl,⟨hr,zero_rep hr h1⟩,rfl⟩
  ·simp at h
 | .ptr t,z,h=>by simp [zeroA,zeroAC,Ty.zero] at h
 | .fn f t,z,h=>by simp [zeroA,zeroAC,Ty.zero] at h
theorem zeroC_ok {w:World} {g:Ghost} {objs:Objs}:{u:Ty}→{z:AVal}→zeroC u=some z→z.sk=u.sk∧z.ids=[]∧AOK w g objs z (zeroCells u)∧(AVal.agg z).val=true
 | .pair a b,z,h=>by
  rw [zeroC_pair] at h
  split at h
  ·rename_i x y hx hy
   simp only [Option.some.injEq] at h
   subst h
   obtain ⟨h1,h2,h3,_⟩:=zeroA_ok (w:=w) (g:=g) (objs:=objs) hx
   obtain ⟨k1,k2,k3,_⟩:=zeroC_ok (w:=w) (g:=g) (objs:=objs) hy
   exact ⟨by simp [AVal.sk,Ty.sk,h1,k1],by simp [AVal.ids,h2,k2],⟨_,_,rfl,h3,k3⟩,rfl⟩
  ·simp at h
 | .unit,z,h=>by
  simp only [zeroC,zeroAC,Option.some.injEq] at h
  subst h
  exact ⟨rfl,rfl,rfl,rfl⟩
 | .int _,_,h=>by simp [zeroC,zeroAC] at h
 | .bool,_,h=>by simp [zeroC,zeroAC] at h
 | .str,_,h=>by simp [zeroC,zeroAC] at h
 | .arr _ _,_,h=>by simp [zeroC,zeroAC] at h
 | .sl _ _,_,h=>by simp [zeroC,zeroAC] at h
 | .ptr _,_,h=>by simp [zeroC,zeroAC] at h
 | .fn _ _,_,h=>by simp [zeroC,zeroAC] at h
end
theorem zeroN_ok {w:World} {g:Ghost} {objs:Objs} {id:Nat} {u:Ty} {z:AVal} (hid:∀ kt vt m,objs id≠some (.map kt vt m)) (h:zeroN id u=some z):z.sk=u.sk∧(z.ids=[]∨z.ids=[id])∧AOK w g objs z (zeroCells u)∧z.val=true:=by
 cases u with
 | fn f c=>
  simp only [zeroN,Option.some.injEq] at h
  subst h
  exact ⟨rfl,.inr rfl,⟨_,rfl,rfl,fun kt vt m hm=>absurd hm (hid kt vt m)⟩,rfl⟩
 | ptr t=>
  simp only [zeroN,Option.some.injEq] at h
  subst h
  exact ⟨rfl,.inr rfl,⟨_,rfl,rfl,fun kt vt m hm=>absurd hm (hid kt vt m)⟩,rfl⟩
 | _=>
  obtain ⟨h1,h2,h3,h4⟩:=zeroA_ok (w:=w) (g:=g) (objs:=objs) h
  exact ⟨h1,.inl h2,h3,h4⟩
section
variable {P:Program} {o:Oper} {a:Act} {w:World} {K:Act→World→Prop} {Q:Exit→Act→World→Prop} {c:Ctx} {σ:St} {g:Ghost} {k:St→Option R} {r:R} {base:Nat} {mo:Bool}
theorem wp_new {ob:Go.Obj} {obj:Obj} {tg:Tag} {v v':Value} {av:AVal} (hst:StOK c.ntmps g w a σ) (hf:Fresh g σ base) (htg:tg = .box base∨∃ p,tg = .row base p)
  (hrun:(execOp a.eval o).run P w = .ok (.value v') (w.alloc ob)) (hids:av.ids=[base])
  (hobj:ObjOK (w.alloc ob) (newG g w.heap.size base tg v) (σ.setObj base obj).objs base obj)
  (hcell:∀ y,obj = .cell y→∀ m,m≠base→Fresh g σ m→m∉y.ids)
  (hv:VOK (w.alloc ob) (newG g w.heap.size base tg v) (σ.setObj base obj).objs av v')
  (h:(σ.putK c o.dst av fun σ=>k (σ.setObj base obj))=some r) (hK:Post c.ntmps k r g w σ base mo K):o.wp P a w K Q:=by
 have hne:tg≠.alien:=by rcases htg with rfl | ⟨p,rfl⟩ <;> simp
 have hst':=hst.new hf ob hne hobj
 have hfr:∀ m,(m < base∨base+8≤m)→Fresh g σ m→Fresh (newG g w.heap.size base tg v) (σ.setObj base obj) m:=by
  intro m hm hfm
  have hmb:m≠base:=by omega
  refine Fresh.new hmb (fun p=>?_) ?_ (fun y hy=>hcell y hy m hmb hfm) hfm
  ·rcases htg with rfl | ⟨p',rfl⟩ <;> simp;exact fun h=>absurd h.symm hmb
  ·rcases htg with rfl | ⟨p',rfl⟩ <;> simp;exact fun h=>hmb h.symm
 unfold Oper.wp
 rw [hrun,Oper.upon_value]
 rcases putK_some h with ⟨hd,hk⟩ | ⟨i,hd,hi,hk⟩
 ·rw [hd]
  exact hK _ _ _ _ hk hst' (newG_ext hst.heap.tags ob) hfr rfl (fun _ b hb=>heap_alloc_old w ob hb)
 ·rw [hd]
  refine hK _ _ _ _ hk (show StOK c.ntmps _ _ _ ((σ.setObj base obj).set i av) from hst'.put hi hv) (newG_ext hst.heap.tags ob) (fun m hm hfm=>?_) rfl (fun _ b hb=>heap_alloc_old w ob hb)
  exact (hfr m hm hfm).set i (by rw [hids];simp;omega)
theorem wp_newRo {ob:Go.Obj} {t:Ty} {d:t.den} {v':Value} {cs:List Value} {vx:Value} (hst:StOK c.ntmps g w a σ) (hf:Fresh g σ base)
  (hrun:(execOp a.eval o).run P w = .ok (.value v') (w.alloc ob)) (hro:t.isRo=true) (hrep:Rep (w.alloc ob) (newG g w.heap.size base .ro vx) none t d cs) (hv:v'=mkV t.sk.isAgg cs)
  (h:σ.putK c o.dst (.data t d) k=some r) (hK:Post c.ntmps k r g w σ base mo K):o.wp P a w K Q:=by
 have ht:=hst.heap.tags
 have hsame:∀ i,i≠base→IdKept g (newG g w.heap.size base .ro vx) i (σ.objs i) (σ.objs i):=fun i hi=>IdKept.same (newG_same ht ob hi)
 have hst':StOK c.ntmps (newG g w.heap.size base .ro vx) (w.alloc ob) a σ:=by
  refine ⟨fun i av hi=>?_,⟨fun id x hx=>?_,fun b hb=>?_⟩,hst.size,hst.defers,hst.known.kept (newG_ro ht ob)⟩
  ·obtain ⟨u,hu,hok⟩:=hst.slots i av hi
   refine ⟨u,hu,VOK.frame (newG_ro ht ob) (fun id hid=>hsame id ?_) hok⟩
   intro he;subst he;exact hf.slots i av hi hid
  ·have hid:id≠base:=by intro he;subst he;have:=hf.objs;rw [hx] at this;simp at this
   refine ObjOK.frame (newG_ro ht ob) (newG_same ht ob hid) (fun y hy id' hid'=>hsame id' ?_) (hst.heap.objs id x hx)
   intro he;subst he;subst hy
   exact hf.cells id y hx hid'
  ·simp only [newG] at hb
   split at hb
   ·rename_i he;subst he;simp
   ·have:=ht b hb;simp;omega
 have hfr:∀ m,(m < base∨base+8≤m)→Fresh g σ m→Fresh (newG g w.heap.size base .ro vx) σ m:=by
  intro m hm hfm
  refine ⟨hfm.objs,fun b p hb=>?_,fun b hb=>?_,hfm.slots,hfm.cells⟩
  ·simp only [newG] at hb
   split at hb
   ·simp at hb
   ·exact hfm.row b p hb
  ·simp only [newG] at hb
   split at hb
   ·simp at hb
   ·exact hfm.box b hb
 have hvok:VOK (w.alloc ob) (newG g w.heap.size base .ro vx) σ.objs (.data t d) v':=by
  simp only [VOK]
  exact ⟨cs,⟨hro,hrep⟩,hv⟩
 unfold Oper.wp
 rw [hrun,Oper.upon_value]
 rcases putK_some h with ⟨hd,hk⟩ | ⟨i,hd,hi,hk⟩
 ·rw [hd]
  exact hK _ _ _ _ hk hst' (newG_ext ht ob) hfr rfl (fun _ b hb=>heap_alloc_old w ob hb)
 ·rw [hd]
  exact hK _ _ _ _ hk (hst'.put hi hvok) (newG_ext ht ob) (fun m hm hfm=>(hfr m hm hfm).set i (by simp [AVal.ids])) rfl (fun _ b hb=>heap_alloc_old w ob hb)
theorem op_alloc (htt:TtOK P c.tt) {t:TypeId} (ho:o.op = .alloc t) (hst:StOK c.ntmps g w a σ) (hf:Fresh g σ base) (h:opK0 c σ base o k=some r) (hK:Post c.ntmps k r g w σ base mo K):o.wp P a w K Q:=by
 simp only [opK0,ho] at h
 split at h
 ·rename_i z hz
  simp only [Option.bind_eq_some_iff] at hz
  obtain ⟨u,hu,hz⟩:=hz
  have hT:=htt _ _ hu
  obtain ⟨i,zv,hi1,hi2,_,hi4,hi5,_⟩:=hT.info.info
  let g':=newG g w.heap.size base (.box base) undef
  let ob:Go.Obj:=.cells zv.cells t
  have hz':=zeroN_ok (w:=w.alloc ob) (g:=g') (objs:=(σ.setObj base (.cell z)).objs) (id:=base) (fun kt vt m hm=>by simp [St.setObj,upd_same] at hm) hz
  refine wp_new (ob:=ob) (obj:=.cell z) (tg:=.box base) (v:=undef) (v':=.pointer (some ⟨w.heap.size,0,none⟩)) hst hf (.inl rfl) ?_ rfl ?_ ?_ ?_ h hK
  ·simp only [execOp,ho]
   simp [Instr.alloc,zeroValue,typeInfo,hi1,hi4,newVar,newRow]
   rfl
  ·refine ⟨zv.cells,t,?_,?_,?_⟩
   ·have hb:(newG g w.heap.size base (.box base) undef).blk base=w.heap.size:=by simp [newG]
    rw [hb];exact heap_alloc_new w _
   ·simp [newG]
   ·rw [hi5];exact hz'.2.2.1
  ·intro y hy m hm _
   simp only [Obj.cell.injEq] at hy
   subst hy
   rcases hz'.2.1 with h1 | h1 <;> rw [h1] <;> simp [hm]
  ·simp only [VOK]
   refine ⟨_,⟨_,rfl,rfl,fun x _=>?_⟩,rfl⟩
   refine ⟨0,x.sk,by simp [Sk.off],?_⟩
   simp [newG]
 ·simp at h
theorem op_box {t:TypeId} {x:Operand} (ho:o.op = .box t x) (hst:StOK c.ntmps g w a σ) (hf:Fresh g σ base) (h:opK0 c σ base o k=some r) (hK:Post c.ntmps k r g w σ base mo K):o.wp P a w K Q:=by
 simp only [opK0,ho] at h
 split at h
 ·rename_i av hav
  obtain ⟨ex,ef⟩:=ev_ok hst hav
  cases hb:av.val with
  | false=>rw [hb] at h;simp at h
  | true=>
   rw [hb] at h
   simp only [cond_true] at h
   obtain ⟨cs,hok,hmk,hcells⟩:=VOK_valueCells hb ex
   let ob:Go.Obj:=.cells (a.eval x).cells t
   refine wp_new (ob:=ob) (obj:=.cell av) (tg:=.box base) (v:=undef) (v':=.pointer (some ⟨w.heap.size,0,none⟩)) hst hf (.inl rfl) ?_ rfl ?_ ?_ ?_ h hK
   ·simp only [execOp,ho]
    simp [Instr.box,newVar,newRow]
    rfl
   ·refine ⟨(a.eval x).cells,t,?_,?_,?_⟩
    ·have hb:(newG g w.heap.size base (.box base) undef).blk base=w.heap.size:=by simp [newG]
     rw [hb];exact heap_alloc_new w _
    ·simp [newG]
    ·rw [hcells]
     refine AOK.frame (newG_ro hst.heap.tags ob) (fun id hid=>newG_kept hst.heap ob ?_) hok
     intro he;subst he;exact ef _ hf hid
   ·intro y hy m _ hm
    simp only [Obj.cell.injEq] at hy
    subst hy
    exact ef m hm
   ·simp only [VOK]
    refine ⟨_,⟨_,rfl,rfl,fun y _=>?_⟩,rfl⟩
    refine ⟨0,y.sk,by simp [Sk.off],?_⟩
    simp [newG]
 ·simp at h
end
end Go.Kz
namespace Go.Kz
variable {R:Type}
theorem seg_flatten:(css:List (List Value))→(n:Nat)→(∀ cs∈css,cs.length=n)→(i:Nat)→(h:i < css.length)→seg css.flatten (i*n) n=css.get ⟨i,h⟩
 | cs :: css,n,hl,0,_=>by
  have h0:=hl cs (by simp)
  simp only [List.flatten_cons,Nat.zero_mul,List.get]
  rw [seg_append_left _ _ _ _ (by omega),←h0,seg_all]
 | cs :: css,n,hl,i+1,h=>by
  have h0:=hl cs (by simp)
  simp only [List.flatten_cons]
  rw [Nat.add_mul,Nat.one_mul,Nat.add_comm (i*n) n,seg_append_right' _ _ _ _ _ h0.symm]
  have:=seg_flatten css n (fun cs hcs=>hl cs (by simp [hcs])) i (by simpa using h)
  simpa using this
theorem length_flatten:(css:List (List Value))→(n:Nat)→(∀ cs∈css,cs.length=n)→css.flatten.length=css.length*n
 | [],n,_=>by simp
 | cs :: css,n,hl=>by
  have h0:=hl cs (by simp)
  have:=length_flatten css n (fun cs hcs=>hl cs (by simp [hcs]))
  simp only [List.flatten_cons,List.length_append,this,h0,List.length_cons,Nat.add_mul];omega
theorem madeCells_list (z:Array Value) (n:Nat) (hz:0 < z.size):(madeCells z (n*z.size)).toList=(List.replicate n z.toList).flatten:=by
 have hlen:(List.replicate n z.toList).flatten.length=n*z.size:=by rw [length_flatten_replicate,Array.length_toList]
 apply List.ext_getElem
 ·rw [hlen,Array.length_toList,size_madeCells]
 ·intro i h1 h2
  rw [hlen] at h2
  have hi:i / z.size < n:=Nat.div_lt_of_lt_mul (by rw [Nat.mul_comm];exact h2)
  have hm:=Nat.mod_lt i hz
  have hs:=seg_flatten_replicate n z.toList (i / z.size) hi
  rw [Array.length_toList] at hs
  have hdm:=Nat.div_add_mod i z.size
  have e:(List.replicate n z.toList).flatten[i]? = z.toList[i % z.size]? := by
   have:=congrArg (fun l=>l[i % z.size]?) hs
   simp only [seg,List.getElem?_take,List.getElem?_drop,hm,if_true] at this
   rw [Nat.mul_comm (i / z.size) z.size,hdm] at this
   exact this
  have e2:(madeCells z (n*z.size)).toList[i]=z[i % z.size]:=by
   simp [madeCells,hm]
  have h3:i < (List.replicate n z.toList).flatten.length:=by rw [hlen];exact h2
  rw [List.getElem?_eq_getElem h3] at e
  rw [e2]
  have h4:i % z.size < z.toList.length:=by rw [Array.length_toList];exact hm
  rw [List.getElem?_eq_getElem h4] at e
  simp only [Option.some.injEq] at e
  rw [e];simp
theorem tyFor_ok {P:Program} {c:Ctx} (htt:TtOK P c.tt) {d:Option Nat} {t:TypeId} {o:Bool} {u:Ty} (h:tyFor c d t=some (.sl o u)) :
  ∃ E v,P.underlying t=some (.slice E)∧TyOK P v E∧v.ro=u.ro:=by
 unfold tyFor at h
 split at h
 ·rename_i u' hd
  split at h
  ·rename_i v hv
   split at h
   ·rename_i hs _
    simp only [Option.some.injEq] at h
    subst h
    have hT:=htt _ _ hv
    have he:=hs.down
    cases v with
    | sl o' v=>
     simp only [TyOK] at hT
     obtain ⟨⟨E,h1,h2⟩,_⟩:=hT
     simp only [Ty.ro,Ty.sl.injEq,true_and] at he
     exact ⟨E,v,h1,h2,he.symm⟩
    | _=>simp [Ty.ro] at he
   ·simp at h
  ·simp at h
 ·have hT:=htt _ _ h
  simp only [TyOK] at hT
  obtain ⟨⟨E,h1,h2⟩,_⟩:=hT
  exact ⟨E,u,h1,h2,rfl⟩
theorem zeroCells_ro:(t:Ty)→zeroCells t.ro=zeroCells t
 | .int _=>rfl
 | .bool=>rfl
 | .str=>rfl
 | .unit=>rfl
 | .pair a b=>by simp only [Ty.ro,zeroCells,zeroCells_ro a,zeroCells_ro b]
 | .arr _ t=>by simp only [Ty.ro,zeroCells,zeroCells_ro t]
 | .sl _ _=>rfl
 | .ptr _=>rfl
 | .fn _ _=>rfl
theorem InfoOK.congr {P:Program} {T:TypeId} {u v:Ty} (h:InfoOK P T v) (e:v.ro=u.ro):InfoOK P T u:=by
 obtain ⟨i,z,h1,h2,h3,h4,h5,h6⟩:=h.info
 have hs:v.size=u.size:=by rw [←Ty.size_ro v,←Ty.size_ro u,e]
 have hz:zeroCells v=zeroCells u:=by rw [←zeroCells_ro v,←zeroCells_ro u,e]
 exact ⟨⟨i,z,h1,h2.trans hs,h3,h4,h5.trans hz,h6⟩⟩
section
variable {P:Program} {o:Oper} {a:Act} {w:World} {K:Act→World→Prop} {Q:Exit→Act→World→Prop} {c:Ctx} {σ:St} {g:Ghost} {k:St→Option R} {r:R} {base:Nat} {mo:Bool}
theorem row_new {u:Ty} {l:List u.den} {cells:Array Value} {e:TypeId} {cap:Nat} (ht:∀ b,g.tag b≠.alien→b < w.heap.size) (hu:u.isRo=true)
  (hc:l.length≤cap) (hm:cap≤maxLen) (hs:cap*u.size≤cells.size)
  (hel:∀ (i:Nat) (h:i < l.length),Rep w g none u (l.get ⟨i,h⟩) (seg cells.toList (i*u.size) u.size)) (objs:Objs) (ep:Nat) :
  ObjOK (w.alloc (.cells cells e)) (newG g w.heap.size base (.row base []) (.slice (some ⟨w.heap.size,0,none⟩) l.length cap)) objs base (.row u l ep):=by
 refine ⟨hu,some ⟨w.heap.size,0,none⟩,cap,by simp [newG],by simp [newG],hc,hm,.inr ⟨w.heap.size,0,cells,e,rfl,by simp [newG],heap_alloc_new w _,by omega,fun i hi=>?_⟩⟩
 rw [Nat.zero_add]
 exact Rep.anyOwn hu ((hel i hi).kept (newG_ro ht _))
theorem VOK_ref_new {objs:Objs} {u:Ty} {l:List u.den} {v:Value} {b0:Nat} (ho:objs base=some (.row u l 0)) (hone:v.oneCell'=true) :
  VOK w (newG g b0 base (.row base []) v) objs (.ref base [] 0) v:=by
 simp only [VOK]
 refine ⟨_,⟨v,rfl,hone,fun t l' e hx=>?_⟩,rfl⟩
 rw [ho] at hx
 simp only [Option.some.injEq,Obj.row.injEq] at hx
 obtain ⟨_,_,rfl⟩:=hx
 exact ⟨Nat.le_refl _,fun _=>by simp [newG]⟩
theorem makeSlice_run {t E:TypeId} {u:Ty} {z:u.den} (hund:P.underlying t=some (.slice E)) (hinf:InfoOK P E u) (hu:u.isRo=true) (hz:u.zero=some z) (ht:∀ b,g.tag b≠.alien→b < w.heap.size)
  (kl kc:IntKind) (l m:Int) (hl0:0≤l) (hlm:l≤m) (hroom:m≤4294967296) (objs:Objs) :
  ∃ cells,(Instr.makeSlice t (.int kl l) (.int kc m)).run P w = .ok (.slice (some ⟨w.heap.size,0,none⟩) l.toNat m.toNat) (w.alloc (.cells cells E))∧
   ObjOK (w.alloc (.cells cells E)) (newG g w.heap.size base (.row base []) (.slice (some ⟨w.heap.size,0,none⟩) l.toNat m.toNat)) objs base (.row u (List.replicate l.toNat z) 0):=by
 obtain ⟨i,zv,hi1,hi2,hi3,hi4,hi5,hi6⟩:=hinf.info
 have hbytes:(i.bytes:Int)*m≤281474976710656:=by
  have h1:(i.bytes:Int)≤32768:=by omega
  have h2:(i.bytes:Int)*m≤32768*m:=Int.mul_le_mul_of_nonneg_right h1 (by omega)
  omega
 have hrun:=run_make (P:=P) w t E i zv hund hi1 hi4 kl kc l m hl0 hlm hbytes (by omega)
 have hzs:zv.cells.size=u.size:=by rw [←Array.length_toList,hi5,zeroCells_len]
 have hcells:(madeCells zv.cells (m.toNat*i.size)).toList=(List.replicate m.toNat (zeroCells u)).flatten:=by
  rw [hi2,←hzs,madeCells_list _ _ (by rw [hzs,←hi2];exact hi6),hi5]
 have hlen:(List.replicate l.toNat z).length=l.toNat:=by simp
 have hobj:ObjOK (w.alloc (.cells (madeCells zv.cells (m.toNat*i.size)) E)) (newG g w.heap.size base (.row base []) (.slice (some ⟨w.heap.size,0,none⟩) (List.replicate l.toNat z).length m.toNat)) objs base (.row u (List.replicate l.toNat z) 0):=by
  refine row_new ht hu ?_ ?_ ?_ (fun j hj=>?_) _ _
  ·rw [hlen];omega
  ·unfold maxLen;omega
  ·rw [size_madeCells,hi2];exact Nat.le_refl _
  ·rw [hcells]
   have hj':j < l.toNat:=by rw [←hlen];exact hj
   have:=seg_flatten_replicate m.toNat (zeroCells u) j (by omega)
   rw [zeroCells_len] at this
   rw [this]
   simp only [List.get_eq_getElem,List.getElem_replicate]
   exact zero_rep hu hz
 rw [hlen] at hobj
 exact ⟨_,hrun,hobj⟩
theorem rowTy_sl {u:Ty} (h:rowTy u=true):∃ v,u = .sl true v:=by
 unfold rowTy at h
 split at h
 ·exact ⟨_,rfl⟩
 ·simp at h
theorem makeSlice_nest {t E:TypeId} {v:Ty} (hund:P.underlying t=some (.slice E)) (hinf:InfoOK P E (.sl true v))
  (kl kc:IntKind) (l m:Int) (hl0:0≤l) (hlm:l≤m) (hroom:m≤4294967296) (objs:Objs) :
  ∃ cells,(Instr.makeSlice t (.int kl l) (.int kc m)).run P w = .ok (.slice (some ⟨w.heap.size,0,none⟩) l.toNat m.toNat) (w.alloc (.cells cells E))∧
   ObjOK (w.alloc (.cells cells E)) (newG g w.heap.size base (.row base []) (.slice (some ⟨w.heap.size,0,none⟩) l.toNat m.toNat)) objs base (.nest (.sl true v) (List.replicate l.toNat ([]:List v.den)) 0 0 none):=by
 obtain ⟨i,zv,hi1,hi2,hi3,hi4,hi5,hi6⟩:=hinf.info
 have hbytes:(i.bytes:Int)*m≤281474976710656:=by
  have h1:(i.bytes:Int)≤32768:=by omega
  have h2:(i.bytes:Int)*m≤32768*m:=Int.mul_le_mul_of_nonneg_right h1 (by omega)
  omega
 have hrun:=run_make (P:=P) w t E i zv hund hi1 hi4 kl kc l m hl0 hlm hbytes (by omega)
 have hzs:zv.cells.size=1:=by rw [←Array.length_toList,hi5];rfl
 have hi2':i.size=1:=hi2
 have hcells:(madeCells zv.cells (m.toNat*i.size)).toList=(List.replicate m.toNat (zeroCells (.sl true v))).flatten:=by
  rw [hi2',←hzs,madeCells_list _ _ (by rw [hzs];omega),hi5]
 have hlen:(List.replicate l.toNat ([]:List v.den)).length=l.toNat:=by simp
 refine ⟨_,hrun,?_⟩
 show Rep _ _ (some (base,[])) (.sl true (.sl true v)) (List.replicate l.toNat ([]:List v.den)) _
 refine ⟨some ⟨w.heap.size,0,none⟩,m.toNat,by rw [hlen];simp [newG],by rw [hlen];simp [newG],by rw [hlen];omega,by unfold maxLen;omega,.inr ⟨w.heap.size,0,_,E,rfl,by simp [newG],heap_alloc_new w _,?_,fun j hj=>?_⟩⟩
 ·rw [size_madeCells,hi2'];simp [Ty.size]
 ·have hj':j < l.toNat:=by rw [←hlen];exact hj
  rw [hcells]
  have:=seg_flatten_replicate m.toNat (zeroCells (.sl true v)) j (by omega)
  rw [zeroCells_len] at this
  rw [Nat.zero_add,this]
  have hget:(List.replicate l.toNat ([]:List v.den)).get ⟨j,hj⟩=[]:=by simp
  show Rep _ _ (some (base,[]++[Step.idx (j:Int)])) (.sl true v) ((List.replicate l.toNat ([]:List v.den)).get ⟨j,hj⟩) _
  rw [hget]
  exact ⟨none,0,rfl,by simp [newG],Nat.le_refl _,Nat.zero_le _,.inl ⟨rfl,rfl,rfl⟩⟩
theorem VOK_nest_new {objs:Objs} {u:Ty} {l:List u.den} {v:Value} {b0:Nat} (ho:objs base=some (.nest u l 0 0 none)) (hone:v.oneCell'=true) :
  VOK w (newG g b0 base (.row base []) v) objs (.nv false base [] 0) v:=by
 simp only [VOK]
 refine ⟨_,⟨v,rfl,hone,fun t l' e i h hx=>?_⟩,rfl⟩
 rw [ho] at hx
 simp only [Option.some.injEq,Obj.nest.injEq] at hx
 obtain ⟨_,_,rfl,rfl,_⟩:=hx
 exact ⟨Nat.le_refl _,fun _=>⟨fun _=>by simp [newG],fun h=>(by simp at h)⟩⟩
theorem op_makeSlice (htt:TtOK P c.tt) {t:TypeId} {x y:Operand} (ho:o.op = .makeSlice t x y) (hst:StOK c.ntmps g w a σ) (hf:Fresh g σ base) (h:opK0 c σ base o k=some r) (hK:Post c.ntmps k r g w σ base mo K):o.wp P a w K Q:=by
 simp only [opK0,ho] at h
 split at h
 ·rename_i ow u htu
  split at h
  ·rename_i z kl l kc m hz hx hy
   cases hu:u.isRo with
   | false=>
    rw [hu] at h
    simp only [cond_false] at h
    cases hr:rowTy u with
    | false=>rw [hr] at h;simp at h
    | true=>
     rw [hr] at h
     simp only [cond_true] at h
     obtain ⟨v',rfl⟩:=rowTy_sl hr
     obtain ⟨hb,h⟩:=chk_some h
     simp only [Bool.and_eq_true,decide_eq_true_eq] at hb
     obtain ⟨⟨hl0,hlm⟩,hroom⟩:=hb
     obtain ⟨E,v,hund,hv,hvu⟩:=tyFor_ok htt htu
     have hinf:InfoOK P E (.sl true v'):=hv.info.congr hvu
     obtain ⟨vx,_⟩:=VOK_int (ev_ok hst hx).1
     obtain ⟨vy,_⟩:=VOK_int (ev_ok hst hy).1
     ·simp only [Ty.zero,Option.some.injEq] at hz
      subst hz
      obtain ⟨cells,hrun,hobj⟩:=makeSlice_nest (P:=P) (base:=base) (w:=w) (g:=g) hund hinf kl kc l m hl0 hlm hroom (σ.setObj base (.nest (.sl true v') (List.replicate l.toNat ([]:List v'.den)) 0 0 none)).objs
      refine wp_new (tg:=.row base []) hst hf (.inr ⟨[],rfl⟩) ?_ rfl hobj (fun y hy=>by simp at hy) (VOK_nest_new (u:=.sl true v') (l:=List.replicate (Int.toNat l) ([]:List v'.den)) (by simp [St.setObj,upd_same]) rfl) h hK
      simp only [execOp,ho,vx,vy]
      simp [hrun]
   | true=>
    rw [hu] at h
    simp only [cond_true] at h
    obtain ⟨hb,h⟩:=chk_some h
    simp only [Bool.and_eq_true,decide_eq_true_eq] at hb
    obtain ⟨⟨hl0,hlm⟩,hroom⟩:=hb
    obtain ⟨E,v,hund,hv,hvu⟩:=tyFor_ok htt htu
    have hinf:InfoOK P E u:=hv.info.congr hvu
    obtain ⟨vx,_⟩:=VOK_int (ev_ok hst hx).1
    obtain ⟨vy,_⟩:=VOK_int (ev_ok hst hy).1
    obtain ⟨cells,hrun,hobj⟩:=makeSlice_run (P:=P) (base:=base) hund hinf hu hz hst.heap.tags kl kc l m hl0 hlm hroom (σ.setObj base (.row u (List.replicate l.toNat z) 0)).objs
    refine wp_new (tg:=.row base []) hst hf (.inr ⟨[],rfl⟩) ?_ rfl hobj (fun y hy=>by simp at hy) (VOK_ref_new (u:=u) (l:=List.replicate (Int.toNat l) z) (by simp [St.setObj,upd_same]) rfl) h hK
    simp only [execOp,ho,vx,vy]
    simp [hrun]
  ·simp at h
 ·simp at h
theorem fold_set (off:Nat):(l:List Value)→(j0:Nat)→(cells:Array Value)→off+j0+l.length≤cells.size→
  ((l.zipIdx j0).foldl (fun cs (x:Value×Nat)=>cs.setIfInBounds (off+x.2) x.1) cells).toList=splice cells.toList (off+j0) l
 | [],j0,cells,_=>by simp [splice]
 | x :: l,j0,cells,h=>by
  simp only [List.length_cons] at h
  simp only [List.zipIdx_cons,List.foldl_cons]
  rw [fold_set off l (j0+1) _ (by rw [Array.size_setIfInBounds];omega)]
  simp only [splice,Array.toList_setIfInBounds,List.length_cons]
  have e1:(cells.toList.set (off+j0) x).take (off+(j0+1))=cells.toList.take (off+j0)++[x]:=by
   rw [←Nat.add_assoc,List.take_succ_eq_append_getElem (by simp;omega)]
   simp [List.take_set_of_le]
  have e2:(cells.toList.set (off+j0) x).drop (off+(j0+1)+l.length)=cells.toList.drop (off+j0+(l.length+1)):=by
   rw [List.drop_set_of_lt (by omega)]
   congr 1;omega
  rw [e1,e2]
  simp
theorem fill_ok {size:Nat}:(vs:List Value)→(j:Nat)→(cells:Array Value)→(∀ v∈vs,v.cells.size=size)→(j+vs.length)*size≤cells.size→
  ∃ cells',Instr.fill (fun i=>some (i*size,size)) cells (numbered j vs)=some cells'∧
   cells'.toList=cells.toList.take (j*size)++(vs.map (·.cells.toList)).flatten++cells.toList.drop ((j+vs.length)*size)
 | [],j,cells,_,h=>⟨cells,rfl,by simp⟩
 | v :: vs,j,cells,hv,h=>by
  have h0:=hv v (by simp)
  simp only [List.length_cons] at h
  have hmul:(j+(vs.length+1))*size=j*size+size+vs.length*size:=by rw [Nat.add_mul,Nat.add_mul];omega
  have hmul2:(j+1+vs.length)*size=j*size+size+vs.length*size:=by rw [Nat.add_mul,Nat.add_mul];omega
  have hfold:=fold_set (j*size) v.cells.toList 0 cells (by rw [Array.length_toList,h0];omega)
  let cells2:Array Value:=(v.cells.toList.zipIdx 0).foldl (fun cs (x:Value×Nat)=>cs.setIfInBounds (j*size+x.2) x.1) cells
  have hc2:cells2.toList=splice cells.toList (j*size) v.cells.toList:=hfold
  have hsz2:cells2.size=cells.size:=by
   rw [←Array.length_toList,hc2,splice_length _ _ _ (by rw [Array.length_toList,Array.length_toList,h0];omega),Array.length_toList]
  obtain ⟨cells',h1,h2⟩:=fill_ok vs (j+1) cells2 (fun u hu=>hv u (by simp [hu])) (by rw [hsz2,hmul2];omega)
  refine ⟨cells',?_,?_⟩
  ·simp only [numbered,Instr.fill]
   rw [if_neg (by simp [h0];omega)]
   rw [←h1]
   congr 1
   show v.cells.zipIdx.foldl _ cells=cells2
   rw [←Array.foldl_toList,Array.toList_zipIdx]
  ·rw [h2,hc2]
   have hvl:v.cells.toList.length=size:=by rw [Array.length_toList,h0]
   have e1:(splice cells.toList (j*size) v.cells.toList).take ((j+1)*size)=cells.toList.take (j*size)++v.cells.toList:=by
    simp only [splice]
    rw [List.take_append_of_le_length (by simp [hvl];rw [Nat.add_mul];omega)]
    rw [List.take_of_length_le (by simp [hvl];rw [Nat.add_mul];omega)]
   have e2:(splice cells.toList (j*size) v.cells.toList).drop ((j+1+vs.length)*size)=cells.toList.drop ((j+(vs.length+1))*size):=by
    obtain ⟨q,hq⟩:∃ q,(j+1+vs.length)*size=(j*size+size)+q:=⟨vs.length*size,hmul2⟩
    have hq2:(j+(vs.length+1))*size=j*size+size+q:=by rw [hmul];rw [hmul2] at hq;omega
    rw [hq,hq2]
    simp only [splice]
    rw [List.drop_append,List.drop_eq_nil_of_le (by simp [hvl];omega),List.nil_append,List.drop_drop]
    congr 1
    simp [hvl];omega
   rw [e1,e2]
   simp [List.append_assoc]
theorem parts_ok {u:Ty} (hu:u.isRo=true):{l:List (Nat×Operand)}→{σ:St}→{g:Ghost}→{k:List u.den→St→Option R}→{r:R}→{n:Nat}→
  StOK n g w a σ→parts σ u l k=some r→
  ∃ ds σ' g' css,k ds σ'=some r∧σ'.slots=σ.slots∧σ'.next=σ.next∧Shrunk g σ.objs g' σ'.objs∧ds.length=l.length∧
   l.map (fun x=>(a.eval x.2).cells.toList)=css∧(∀ cs∈css,cs.length=u.size)∧
   ∀ (i:Nat) (h:i < ds.length) (h':i < css.length),Rep w g' none u (ds.get ⟨i,h⟩) (css.get ⟨i,h'⟩)
 | [],σ,g,k,r,n,hst,h=>⟨[],σ,g,[],h,rfl,rfl,.refl _ _,rfl,rfl,by simp,fun i h=>by simp at h⟩
 | (j,x) :: l,σ,g,k,r,n,hst,h=>by
  simp only [parts] at h
  split at h
  ·rename_i av hav
   obtain ⟨ex,ef⟩:=ev_ok hst hav
   cases hb:av.val with
   | false=>rw [hb] at h;simp at h
   | true=>
    rw [hb] at h
    simp only [cond_true] at h
    obtain ⟨cs,hok,hmk,hcells⟩:=VOK_valueCells hb ex
    obtain ⟨d,σ1,g1,hk,h1,h2,h3,hrep⟩:=give_ok 20 hst.heap hok hu h
    obtain ⟨ds,σ2,g2,css,hk2,h4,h5,h6,h7,h8,h9,h10⟩:=parts_ok hu (h3.st h1 hst) hk
    refine ⟨d :: ds,σ2,g2,cs :: css,hk2,h4.trans h1,h5.trans h2,h3.trans h6,by simp [h7],?_,?_,?_⟩
    ·simp only [List.map_cons,hcells,h8]
    ·intro c hc
     rcases List.mem_cons.1 hc with rfl | hc
     ·exact hrep.len
     ·exact h9 c hc
    ·intro i hi hi'
     cases i with
     | zero=>exact hrep.kept (h6.ro w)
     | succ i=>exact h10 i (by simpa using hi) (by simpa using hi')
  ·simp at h
theorem inOrder_numbered:{l:List (Nat×Operand)}→{j:Nat}→inOrder j l=true→(f:Operand→Value)→l.map (fun x=>(x.1,f x.2))=numbered j (l.map fun x=>f x.2)
 | [],_,_,_=>rfl
 | (i,x) :: l,j,h,f=>by
  simp only [inOrder,Bool.and_eq_true] at h
  have he:=Nat.eq_of_beq_eq_true h.1
  simp only [List.map_cons,numbered,inOrder_numbered h.2 f,he]
theorem op_buildSlice (htt:TtOK P c.tt) {t:TypeId} {len:Nat} {ps:Array (Nat×Operand)} (ho:o.op = .buildSlice t len ps) (hst:StOK c.ntmps g w a σ) (hf:Fresh g σ base) (h:opK0 c σ base o k=some r) (hK:Post c.ntmps k r g w σ base mo K):o.wp P a w K Q:=by
 simp only [opK0,ho] at h
 split at h
 ·rename_i ow u htu
  cases hb:(u.isRo && inOrder 0 ps.toList && Nat.beq ps.toList.length len && Nat.ble (len*u.size) 100000) with
  | false=>rw [hb] at h;simp at h
  | true=>
   rw [hb] at h
   simp only [cond_true] at h
   simp only [Bool.and_eq_true] at hb
   obtain ⟨⟨⟨hu,hin⟩,hlen⟩,hbig⟩:=hb
   have hlen:=Nat.eq_of_beq_eq_true hlen
   have hbig:=Nat.le_of_ble_eq_true hbig
   obtain ⟨E,v,hund,hv,hvu⟩:=tyFor_ok htt htu
   have hinf:InfoOK P E u:=hv.info.congr hvu
   obtain ⟨i,zv,hi1,hi2,hi3,hi4,hi5,hi6⟩:=hinf.info
   obtain ⟨ds,σ1,g1,css,hk,h1,h2,h3,h4,h5,h6,h7⟩:=parts_ok hu hst h
   have hst1:=h3.st h1 hst
   have hf1:=h3.fresh h1 hf
   let vs:List Value:=ps.toList.map fun x=>a.eval x.2
   have hvs:∀ v∈vs,v.cells.size=u.size:=by
    intro v hv
    obtain ⟨x,hx,rfl⟩:=List.mem_map.1 hv
    rw [←Array.length_toList]
    exact h6 _ (by rw [←h5];exact List.mem_map.2 ⟨x,hx,rfl⟩)
   have hvl:vs.length=len:=by simp [vs];rw [←hlen];simp
   let zeros:Array Value:=(Array.range (len*i.size)).map (zv.cells[· % zv.cells.size]!)
   let zeros0:Array Value:=(Array.range (len*i.size)).map ((#[]:Array Value)[· % (#[]:Array Value).size]!)
   have hzsz:zeros.size=len*u.size:=by simp [zeros,hi2]
   obtain ⟨cells,hfill,hcl⟩:=fill_ok vs 0 zeros hvs (by rw [hzsz,Nat.zero_add,hvl];exact Nat.le_refl _)
   have hcl':cells.toList=css.flatten:=by
    rw [hcl]
    simp only [Nat.zero_mul,List.take_zero,List.nil_append,Nat.zero_add,hvl]
    rw [List.drop_eq_nil_of_le (by rw [Array.length_toList,hzsz];exact Nat.le_refl _),List.append_nil]
    rw [←h5]
    simp [vs]
    rfl
   have hcssl:css.length=len:=by rw [←h5];simp [←hlen]
   have hnum:ps.toList.map (fun x=>(x.1,a.eval x.2))=numbered 0 vs:=inOrder_numbered hin a.eval
   have hrun:(Instr.buildSlice t len (ps.map fun x=>(x.1,a.eval x.2))).run P w = .ok (.slice (some ⟨w.heap.size,0,none⟩) len len) (w.alloc (.cells cells E)):=by
    have hnb:¬ (2 ^ 24 < len*i.size):=by rw [hi2];omega
    unfold Instr.buildSlice
    simp only [Sem.run_bind,run_underlying hund,Result.andThen_ok]
    by_cases hz:len*i.size=0
    ·have hl0:len=0:=by
      rcases Nat.mul_eq_zero.1 hz with h0 | h0
      ·exact h0
      ·omega
     have hps:ps = #[]:=by apply Array.toList_inj.1;exact List.eq_nil_of_length_eq_zero (hlen.trans hl0)
     have hc0:cells.toList=[]:=by
      rw [hcl',List.eq_nil_of_length_eq_zero (hcssl.trans hl0)];rfl
     have hc0':cells = #[]:=by apply Array.toList_inj.1;rw [hc0]
     simp [Go.sizeOf,typeInfo,hi1,hl0,hps,Instr.fill,newRow,hc0',Array.range_zero']
    ·have hfill':=hfill
     simp only [zeros] at hfill'
     rw [←hi2] at hfill'
     simp [Go.sizeOf,typeInfo,hi1,hnb,hz,zeroValue,hi4,hnum,hfill',newRow]
   have hobj:ObjOK (w.alloc (.cells cells E)) (newG g1 w.heap.size base (.row base []) (.slice (some ⟨w.heap.size,0,none⟩) ds.length len)) (σ1.setObj base (.row u ds 0)).objs base (.row u ds 0):=by
    refine row_new hst1.heap.tags hu ?_ ?_ ?_ (fun j hj=>?_) _ _
    ·rw [h4,hlen];exact Nat.le_refl _
    ·have:len*1≤len*u.size:=Nat.mul_le_mul_left _ (by omega)
     unfold maxLen;omega
    ·rw [←Array.length_toList,hcl',length_flatten css u.size h6,hcssl];exact Nat.le_refl _
    ·rw [hcl',seg_flatten css u.size h6 j (by rw [hcssl,←hlen,←h4];exact hj)]
     exact h7 j hj _
   have hdl:ds.length=len:=h4.trans hlen
   rw [hdl] at hobj
   have hK1:Post c.ntmps k r g1 w σ1 base mo K:=by
    intro σ' g' a' w' hk' hst' hext hfr hnext hag
    exact hK σ' g' a' w' hk' hst' (h3.ext.trans hext) (fun m hm hfm=>hfr m hm (h3.fresh h1 hfm)) (hnext.trans h2) hag
   cases hfz:froz c o.dst with
   | true=>
    rw [hfz] at hk
    simp only [cond_true] at hk
    obtain ⟨_,a',cap',hcs',_,hlc',hcm',hrow'⟩:=hobj
    have hrep:Rep (w.alloc (.cells cells E)) (newG g1 w.heap.size base .ro (.slice (some ⟨w.heap.size,0,none⟩) len len)) none (.sl false u) ds [.slice (some ⟨w.heap.size,0,none⟩) len len]:=by
     refine ⟨some ⟨w.heap.size,0,none⟩,len,by rw [hdl],by rw [hdl];exact Nat.le_refl _,?_,fun hne=>⟨w.heap.size,0,cells,E,(0,0),rfl,by simp [newG],heap_alloc_new w _,?_,fun j hj=>?_⟩⟩
     ·have:len*1≤len*u.size:=Nat.mul_le_mul_left _ (by omega)
      unfold maxLen;omega
     ·rw [hdl,←Array.length_toList,hcl',length_flatten css u.size h6,hcssl,Nat.zero_add];exact Nat.le_refl _
     ·rw [Nat.zero_add,hcl',seg_flatten css u.size h6 j (by rw [hcssl,←hdl];exact hj)]
      exact (h7 j hj _).kept (newG_ro hst1.heap.tags _)
    refine wp_newRo (v':=.slice (some ⟨w.heap.size,0,none⟩) len len) (t:=.sl false u) hst1 hf1 ?_ (by simpa [Ty.isRo] using hu) hrep rfl hk hK1
    simp only [execOp,ho]
    simp [hrun]
   | false=>
   rw [hfz] at hk
   simp only [cond_false] at hk
   refine wp_new (tg:=.row base []) hst1 hf1 (.inr ⟨[],rfl⟩) ?_ rfl hobj (fun y hy=>by simp at hy) (VOK_ref_new (u:=u) (l:=ds) (by simp [St.setObj,upd_same]) rfl) hk hK1
   simp only [execOp,ho]
   simp [hrun]
 ·simp at h
end
end Go.Kz
namespace Go.Kz
def PlOK (place:Nat→Option (Nat×Nat)):Nat→Nat→List Value→Prop
 | _,_,[]=>True
 | j,off,v :: vs=>place j=some (off,v.cells.size)∧PlOK place (j+1) (off+v.cells.size) vs
def PlL:List (Nat×Nat)→Nat→List Value→Prop
 | [],_,[]=>True
 | p :: pl,off,v :: vs=>p=(off,v.cells.size)∧PlL pl (off+v.cells.size) vs
 | _,_,_=>False
theorem PlL.ok:{pl:List (Nat×Nat)}→{off:Nat}→{vs:List Value}→PlL pl off vs→(pre:List (Nat×Nat))→PlOK (fun i=>(pre++pl).toArray[i]?) pre.length off vs
 | [],_,[],_,_=>trivial
 | p :: pl,off,v :: vs,h,pre=>by
  obtain ⟨h1,h2⟩:=h
  refine ⟨by simp [h1],?_⟩
  have:=h2.ok (pre++[p])
  simp only [List.append_assoc,List.singleton_append,List.length_append,List.length_singleton] at this
  exact this
 | [],_,_ :: _,h,_=>h.elim
 | _ :: _,_,[],h,_=>h.elim
section
variable {P:Program} {w:World}
theorem run_sizeOf' {T:TypeId} {t:Ty} (h:InfoOK P T t) (w:World):(Go.sizeOf T).run P w = .ok t.size w:=by
 obtain ⟨i,z,h1,h2,_⟩:=h.info
 simp [Go.sizeOf,typeInfo,h1,h2]
end
section
variable {R:Type} {P:Program} {o:Oper} {a:Act} {w:World} {c:Ctx} {σ:St} {g:Ghost} {k:St→Option R} {r:R} {base:Nat}
def FillOK (P:Program) (w:World) (g:Ghost) (σ:St) (a:Act) (u:Ty) (fs:List Field) (off i:Nat) (l:List (Nat×Operand)) (av:AVal):Prop:=
 ∃ pl:List (Nat×Nat),(∀ w',(fs.mapM (m:=Sem) fun f=>do pure (f.offset,←Go.sizeOf f.type)).run P w' = .ok pl w')∧(∀ m,Fresh g σ m→m∉av.ids)∧
  ∀ (pre:List (Nat×Nat)) (cells:Array Value),pre.length=i→cells.toList.drop off=zeroCells u→off≤cells.size→
   ∃ cells',Instr.fill (fun i=>(pre++pl).toArray[i]?) cells (l.map fun x=>(x.1,a.eval x.2))=some cells'∧cells'.toList.take off=cells.toList.take off∧cells'.size=cells.size∧AOK w g σ.objs av (cells'.toList.drop off)
theorem fillA_ok {n:Nat} (hst:StOK n g w a σ):{u:Ty}→{fs:List Field}→{off i:Nat}→{l:List (Nat×Operand)}→{av:AVal}→fillA σ u i l=some av→av.sk=u.sk→FsOK P u fs off→FillOK P w g σ a u fs off i l av
 | .unit,[],off,i,[],av,h,_,_=>by
  simp only [fillA,Option.some.injEq] at h
  subst h
  refine ⟨[],fun w'=>rfl,fun m _=>by simp [AVal.ids],fun pre cells _ hz _=>⟨cells,rfl,rfl,rfl,?_⟩⟩
  rw [hz];rfl
 | .unit,_ :: _,off,i,l,av,_,_,hf=>by simp [FsOK] at hf
 | .unit,[],off,i,_ :: _,av,h,_,_=>by simp [fillA] at h
 | .pair t u,[],off,i,l,av,_,_,hf=>by simp [FsOK] at hf
 | .pair t u,f :: fs,off,i,l,av,h,hs,hf=>by
  simp only [FsOK] at hf
  obtain ⟨f1,f2,f3⟩:=hf
  have hzl:(zeroCells t).length=t.size:=zeroCells_len t
  have skip:∀ z c,zeroA t=some z→fillA σ u (i+1) l=some c→av = .pr z c→FillOK P w g σ a (.pair t u) (f :: fs) off i l av:=fun z c hz hc hav=>by
   subst hav
   simp only [AVal.sk,Ty.sk,Sk.pair.injEq] at hs
   obtain ⟨z1,z2,z3,z4⟩:=zeroA_ok (w:=w) (g:=g) (objs:=σ.objs) hz
   obtain ⟨pl,p1,p2,p3⟩:=fillA_ok hst hc hs.2 f3
   exact (⟨(off,t.size) :: pl,fun w'=>by
    have:=p1 w'
    simp only [List.mapM_cons,Sem.run_bind,run_sizeOf' f2.info,Result.andThen_ok,Sem.run_pure,this,f1],fun m hm=>by
    simp only [AVal.ids,z2,List.nil_append];exact p2 m hm,fun pre cells hpre hzc hoff=>by
    have hzc2:cells.toList.drop (off+t.size)=zeroCells u:=by
     rw [←List.drop_drop,hzc]
     simp only [zeroCells]
     rw [←hzl];exact List.drop_left
    have hlen:off+t.size≤cells.size:=by
     have:=congrArg List.length hzc
     simp only [List.length_drop,zeroCells,List.length_append,Array.length_toList,hzl] at this
     omega
    obtain ⟨cells',q1,q2,q3,q4⟩:=p3 (pre++[(off,t.size)]) cells (by simp [hpre]) hzc2 hlen
    refine ⟨cells',by simpa [List.append_assoc] using q1,?_,q3,?_⟩
    ·have:=congrArg (List.take off) q2
     rw [List.take_take,List.take_take,Nat.min_eq_left (by omega)] at this
     exact this
    ·have e:cells'.toList.drop off=zeroCells t++cells'.toList.drop (off+t.size):=by
      have h1:cells'.toList.drop off=(cells'.toList.take (off+t.size)).drop off++cells'.toList.drop (off+t.size):=by
       rw [←List.drop_append_of_le_length (by simp;omega),List.take_append_drop]
      rw [h1,q2]
      congr 1
      rw [List.drop_take,hzc,show off+t.size-off=t.size from by omega,←hzl]
      simp only [zeroCells]
      exact List.take_left
     rw [e]
     exact ⟨_,_,rfl,z3,q4⟩⟩)
  cases l with
  | nil=>
   simp only [fillA] at h
   split at h
   ·rename_i z c hz hc
    simp only [Option.some.injEq] at h
    subst h
    exact skip z c hz hc rfl
   ·simp at h
  | cons jx l=>
   obtain ⟨j,x⟩:=jx
   simp only [fillA] at h
   cases hj:Nat.beq i j with
   | false=>
    rw [hj] at h
    simp only [cond_false] at h
    split at h
    ·rename_i z c hz hc
     simp only [Option.some.injEq] at h
     subst h
     exact skip z c hz hc rfl
    ·simp at h
   | true=>
    have hij:=Nat.eq_of_beq_eq_true hj
    subst hij
    rw [hj] at h
    simp only [cond_true] at h
    split at h
    ·rename_i v c hv hc
     cases hval:v.val with
     | false=>rw [hval] at h;simp at h
     | true=>
      rw [hval] at h
      simp only [cond_true,Option.some.injEq] at h
      subst h
      simp only [AVal.sk,Ty.sk,Sk.pair.injEq] at hs
      obtain ⟨pl,p1,p2,p3⟩:=fillA_ok hst hc hs.2 f3
      obtain ⟨e1,e2⟩:=ev_ok hst hv
      obtain ⟨cs,c1,c2,c3⟩:=VOK_valueCells hval e1
      have hsz:(a.eval x).cells.size=t.size:=by rw [←Array.length_toList,c3,c1.len,hs.1,Ty.sk_size]
      refine ⟨(off,t.size) :: pl,fun w'=>by
       have:=p1 w'
       simp only [List.mapM_cons,Sem.run_bind,run_sizeOf' f2.info,Result.andThen_ok,Sem.run_pure,this,f1],fun m hm=>by
       simp only [AVal.ids,List.mem_append,not_or];exact ⟨e2 m hm,p2 m hm⟩,fun pre cells hpre hzc hoff=>?_⟩
      have hlen:off+t.size≤cells.size:=by
       have:=congrArg List.length hzc
       simp only [List.length_drop,zeroCells,List.length_append,Array.length_toList,hzl] at this
       omega
      have hfold:=fold_set off (a.eval x).cells.toList 0 cells (by rw [Array.length_toList];omega)
      let cells2:Array Value:=((a.eval x).cells.toList.zipIdx 0).foldl (fun cs (x:Value×Nat)=>cs.setIfInBounds (off+x.2) x.1) cells
      have hc2:cells2.toList=splice cells.toList off (a.eval x).cells.toList:=hfold
      have hl2:(a.eval x).cells.toList.length=t.size:=by rw [Array.length_toList,hsz]
      have hsz2:cells2.size=cells.size:=by
       rw [←Array.length_toList,hc2,splice_length _ _ _ (by rw [hl2,Array.length_toList];omega),Array.length_toList]
      have htk:(cells.toList.take off).length=off:=by simp;omega
      have hzc2:cells2.toList.drop (off+t.size)=zeroCells u:=by
       rw [hc2]
       simp only [splice]
       rw [List.drop_append,List.drop_eq_nil_of_le (by rw [List.length_append,htk,hl2];omega),List.nil_append,List.length_append,htk,hl2,Nat.sub_self,List.drop_zero,←List.drop_drop,hzc]
       simp only [zeroCells]
       rw [←hzl];exact List.drop_left
      obtain ⟨cells',q1,q2,q3,q4⟩:=p3 (pre++[(off,t.size)]) cells2 (by simp [hpre]) hzc2 (by rw [hsz2];exact hlen)
      have htake:cells'.toList.take (off+t.size)=cells.toList.take off++(a.eval x).cells.toList:=by
       rw [q2,hc2]
       simp only [splice]
       rw [List.take_append_of_le_length (by rw [List.length_append,htk,hl2];omega),List.take_of_length_le (by rw [List.length_append,htk,hl2];omega)]
      refine ⟨cells',?_,?_,by rw [q3,hsz2],?_⟩
      ·simp only [List.map_cons,Instr.fill]
       have hpl:(pre++(off,t.size) :: pl).toArray[i]? = some (off,t.size):=by
        rw [←hpre];simp
       simp only [hpl]
       rw [if_neg (by rw [hsz];simp;omega)]
       rw [show pre++(off,t.size) :: pl=pre++[(off,t.size)]++pl from by simp]
       rw [←q1]
       congr 1
       show (a.eval x).cells.zipIdx.foldl _ cells=cells2
       rw [←Array.foldl_toList,Array.toList_zipIdx]
      ·have:=congrArg (List.take off) htake
       rw [List.take_take,Nat.min_eq_left (by omega)] at this
       rw [this,List.take_append_of_le_length (by omega),List.take_of_length_le (by omega)]
      ·have e:cells'.toList.drop off=(a.eval x).cells.toList++cells'.toList.drop (off+t.size):=by
        have h1:cells'.toList.drop off=(cells'.toList.take (off+t.size)).drop off++cells'.toList.drop (off+t.size):=by
         rw [←List.drop_append_of_le_length (by simp;omega),List.take_append_drop]
        rw [h1,htake]
        congr 1
        rw [List.drop_append,List.drop_eq_nil_of_le (by omega),List.nil_append,htk,Nat.sub_self,List.drop_zero]
       rw [e,c3]
       exact ⟨_,_,rfl,c1,q4⟩
    ·simp at h
 | .int _,fs,_,_,l,_,h,_,_=>by simp [fillA] at h
 | .bool,fs,_,_,l,_,h,_,_=>by simp [fillA] at h
 | .str,fs,_,_,l,_,h,_,_=>by simp [fillA] at h
 | .arr _ _,fs,_,_,l,_,h,_,_=>by simp [fillA] at h
 | .sl _ _,fs,_,_,l,_,h,_,_=>by simp [fillA] at h
 | .ptr _,fs,_,_,l,_,h,_,_=>by simp [fillA] at h
 | .fn _ _,fs,_,_,l,_,h,_,_=>by simp [fillA] at h
theorem chainD_ok {objs:Objs} {t:Ty}:{av:AVal}→{vs:List Value}→{f:List t.den→Option R}→{r:R}→VsOK w g objs av vs→keyTy t=true→chainD t av f=some r→
  ∃ l:List t.den,f l=some r∧l.length=vs.length∧(∀ v∈vs,v.cells.size=1)∧∀ (i:Nat) (h:i < l.length),Rep w g none t (l.get ⟨i,h⟩) (seg ((vs.map (·.cells.toList)).flatten) (i*1) 1)
 | .un,vs,f,r,hv,_,h=>by
  simp only [VsOK] at hv
  subst hv
  simp only [chainD] at h
  exact ⟨[],h,rfl,by simp,fun i hi=>by simp at hi⟩
 | .pr (.data u d) c,vs,f,r,hv,hk,h=>by
  simp only [VsOK] at hv
  obtain ⟨v,rest,rfl,h1,h2⟩:=hv
  simp only [chainD] at h
  obtain ⟨e,h⟩:=castK_some h
  subst e
  obtain ⟨l,k1,k2,k3,k4⟩:=chainD_ok h2 hk h
  simp only [VOK] at h1
  obtain ⟨cs,⟨_,hrep⟩,hval⟩:=h1
  have hs1:u.size=1:=by cases u <;> simp [keyTy] at hk <;> rfl
  have hna:u.sk.isAgg=false:=by cases u <;> simp [keyTy] at hk <;> rfl
  obtain ⟨z,rfl⟩:=hrep.noAgg hna
  have hvz:v=z:=by rw [hval];simp [mkV,AVal.isAgg,hna]
  have hone:=hrep.one z (by simp)
  have hc:v.cells.toList=[z]:=by
   subst hvz
   cases v <;> simp [Value.oneCell'] at hone <;> rfl
  refine ⟨d :: l,k1,by simp [k2],fun x hx=>?_,fun i hi=>?_⟩
  ·rcases List.mem_cons.1 hx with rfl | hx
   ·rw [←Array.length_toList,hc];rfl
   ·exact k3 x hx
  ·simp only [List.map_cons,List.flatten_cons,hc]
   cases i with
   | zero=>simpa [seg] using hrep
   | succ i=>
    have:=k4 i (by simpa using hi)
    simp only [Nat.mul_one] at this ⊢
    have e3:=seg_append_right' [z] (rest.map (·.cells.toList)).flatten 1 i 1 rfl
    rw [Nat.add_comm 1 i] at e3
    rw [e3]
    exact this
 | .pr (.nilS) _,_,_,_,_,_,h=>by simp [chainD] at h
 | .pr (.ref _ _ _) _,_,_,_,_,_,h=>by simp [chainD] at h
 | .pr (.view _ _ _ _ _) _,_,_,_,_,_,h=>by simp [chainD] at h
 | .pr (.bptr _ _) _,_,_,_,_,_,h=>by simp [chainD] at h
 | .pr (.eptr _ _ _) _,_,_,_,_,_,h=>by simp [chainD] at h
 | .pr (.mref _) _,_,_,_,_,_,h=>by simp [chainD] at h
 | .pr (.nv _ _ _ _) _,_,_,_,_,_,h=>by simp [chainD] at h
 | .pr (.clos _ _) _,_,_,_,_,_,h=>by simp [chainD] at h
 | .pr (.agg _) _,_,_,_,_,_,h=>by simp [chainD] at h
 | .pr (.tup _) _,_,_,_,_,_,h=>by simp [chainD] at h
 | .pr (.pr _ _) _,_,_,_,_,_,h=>by simp [chainD] at h
 | .pr .un _,_,_,_,_,_,h=>by simp [chainD] at h
 | .data _ _,_,_,_,_,_,h=>by simp [chainD] at h
 | .nilS,_,_,_,_,_,h=>by simp [chainD] at h
 | .ref _ _ _,_,_,_,_,_,h=>by simp [chainD] at h
 | .view _ _ _ _ _,_,_,_,_,_,h=>by simp [chainD] at h
 | .bptr _ _,_,_,_,_,_,h=>by simp [chainD] at h
 | .eptr _ _ _,_,_,_,_,_,h=>by simp [chainD] at h
 | .mref _,_,_,_,_,_,h=>by simp [chainD] at h
 | .nv _ _ _ _,_,_,_,_,_,h=>by simp [chainD] at h
 | .clos _ _,_,_,_,_,_,h=>by simp [chainD] at h
 | .agg _,_,_,_,_,_,h=>by simp [chainD] at h
 | .tup _,_,_,_,_,_,h=>by simp [chainD] at h
theorem op_build (htt:TtOK P c.tt) {t:TypeId} {ps:Array (Nat×Operand)} (ho:o.op = .build t ps) (hst:StOK c.ntmps g w a σ) (h:opK0 c σ base o k=some r):Yield P o a w g σ c k r:=by
 simp only [opK0,ho] at h
 split at h
 ·-- a struct
  rename_i x y htu
  split at h
  ·rename_i av hfill
   cases hb:av.sk.same (Ty.pair x y).sk with
   | false=>rw [hb] at h;simp at h
   | true=>
    rw [hb] at h
    simp only [cond_true] at h
    have hs:=Sk.same_eq hb
    have hT:=htt _ _ htu
    simp only [TyOK] at hT
    obtain ⟨⟨fs,hu,hf⟩,hinf⟩:=hT
    obtain ⟨i,z,i1,i2,i3,i4,i5,i6⟩:=hinf.info
    obtain ⟨pl,p1,p2,p3⟩:=fillA_ok (P:=P) hst hfill hs hf
    obtain ⟨cells,q1,_,_,q4⟩:=p3 [] z.cells rfl (by rw [List.drop_zero,i5]) (Nat.zero_le _)
    rw [List.drop_zero] at q4
    simp only [List.nil_append] at q1
    have hmap:∀ w',(fs.mapM (m:=Sem) fun f=>do pure (f.offset,←Go.sizeOf f.type)).run P w' = .ok pl.toArray w':=fun w'=>by
     have hp:=p1 w'
     rw [Array.mapM_eq_mapM_toList,←bind_pure_comp]
     simp only [Sem.run_bind,hp,Result.andThen_ok,Sem.run_pure]
    refine yld (v:=.agg cells) (fun w' _=>?_) ?_ (fun m hm=>by have:=p2 m hm;simpa [AVal.ids] using this) h
    ·have hz:(zeroValue t).run P w' = .ok z w':=by simp [zeroValue,typeInfo,i1,i4]
     have:(Instr.build t (ps.map fun x=>(x.1,a.eval x.2))).run P w' = .ok (.agg cells) w':=by
      unfold Instr.build
      simp only [Sem.run_bind,hz,run_underlying hu,Result.andThen_ok,Sem.run_pure,hmap w',Array.toList_map,q1]
     simp [execOp,ho,this]
    ·simp only [VOK]
     exact ⟨_,by simp only [AOK];exact q4,by simp [mkV,AVal.isAgg]⟩
  ·simp at h
 ·-- an array
  rename_i n u htu
  split at h
  ·rename_i av hev
   cases hb:(inOrder 0 ps.toList && Nat.beq ps.toList.length n && keyTy u) with
   | false=>rw [hb] at h;simp at h
   | true=>
    rw [hb] at h
    simp only [cond_true] at h
    simp only [Bool.and_eq_true] at hb
    obtain ⟨⟨h1,h2⟩,h3⟩:=hb
    have hn:=Nat.eq_of_beq_eq_true h2
    obtain ⟨hv,hf⟩:=evs_ok hst hev
    have hs1:u.size=1:=by cases u <;> simp [keyTy] at h3 <;> rfl
    have hro:u.isRo=true:=by cases u <;> simp [keyTy] at h3 <;> rfl
    obtain ⟨l,k1,k2,k3,k4⟩:=chainD_ok hv h3 h
    have hT:=htt _ _ htu
    simp only [TyOK] at hT
    obtain ⟨⟨E,hu,hE⟩,hinf⟩:=hT
    obtain ⟨i,z,i1,i2,i3,i4,i5,i6⟩:=hinf.info
    have hnum:ps.toList.map (fun x=>(x.1,a.eval x.2))=numbered 0 ((ps.toList.map (·.2)).map a.eval):=by
     rw [inOrder_numbered h1 a.eval,List.map_map];rfl
    have hvl:((ps.toList.map (·.2)).map a.eval).length=n:=by simp [←hn]
    have hzs:z.cells.size=n:=by
     rw [←Array.length_toList,i5]
     have:=zeroCells_len (.arr n u)
     rw [this];simp [Ty.size,hs1]
    obtain ⟨cells,f1,f2⟩:=fill_ok (size:=1) ((ps.toList.map (·.2)).map a.eval) 0 z.cells k3 (by rw [hvl,hzs];omega)
    have hcl:cells.toList=(((ps.toList.map (·.2)).map a.eval).map (·.cells.toList)).flatten:=by
     rw [f2,hvl]
     simp only [Nat.zero_mul,List.take_zero,List.nil_append,Nat.zero_add,Nat.mul_one]
     rw [List.drop_eq_nil_of_le (by rw [Array.length_toList,hzs];exact Nat.le_refl _),List.append_nil]
    refine yld (v:=.agg cells) (fun w' _=>?_) ?_ (fun m _=>by simp [AVal.ids]) k1
    ·have hz:(zeroValue t).run P w' = .ok z w':=by simp [zeroValue,typeInfo,i1,i4]
     have hsz:=run_sizeOf' hE.info w'
     rw [hs1] at hsz
     have:(Instr.build t (ps.map fun x=>(x.1,a.eval x.2))).run P w' = .ok (.agg cells) w':=by
      unfold Instr.build
      simp only [Sem.run_bind,hz,run_underlying hu,hsz,Result.andThen_ok,Sem.run_pure,Array.toList_map,hnum,f1]
     simp [execOp,ho,this]
    ·simp only [VOK]
     refine ⟨cells.toList,⟨hro,by rw [k2,hvl],?_,fun j hj=>?_⟩,by simp [mkV,AVal.isAgg,Ty.sk,Sk.isAgg]⟩
     ·rw [hcl,length_flatten _ 1 (fun cs hcs=>by
       obtain ⟨v,hv,rfl⟩:=List.mem_map.1 hcs
       rw [Array.length_toList];exact k3 v hv),List.length_map,hvl,hs1]
     ·have:=k4 j hj
      rw [hs1,hcl]
      exact Rep.anyOwn hro this
  ·simp at h
 ·simp at h
end
end Go.Kz
namespace Go.Kz
variable {R:Type}
structure Rewrote (w:World) (g:Ghost) (w':World) (g':Ghost) (id b0:Nat):Prop where
 heap:∀ b,b≠b0→w'.heap[b]? = w.heap[b]?
 size:w'.heap.size=w.heap.size
 os:w'.os=w.os
 tape:w'.tape=w.tape
 output:w'.output=w.output
 drawn:w'.drawn=w.drawn
 own:(∃ p,g.tag b0 = .row id p)∨g.tag b0 = .box id
 tag:g'.tag=g.tag
 blk:g'.blk=g.blk
 sv:∀ i,i≠id→g'.sv i=g.sv i
theorem Rewrote.notRo {w w':World} {g g':Ghost} {id b0:Nat} (h:Rewrote w g w' g' id b0) {b:Nat} (hb:g.tag b = .ro∨g.tag b = .alien):b≠b0:=by
 intro he;subst he
 rcases h.own with ⟨p,h⟩ | h <;> rw [h] at hb <;> simp at hb
theorem Rewrote.ro {w w':World} {g g':Ghost} {id b0:Nat} (h:Rewrote w g w' g' id b0):RoKept w g w' g':=
 ⟨fun b hb=>⟨by rw [h.tag];exact hb,h.heap b (h.notRo (.inl hb))⟩⟩
theorem Rewrote.same {w w':World} {g g':Ghost} {id b0:Nat} (h:Rewrote w g w' g' id b0) {i:Nat} (hi:i≠id):Same w g w' g' i:=by
 refine ⟨⟨fun q=>by rw [h.sv i hi],fun q b hb=>⟨by rw [h.tag];exact hb,h.heap b ?_⟩⟩,by rw [h.blk],fun hb=>⟨by rw [h.tag];exact hb,h.heap _ ?_⟩⟩
 ·intro he;subst he
  rcases h.own with ⟨p,h⟩ | h <;> rw [h] at hb <;> simp at hb
  exact hi hb.1.symm
 ·intro he;rw [he] at hb
  rcases h.own with ⟨p,h⟩ | h <;> rw [h] at hb <;> simp at hb
  exact hi hb.symm
theorem Rewrote.ext {w w':World} {g g':Ghost} {id b0:Nat} (h:Rewrote w g w' g' id b0):Ext w g w' g':=
 ⟨h.os,h.tape,h.output,Nat.le_of_eq h.drawn.symm,by rw [h.size];exact Nat.le_refl _,fun b _ hb=>⟨h.heap b (h.notRo (hb.symm.imp _root_.id _root_.id)),by rw [h.tag]⟩⟩
theorem Rewrote.st {n:Nat} {w w':World} {a:Act} {g g':Ghost} {σ:St} {id b0:Nat} {o':Obj} (h:Rewrote w g w' g' id b0) (hst:StOK n g w a σ)
  (hk:IdKept g g' id (σ.objs id) (some o')) (hobj:ObjOK w' g' (σ.setObj id o').objs id o'):StOK n g' w' a (σ.setObj id o'):=by
 have hkept:∀ i,IdKept g g' i (σ.objs i) ((σ.setObj id o').objs i):=by
  intro i
  by_cases hi:i=id
  ·subst hi;simp only [St.setObj,upd_same];exact hk
  ·simp only [St.setObj];rw [upd_other _ _ hi];exact IdKept.same (h.same hi)
 refine ⟨fun i av hi=>?_,⟨fun i x hx=>?_,fun b hb=>?_⟩,hst.size,hst.defers,hst.known.kept h.ro⟩
 ·obtain ⟨v,hv,hok⟩:=hst.slots i av hi
  exact ⟨v,hv,VOK.frame h.ro (fun i _=>hkept i) hok⟩
 ·by_cases hi:i=id
  ·subst hi
   simp only [St.setObj,upd_same,Option.some.injEq] at hx
   subst hx;exact hobj
  ·have hx':σ.objs i=some x:=by simpa [St.setObj,upd_other _ _ hi] using hx
   exact ObjOK.frame h.ro (h.same hi) (fun y hy i' _=>hkept i') (hst.heap.objs i x hx')
 ·rw [h.tag] at hb;rw [h.size];exact hst.heap.tags b hb
theorem Rewrote.fresh {w w':World} {g g':Ghost} {σ:St} {id b0 m:Nat} {o':Obj} (h:Rewrote w g w' g' id b0) (hid:σ.objs id≠none) (hc:∀ y,o' = .cell y→m∉y.ids) (hf:Fresh g σ m):Fresh g' (σ.setObj id o') m:=by
 have hm:m≠id:=by intro he;subst he;exact hid hf.objs
 refine ⟨by simp only [St.setObj];rw [upd_other _ _ hm];exact hf.objs,fun b p=>by rw [h.tag];exact hf.row b p,fun b=>by rw [h.tag];exact hf.box b,hf.slots,fun i av hi=>?_⟩
 by_cases he:i=id
 ·subst he
  simp only [St.setObj,upd_same,Option.some.injEq] at hi
  exact hc av hi
 ·simp only [St.setObj] at hi
  rw [upd_other _ _ he] at hi
  exact hf.cells i av hi
theorem setRow_rewrote {w:World} {g:Ghost} {id b0:Nat} (cs:Array Value) (hown:(∃ p,g.tag b0 = .row id p)∨g.tag b0 = .box id):Rewrote w g (w.setRow b0 cs) g id b0:=
 ⟨fun b hb=>setRow_other w b0 b cs hb,by simp [World.setRow],rfl,rfl,rfl,rfl,hown,rfl,rfl,fun _ _=>rfl⟩
section
variable {P:Program} {o:Oper} {a:Act} {w:World} {K:Act→World→Prop} {Q:Exit→Act→World→Prop} {c:Ctx} {σ:St} {g:Ghost} {k:St→Option R} {r:R} {base:Nat} {mo:Bool}
theorem run_storeVar {T:TypeId} {u:Ty} (hT:TyOK P u T) {b off:Nat} {cc:Array Value} {e:TypeId} {v:Value} {cs:List Value} (hc:w.heap[b]? = some (.cells cc e (0,0))) (hv:v.cells.toList=cs)
  (hl:cs.length=u.size) (hs:off+u.size≤cc.size) (h1:∀ x∈cs,x.oneCell'=true) :
  (storeVar T ⟨b,off,none⟩ v).run P w = .ok () (w.setRow b (splice cc.toList off cs).toArray):=by
 have hsz:=hT.info.sizeOf w
 have hvs:v.cells.size=u.size:=by rw [←Array.length_toList,hv,hl]
 have hst:=run_storeCells_at P b off e cs 0 cc w hc (by rw [hl];omega) h1
 simp only [Nat.add_zero] at hst
 simp [storeVar,hsz,hvs,hv,hst,splice]
theorem wp_skip {σ':St} {g':Ghost} {w':World} (hd:o.dst=none) (hrun:(execOp a.eval o).run P w = .ok .skip w') (hst:StOK c.ntmps g' w' a σ') (hext:Ext w g w' g')
  (hfr:∀ m,(m < base∨base+8≤m)→Fresh g σ m→Fresh g' σ' m) (hn:σ'.next=σ.next) (hk:k σ'=some r) (hag:mo=false→Agree w w') (hK:Post c.ntmps k r g w σ base mo K):o.wp P a w K Q:=by
 unfold Oper.wp
 rw [hrun,Oper.upon_skip,hd]
 exact hK σ' g' a w' hk hst hext hfr hn hag
theorem row_store {id:Nat} {t:Ty} {l:List t.den} {e:Nat} {i:Int} {q:Path} {u:Ty} {d:u.den} {cs:List Value} {f:List t.den→Option R} {b0 off0:Nat}
  (hh:HeapOK w g σ.objs) (ho:σ.objs id=some (.row t l e)) (hu:u.isRo=true) (hrep:Rep w g none u d cs)
  (hpl:place g id (.sl true t) [] 0 0 (.idx i :: q)=some (b0,off0)) (h:setK (.sl true t) l (.idx i :: q) u d f=some r) :
  ∃ l' cc ee,f l'=some r∧l'.length=l.length∧w.heap[b0]? = some (.cells cc ee (0,0))∧g.tag b0 = .row id []∧off0+u.size≤cc.size∧
   ObjOK (w.setRow b0 (splice cc.toList off0 cs).toArray) g (σ.setObj id (.row t l' e)).objs id (.row t l' e):=by
 have hobj:=hh.objs id _ ho
 simp only [setK,Option.bind_eq_some_iff] at h
 obtain ⟨x,hx,h⟩:=h
 obtain ⟨h0,hi,rfl,hlt⟩:=idx_some hx
 obtain ⟨ad,cap,hcs,hsv,hlc,hcm,hrow⟩:=hobj.2
 rcases hrow with ⟨_,hl,_⟩ | ⟨b,off,cc,ee,rfl,htag,hcell,hsz,helts⟩
 ·rw [hl] at hi;simp at hi
 ·have hel:=Rep.anyOwn (o':=none) hobj.1 (helts _ hi)
  obtain ⟨d',o',hk,hoff,hr⟩:=setK_rep hobj.1 hel hrep h
  have hpl2:place g id (.sl true t) [] 0 0 (.idx i :: q)=some (b,off+i.toNat*t.size+o'):=by
   simp only [place,hsv,List.nil_append]
   exact place_flat hoff
  rw [hpl] at hpl2
  simp only [Option.some.injEq,Prod.mk.injEq] at hpl2
  obtain ⟨rfl,rfl⟩:=hpl2
  have hle:=Sk.off_le hoff
  rw [Ty.sk_size,Ty.sk_size] at hle
  have hcap:(i.toNat+1)*t.size≤cap*t.size:=Nat.mul_le_mul_right _ (by omega)
  rw [Nat.add_mul] at hcap
  have hcl:cs.length=u.size:=hrep.len
  have hccl:cc.toList.length=cc.size:=Array.length_toList
  refine ⟨_,cc,ee,hk,setI_length _ _ _,hcell,htag,by omega,hobj.1,some ⟨b0,off,none⟩,cap,?_,?_,?_,hcm,.inr ⟨b0,off,(splice cc.toList (off+i.toNat*t.size+o') cs).toArray,ee,rfl,htag,?_,?_,fun j hj=>?_⟩⟩
  ·rw [setI_length,hsv]
  ·rw [setI_length];exact hsv
  ·rw [setI_length];exact hlc
  ·exact setRow_heap w b0 cc _ ee _ hcell
  ·rw [List.size_toArray,splice_length _ _ _ (by rw [hcl,hccl];omega),hccl];exact hsz
  ·have hRo:RoKept w g (w.setRow b0 (splice cc.toList (off+i.toNat*t.size+o') cs).toArray) g:=(setRow_rewrote (id:=id) _ (.inl ⟨[],htag⟩)).ro
   have hj':j < l.length:=by rw [setI_length] at hj;exact hj
   have hjcap:(j+1)*t.size≤cap*t.size:=Nat.mul_le_mul_right _ (by omega)
   rw [Nat.add_mul] at hjcap
   rw [setI_get]
   refine Rep.anyOwn hobj.1 (o:=none) ?_
   by_cases hij:i.toNat=j
   ·rw [if_pos hij]
    subst hij
    have e:off+i.toNat*t.size+o'=(off+i.toNat*t.size)+o':=rfl
    rw [splice_seg_inner _ _ _ _ _ (by rw [hcl];exact hle) (by rw [hccl];omega)]
    exact hr.kept hRo
   ·rw [if_neg hij]
    have hold:=(Rep.anyOwn (o':=none) hobj.1 (helts j hj')).kept hRo
    rcases Nat.lt_or_gt_of_ne hij with hlt' | hgt
    ·have h3:(i.toNat+1)*t.size≤j*t.size:=Nat.mul_le_mul_right _ hlt'
     rw [Nat.add_mul] at h3
     rw [seg_splice_after _ _ _ _ _ (by rw [hcl];omega) (by rw [hcl,hccl];omega)]
     exact hold
    ·have h3:(j+1)*t.size≤i.toNat*t.size:=Nat.mul_le_mul_right _ hgt
     rw [Nat.add_mul] at h3
     rw [seg_splice_before _ _ _ _ _ (by omega) (by rw [hccl];omega)]
     exact hold
end
end Go.Kz
namespace Go.Kz
variable {R:Type}
theorem getK_at:(t:Ty)→(d:t.den)→(p:Path)→{k:(u:Ty)→u.den→Option R}→{r:R}→getK t d p k=some r→
  ∃ (u:Ty) (e:u.den),k u e=some r∧∀ (R':Type) (k':(u:Ty)→u.den→Option R'),getK t d p k'=k' u e
 | t,d,[],k,r,h=>⟨t,d,by cases t <;> simpa [getK] using h,fun R' k'=>by cases t <;> simp [getK]⟩
 | .pair a _,(x,_),.fst :: p,k,r,h=>by simp only [getK] at h ⊢;exact getK_at a x p h
 | .pair _ b,(_,y),.snd :: p,k,r,h=>by simp only [getK] at h ⊢;exact getK_at b y p h
 | .arr _ t,l,.idx i :: p,k,r,h=>by
  simp only [getK] at h ⊢
  obtain ⟨x,hx,h⟩:=Option.bind_eq_some_iff.1 h
  obtain ⟨u,e,hk,ha⟩:=getK_at t x p h
  exact ⟨u,e,hk,fun R' k'=>by rw [hx,Option.bind_some];exact ha _ _⟩
 | .sl true t,l,.idx i :: p,k,r,h=>by
  simp only [getK] at h ⊢
  obtain ⟨x,hx,h⟩:=Option.bind_eq_some_iff.1 h
  obtain ⟨u,e,hk,ha⟩:=getK_at t x p h
  exact ⟨u,e,hk,fun R' k'=>by rw [hx,Option.bind_some];exact ha _ _⟩
 | .int _,d,s :: p,k,r,h=>by cases s <;> simp [getK] at h
 | .bool,d,s :: p,k,r,h=>by cases s <;> simp [getK] at h
 | .str,d,s :: p,k,r,h=>by cases s <;> simp [getK] at h
 | .unit,d,s :: p,k,r,h=>by cases s <;> simp [getK] at h
 | .sl false _,d,s :: p,k,r,h=>by cases s <;> simp [getK] at h
 | .ptr _,d,s :: p,k,r,h=>by cases s <;> simp [getK] at h
 | .fn _ _,d,s :: p,k,r,h=>by cases s <;> simp [getK] at h
 | .pair _ _,(_,_),.idx _ :: p,k,r,h=>by simp [getK] at h
 | .arr _ _,d,.fst :: p,k,r,h=>by simp [getK] at h
 | .arr _ _,d,.snd :: p,k,r,h=>by simp [getK] at h
 | .sl true _,d,.fst :: p,k,r,h=>by simp [getK] at h
 | .sl true _,d,.snd :: p,k,r,h=>by simp [getK] at h
theorem setK_get:(t:Ty)→(d:t.den)→(p:Path)→{v:Ty}→{e:List v.den}→{f:t.den→Option R}→{r:R}→tyQ t p=some v→setK t d p (.sl true v) e f=some r→
  ∃ x:List v.den,∀ (R':Type) (k':(u:Ty)→u.den→Option R'),getK t d p k'=k' (.sl true v) x
 | .sl true t,d,[],v,e,f,r,hq,h=>by
  simp only [tyQ,Option.some.injEq] at hq
  subst hq
  exact ⟨d,fun R' k'=>by simp [getK]⟩
 | .pair a _,(x,_),.fst :: p,v,e,f,r,hq,h=>by simp only [setK,tyQ,getK] at h hq ⊢;exact setK_get a x p hq h
 | .pair _ b,(_,y),.snd :: p,v,e,f,r,hq,h=>by simp only [setK,tyQ,getK] at h hq ⊢;exact setK_get b y p hq h
 | .arr _ t,l,.idx i :: p,v,e,f,r,hq,h=>by
  simp only [setK,tyQ,getK] at h hq ⊢
  obtain ⟨x,hx,h⟩:=Option.bind_eq_some_iff.1 h
  obtain ⟨y,hy⟩:=setK_get t x p hq h
  exact ⟨y,fun R' k'=>by rw [hx,Option.bind_some];exact hy _ _⟩
 | .sl true t,l,.idx i :: p,v,e,f,r,hq,h=>by
  simp only [setK,tyQ,getK] at h hq ⊢
  obtain ⟨x,hx,h⟩:=Option.bind_eq_some_iff.1 h
  obtain ⟨y,hy⟩:=setK_get t x p hq h
  exact ⟨y,fun R' k'=>by rw [hx,Option.bind_some];exact hy _ _⟩
 | .sl true _,_,.fst :: _,_,_,_,_,h,_ | .sl true _,_,.snd :: _,_,_,_,_,h,_=>by simp [tyQ] at h
 | .sl false _,_,p,_,_,_,_,h,_=>by cases p with | nil=>simp [tyQ] at h | cons s q=>cases s <;> simp [tyQ] at h
 | .int _,_,p,_,_,_,_,h,_=>by cases p with | nil=>simp [tyQ] at h | cons s q=>cases s <;> simp [tyQ] at h
 | .bool,_,p,_,_,_,_,h,_=>by cases p with | nil=>simp [tyQ] at h | cons s q=>cases s <;> simp [tyQ] at h
 | .str,_,p,_,_,_,_,h,_=>by cases p with | nil=>simp [tyQ] at h | cons s q=>cases s <;> simp [tyQ] at h
 | .unit,_,p,_,_,_,_,h,_=>by cases p with | nil=>simp [tyQ] at h | cons s q=>cases s <;> simp [tyQ] at h
 | .ptr _,_,p,_,_,_,_,h,_=>by cases p with | nil=>simp [tyQ] at h | cons s q=>cases s <;> simp [tyQ] at h
 | .fn _ _,_,p,_,_,_,_,h,_=>by cases p with | nil=>simp [tyQ] at h | cons s q=>cases s <;> simp [tyQ] at h
 | .pair _ _,_,[],_,_,_,_,h,_=>by simp [tyQ] at h
 | .pair _ _,_,.idx _ :: _,_,_,_,_,h,_=>by simp [tyQ] at h
 | .arr _ _,_,[],_,_,_,_,h,_=>by simp [tyQ] at h
 | .arr _ _,_,.fst :: _,_,_,_,_,h,_ | .arr _ _,_,.snd :: _,_,_,_,_,h,_=>by simp [tyQ] at h
theorem getK_row_ro {v:Ty} (hro:v.isRo=true) {l:List v.den} {j:Int} {q:Path} {k:(u:Ty)→u.den→Option R} {r:R} (h:getK (.sl true v) l (.idx j :: q) k=some r):∃ u x,k u x=some r∧u.isRo=true:=by
 simp only [getK,Option.bind_eq_some_iff] at h
 obtain ⟨y,_,h⟩:=h
 exact getK_isRo hro h
theorem tyS_elem {j:Int}:{t:Ty}→{p:Path}→{v:Ty}→tyQ t p=some v→tyS t (p++[.idx j])=some v.sk
 | .sl true t,[],v,hq=>by
  simp only [tyQ,Option.some.injEq] at hq
  subst hq
  simp [tyS]
 | .pair a _,.fst :: p,v,hq=>by simp only [tyQ,tyS,List.cons_append] at hq ⊢;exact tyS_elem hq
 | .pair _ c,.snd :: p,v,hq=>by simp only [tyQ,tyS,List.cons_append] at hq ⊢;exact tyS_elem hq
 | .arr _ t,.idx i :: p,v,hq=>by simp only [tyQ,tyS,List.cons_append] at hq ⊢;exact tyS_elem hq
 | .sl true t,.idx i :: p,v,hq=>by simp only [tyQ,tyS,List.cons_append] at hq ⊢;exact tyS_elem hq
 | .sl true _,.fst :: _,_,h | .sl true _,.snd :: _,_,h=>by simp [tyQ] at h
 | .sl false _,p,_,h=>by cases p with | nil=>simp [tyQ] at h | cons s q=>cases s <;> simp [tyQ] at h
 | .int _,p,_,h=>by cases p with | nil=>simp [tyQ] at h | cons s q=>cases s <;> simp [tyQ] at h
 | .bool,p,_,h=>by cases p with | nil=>simp [tyQ] at h | cons s q=>cases s <;> simp [tyQ] at h
 | .str,p,_,h=>by cases p with | nil=>simp [tyQ] at h | cons s q=>cases s <;> simp [tyQ] at h
 | .unit,p,_,h=>by cases p with | nil=>simp [tyQ] at h | cons s q=>cases s <;> simp [tyQ] at h
 | .ptr _,p,_,h=>by cases p with | nil=>simp [tyQ] at h | cons s q=>cases s <;> simp [tyQ] at h
 | .fn _ _,p,_,h=>by cases p with | nil=>simp [tyQ] at h | cons s q=>cases s <;> simp [tyQ] at h
 | .pair _ _,[],_,h=>by simp [tyQ] at h
 | .pair _ _,.idx _ :: _,_,h=>by simp [tyQ] at h
 | .arr _ _,[],_,h=>by simp [tyQ] at h
 | .arr _ _,.fst :: _,_,h | .arr _ _,.snd :: _,_,h=>by simp [tyQ] at h
theorem lastIdx_eq:{p:Path}→{q:Path}→{j:Int}→{r:Path}→lastIdx p=some (q,j,r)→p=q ++ .idx j :: r
 | [],_,_,_,h=>by simp [lastIdx] at h
 | s :: p,q,j,r,h=>by
  simp only [lastIdx] at h
  split at h
  ·rename_i q' j' r' hl
   simp only [Option.some.injEq,Prod.mk.injEq] at h
   obtain ⟨rfl,rfl,rfl⟩:=h
   rw [lastIdx_eq hl];rfl
  ·split at h
   ·simp only [Option.some.injEq,Prod.mk.injEq] at h
    obtain ⟨rfl,rfl,rfl⟩:=h
    rfl
   ·simp at h
theorem pathEq_eq:{p q:Path}→pathEq p q=true→p=q
 | [],[],_=>rfl
 | .fst :: p,.fst :: q,h=>by simp only [pathEq] at h;rw [pathEq_eq h]
 | .snd :: p,.snd :: q,h=>by simp only [pathEq] at h;rw [pathEq_eq h]
 | .idx i :: p,.idx j :: q,h=>by
  simp only [pathEq,Bool.and_eq_true,decide_eq_true_eq] at h
  rw [h.1,pathEq_eq h.2]
 | [],_ :: _,h | _ :: _,[],h=>by simp [pathEq] at h
 | .fst :: _,.snd :: _,h | .fst :: _,.idx _ :: _,h | .snd :: _,.fst :: _,h | .snd :: _,.idx _ :: _,h | .idx _ :: _,.fst :: _,h | .idx _ :: _,.snd :: _,h=>by simp [pathEq] at h
section
variable {w:World} {g:Ghost} {σ:St}
theorem StOK.step {n:Nat} {w':World} {a:Act} {g':Ghost} {σ':St} {m:Nat} (hst:StOK n g w a σ) (hr:RoKept w g w' g') (hs:σ'.slots=σ.slots) (hm:Fresh g σ m∨IdKept g g' m (σ.objs m) (σ'.objs m))
  (hk:∀ j,j≠m→IdKept g g' j (σ.objs j) (σ'.objs j))
  (hobj:∀ j x,σ'.objs j=some x→ObjOK w' g' σ'.objs j x∨(σ.objs j=some x∧Same w g w' g' j)) (ht:∀ b,g'.tag b≠.alien→b < w'.heap.size):StOK n g' w' a σ':=by
 have hk':∀ j,(Fresh g σ m→j≠m)→IdKept g g' j (σ.objs j) (σ'.objs j):=by
  intro j hj
  by_cases he:j=m
  ·rcases hm with hf | hm
   ·exact absurd he (hj hf)
   ·rw [he];exact hm
  ·exact hk j he
 refine ⟨fun i av hi=>?_,⟨fun id x hx=>?_,ht⟩,hst.size,hst.defers,hst.known.kept hr⟩
 ·rw [hs] at hi
  obtain ⟨u,hu,hok⟩:=hst.slots i av hi
  refine ⟨u,hu,VOK.frame hr (fun j hj=>hk' j (fun hf he=>?_)) hok⟩
  subst he;exact hf.slots i av hi hj
 ·rcases hobj id x hx with h | ⟨h,hsame⟩
  ·exact h
  ·refine ObjOK.frame hr hsame (fun y hy j hj=>hk' j (fun hf he=>?_)) (hst.heap.objs id x h)
   subst he;subst hy;exact hf.cells id y h hj
theorem row_store_at {id:Nat} {pp:Path} {t:Ty} {l:List t.den} {i:Int} {q:Path} {u:Ty} {d:u.den} {cs:List Value} {f:List t.den→Option R} {r:R} {hd:Value} (hro:t.isRo=true)
  (hrow:Rep w g (some (id,pp)) (.sl true t) l [hd]) (hrep:Rep w g none u d cs) (h:setK (.sl true t) l (.idx i :: q) u d f=some r) :
  ∃ l' b0 off0 n cp o' cc ee,f l'=some r∧l'.length=l.length∧g.sv id pp = .slice (some ⟨b0,off0,none⟩) n cp∧t.sk.off q=some (o',u.sk)∧w.heap[b0]? = some (.cells cc ee (0,0))∧g.tag b0 = .row id pp∧
   off0+i.toNat*t.size+o'+u.size≤cc.size∧
   Rep (w.setRow b0 (splice cc.toList (off0+i.toNat*t.size+o') cs).toArray) g (some (id,pp)) (.sl true t) l' [hd]:=by
 simp only [setK,Option.bind_eq_some_iff] at h
 obtain ⟨x,hx,h⟩:=h
 obtain ⟨h0,hi,rfl,hlt⟩:=idx_some hx
 obtain ⟨ad,cap,hcs,hsv,hlc,hcm,hrow⟩:=hrow
 rcases hrow with ⟨_,hl,_⟩ | ⟨b,off,cc,ee,rfl,htag,hcell,hsz,helts⟩
 ·rw [hl] at hi;simp at hi
 ·have hel:=Rep.anyOwn (o':=none) hro (helts _ hi)
  obtain ⟨d',o',hk,hoff,hr⟩:=setK_rep hro hel hrep h
  have hle:=Sk.off_le hoff
  rw [Ty.sk_size,Ty.sk_size] at hle
  have hcap:(i.toNat+1)*t.size≤cap*t.size:=Nat.mul_le_mul_right _ (by omega)
  rw [Nat.add_mul] at hcap
  have hcl:cs.length=u.size:=hrep.len
  have hccl:cc.toList.length=cc.size:=Array.length_toList
  refine ⟨_,b,off,l.length,cap,o',cc,ee,hk,setI_length _ _ _,hsv,hoff,hcell,htag,by omega,some ⟨b,off,none⟩,cap,?_,?_,?_,hcm,.inr ⟨b,off,(splice cc.toList (off+i.toNat*t.size+o') cs).toArray,ee,rfl,htag,?_,?_,fun j hj=>?_⟩⟩
  ·rw [setI_length];exact hcs
  ·rw [setI_length];exact hsv
  ·rw [setI_length];exact hlc
  ·exact setRow_heap w b cc _ ee _ hcell
  ·rw [List.size_toArray,splice_length _ _ _ (by rw [hcl,hccl];omega),hccl];exact hsz
  ·have hRo:RoKept w g (w.setRow b (splice cc.toList (off+i.toNat*t.size+o') cs).toArray) g:=(setRow_rewrote (id:=id) _ (.inl ⟨pp,htag⟩)).ro
   have hj':j < l.length:=by rw [setI_length] at hj;exact hj
   have hjcap:(j+1)*t.size≤cap*t.size:=Nat.mul_le_mul_right _ (by omega)
   rw [Nat.add_mul] at hjcap
   rw [setI_get]
   refine Rep.anyOwn hro (o:=none) ?_
   by_cases hij:i.toNat=j
   ·rw [if_pos hij]
    subst hij
    rw [splice_seg_inner _ _ _ _ _ (by rw [hcl];exact hle) (by rw [hccl];omega)]
    exact hr.kept hRo
   ·rw [if_neg hij]
    have hold:=(Rep.anyOwn (o':=none) hro (helts j hj')).kept hRo
    rcases Nat.lt_or_gt_of_ne hij with hlt' | hgt
    ·have h3:(i.toNat+1)*t.size≤j*t.size:=Nat.mul_le_mul_right _ hlt'
     rw [Nat.add_mul] at h3
     rw [seg_splice_after _ _ _ _ _ (by rw [hcl];omega) (by rw [hcl,hccl];omega)]
     exact hold
    ·have h3:(j+1)*t.size≤i.toNat*t.size:=Nat.mul_le_mul_right _ hgt
     rw [Nat.add_mul] at h3
     rw [seg_splice_before _ _ _ _ _ (by omega) (by rw [hccl];omega)]
     exact hold
theorem splice_id {l:List Value} {off:Nat} {x:Value} (h:off < l.length) (hs:seg l off 1=[x]):splice l off [x]=l:=by
 rw [←hs]
 simp only [splice,seg]
 rw [List.length_take,List.length_drop,Nat.min_eq_left (by omega),←List.drop_drop,List.append_assoc,List.take_append_drop,List.take_append_drop]
theorem nest_store {id:Nat} {t:Ty} {l:List t.den} {e i:Nat} {s:Step} {p:Path} {v:Ty} {l1:List v.den} {j:Int} {q:Path} {u:Ty} {d:u.den} {cs:List Value} {f:List t.den→Option R} {r:R} {b0 off0:Nat}
  (hh:HeapOK w g σ.objs) (ho:σ.objs id=some (.nest t l e i none)) (hro:v.isRo=true) (hget:∀ (R':Type) (k':(u:Ty)→u.den→Option R'),getK (.sl true t) l (s :: p) k'=k' (.sl true v) l1)
  (hrep:Rep w g none u d cs) (hpl:place g id (.sl true t) [] 0 0 (s :: p ++ .idx j :: q)=some (b0,off0))
  (h:(setK (.sl true v) l1 (.idx j :: q) u d fun l1=>setK (.sl true t) l (s :: p) (.sl true v) l1 f)=some r) :
  ∃ l' cc ee,f l'=some r∧w.heap[b0]? = some (.cells cc ee (0,0))∧g.tag b0 = .row id (s :: p)∧off0+u.size≤cc.size∧
   ObjOK (w.setRow b0 (splice cc.toList off0 cs).toArray) g (σ.setObj id (.nest t l' e i none)).objs id (.nest t l' e i none):=by
 have hobj:Rep w g (some (id,[])) (.sl true t) l [g.sv id []]:=hh.objs id _ ho
 have hg:getK (.sl true t) l (s :: p) (fun u x=>some (⟨u,x⟩:(u:Ty)×u.den))=some ⟨.sl true v,l1⟩:=hget _ _
 obtain ⟨U,X,bx,ox,_,_,_,hk,hplx,_,hty,_,_,_,_⟩:=nest_get hobj hg
 simp only [Option.some.injEq,Sigma.mk.injEq] at hk
 obtain ⟨rfl,_⟩:=hk
 have hq:=tyU_Q hty
 cases s with
 | fst=>simp [tyQ] at hq
 | snd=>simp [tyQ] at hq
 | idx i0=>
  have hq':tyQ t p=some v:=by simpa [tyQ] using hq
  obtain ⟨l1',bh,oh,ch,eh,ph,hk,hplh,htagh,hph,_,hcellh,hoh,hreph,hw⟩:=focus_row (focus w g id t) (pre:=[]) hq' hobj hg
  simp only [Option.some.injEq,Sigma.mk.injEq,heq_eq_eq,true_and] at hk
  subst hk
  simp only [List.nil_append] at hph hreph hw
  have hchl:ch.toList.length=ch.size:=Array.length_toList
  obtain ⟨x,hx⟩:=List.length_eq_one_iff.1 (seg_length (l:=ch.toList) (off:=oh) (n:=1) (by omega))
  rw [hx] at hreph
  obtain ⟨l2,b2,o2,n2,cp2,o',cc,ee,hf,hll,hsv,hoff,hcell,htag,hsz,hrep2⟩:=row_store_at hro hreph hrep h
  have e1:=place_elem (j:=j) (pre:=[]) (t:=.sl true t) (b:=0) (off:=0) (x:=(bx,ox)) hq hplx hsv
  have e2:=place_append e1 (tyS_elem hq) hoff
  have hpp:Step.idx i0 :: p++[Step.idx j]++q = .idx i0 :: p ++ .idx j :: q:=by simp
  rw [hpp,hpl] at e2
  simp only [Option.some.injEq,Prod.mk.injEq] at e2
  obtain ⟨rfl,rfl⟩:=e2
  have hne:bh≠b0:=by
   intro he;subst he
   rw [htag] at htagh
   simp only [Tag.row.injEq,true_and] at htagh
   subst htagh
   omega
  have hRw:=setRow_rewrote (w:=w) (g:=g) (id:=id) (b0:=b0) (splice cc.toList (o2+j.toNat*v.size+o') cs).toArray (.inl ⟨_,htag⟩)
  have hnear:Near w g (w.setRow b0 (splice cc.toList (o2+j.toNat*v.size+o') cs).toArray) g id (.idx i0 :: p) bh:=by
   refine ⟨hRw.ro,fun _ _=>rfl,fun q' b hb hq'=>⟨hb,fun _=>setRow_other w b0 b _ ?_⟩⟩
   intro he;subst he
   rw [htag] at hb
   simp only [Tag.row.injEq,true_and] at hb
   exact hq' (by rw [hb];exact List.prefix_refl _)
  obtain ⟨l3,hf3,_,hrep3⟩:=hw _ g l2 x hnear (by
   rw [splice_id (by omega) hx,setRow_other w b0 bh _ hne];simpa using hcellh) hrep2 _ _ hf
  exact ⟨l3,cc,ee,hf3,hcell,htag,hsz,hrep3⟩
theorem hole_of_whole {id:Nat} {t:Ty} {l:List t.den} {p:Path} {v:Ty} {l1:List v.den} (hobj:Rep w g (some (id,[])) (.sl true t) l [g.sv id []]) (hty:tyR t p=some v)
  (hget:∀ (R':Type) (k':(u:Ty)→u.den→Option R'),getK (.sl true t) l p k'=k' (.sl true v) l1) :
  HoleOK w g id t l p∧Rep w g (some (id,p)) (.sl true v) l1 [g.sv id p]:=by
 cases p with
 | nil=>simp [tyR] at hty
 | cons s p=>
  cases s with
  | fst=>simp [tyR] at hty
  | snd=>simp [tyR] at hty
  | idx i0=>
   simp only [tyR] at hty
   have hg:getK (.sl true t) l (.idx i0 :: p) (fun u x=>some (⟨u,x⟩:(u:Ty)×u.den))=some ⟨.sl true v,l1⟩:=hget _ _
   obtain ⟨l1',bh,oh,ch,eh,ph,hk,hplh,htagh,hph,_,hcellh,hoh,hreph,hw⟩:=focus_row (focus w g id t) (pre:=[]) hty hobj hg
   simp only [Option.some.injEq,Sigma.mk.injEq,heq_eq_eq,true_and] at hk
   subst hk
   simp only [List.nil_append] at hph hreph hw
   have hlen:∃ bk o cap,g.sv id [] = .slice (some ⟨bk,o,none⟩) l.length cap:=by
    obtain ⟨a,cap,_,hsv,_,_,h3⟩:=hobj
    rcases h3 with ⟨_,rfl,_⟩ | ⟨b,off,c,e,rfl,_⟩
    ·simp only [getK] at hg
     cases i0 <;> simp [idx] at hg
    ·exact ⟨b,off,cap,hsv⟩
   refine ⟨⟨hlen,v,bh,oh,ch,eh,ph,hty,hplh 0 0,htagh,hph,hcellh,hoh,fun w' g' l' x hn hc' hr' R' f r' hset=>?_⟩,?_⟩
   ·obtain ⟨l2,hf,_,hr2⟩:=hw w' g' l' x hn hc' hr' f r' hset
    refine ⟨l2,hf,?_⟩
    rw [hn.sv [] (pre_not (by simp))];exact hr2
   ·obtain ⟨a,cap,hcs,hsv,h1⟩:=hreph
    exact ⟨a,cap,by rw [hsv],hsv,h1⟩
open Classical in
noncomputable def fillG (g:Ghost) (from_:Option Nat) (id:Nat) (p:Path) (x:Value):Ghost where
 tag:=fun b=>match g.tag b with
  | .row i q=>if some i=from_ then .row id (p++q) else .row i q
  | t=>t
 sv:=fun i q=>if i=id∧q=p then x else g.sv i q
 blk:=g.blk
theorem fillG_ro {fr:Option Nat} {id:Nat} {p:Path} {x:Value} {b:Nat}:(fillG g fr id p x).tag b = .ro↔g.tag b = .ro:=by
 simp only [fillG]
 cases hb:g.tag b with
 | row i q=>by_cases h:some i=fr <;> simp [h]
 | _=>simp
theorem fillG_alien {fr:Option Nat} {id:Nat} {p:Path} {x:Value} {b:Nat}:(fillG g fr id p x).tag b = .alien↔g.tag b = .alien:=by
 simp only [fillG]
 cases hb:g.tag b with
 | row i q=>by_cases h:some i=fr <;> simp [h]
 | _=>simp
theorem fillG_row {fr:Option Nat} {id:Nat} {p:Path} {x:Value} {b i:Nat} {q:Path} (h:g.tag b = .row i q) (hi:some i≠fr):(fillG g fr id p x).tag b = .row i q:=by
 simp only [fillG,h,if_neg hi]
theorem fillG_box {fr:Option Nat} {id:Nat} {p:Path} {x:Value} {b i:Nat} (h:g.tag b = .box i):(fillG g fr id p x).tag b = .box i:=by
 simp only [fillG,h]
theorem nfill_ok {n:Nat} {a:Act} {id:Nat} {t:Ty} {l:List t.den} {e i:Nat} {h0:Option Path} {p:Path} {av:AVal} {x:Value} {f:St→Option R} {r:R} {b0 off0:Nat}
  (hst:StOK n g w a σ) (ho:σ.objs id=some (.nest t l e i h0)) (hhole:∀ v,tyR t p=some v→(∃ l1:List v.den,∀ (R':Type) (k':(u:Ty)→u.den→Option R'),getK (.sl true t) l p k'=k' (.sl true v) l1)→HoleOK w g id t l p)
  (hpl:place g id (.sl true t) [] 0 0 p=some (b0,off0)) (hx:AOK w g σ.objs av [x]) (h:fillK σ id t l e i p av f=some r) :
  ∃ cc ee pre σ' g',f σ'=some r∧w.heap[b0]? = some (.cells cc ee (0,0))∧g.tag b0 = .row id pre∧off0 < cc.size∧StOK n g' (w.setRow b0 (splice cc.toList off0 [x]).toArray) a σ'∧
   Ext w g (w.setRow b0 (splice cc.toList off0 [x]).toArray) g'∧(∀ m,Fresh g σ m→Fresh g' σ' m)∧σ'.next=σ.next:=by
 unfold fillK at h
 split at h
 ·rename_i v hty
  cases hro:v.isRo with
  | false=>rw [hro] at h;simp at h
  | true=>
   rw [hro] at h
   simp only [cond_true] at h
   have key:∃ (fr:Option Nat) (d:List v.den) (σ1:St),σ1.slots=σ.slots∧σ1.next=σ.next∧(∀ j,some j≠fr→σ1.objs j=σ.objs j)∧(∀ j,some j=fr→σ1.objs j=none∧j≠id∧σ.objs j≠none)∧
     (setK (.sl true t) l p (.sl true v) d fun l=>f (σ1.setObj id (.nest t l e (i+1) none)))=some r∧
     (∀ w' g',RoKept w g w' g'→g'.sv id p=x→(∀ b,(∃ j,some j=fr∧g.tag b = .row j [])→g'.tag b = .row id p∧w'.heap[b]? = w.heap[b]?)→Rep w' g' (some (id,p)) (.sl true v) d [x]):=by
    unfold giveRow at h
    split at h
    ·refine ⟨none,[],σ,rfl,rfl,fun _ _=>rfl,fun _ h=>by simp at h,h,fun w' g' _ hsv _=>?_⟩
     have hx':[x]=[.slice none 0 0]:=hx
     simp only [List.cons.injEq,and_true] at hx'
     subst hx'
     exact ⟨none,0,rfl,hsv,Nat.le_refl _,Nat.zero_le _,.inl ⟨rfl,rfl,rfl⟩⟩
    ·rename_i id' ep'
     split at h
     ·rename_i t' l' e' ho'
      cases hb:Nat.beq e' ep' with
      | false=>rw [hb] at h;simp at h
      | true=>
       rw [hb] at h
       have he:=Nat.eq_of_beq_eq_true hb
       subst he
       simp only [cond_true] at h
       obtain ⟨hc,h⟩:=castK_some h
       have hc':t'=v:=by simpa using hc
       subst hc'
       have hne:id'≠id:=by intro hc;rw [hc,ho] at ho';simp at ho'
       refine ⟨some id',_,σ.kill id',rfl,rfl,fun j hj=>?_,fun j hj=>?_,h,fun w' g' hr hsv htg=>?_⟩
       ·simp only [St.kill];exact upd_other _ _ (fun h=>hj (by rw [h]))
       ·simp only [Option.some.injEq] at hj
        subst hj
        exact ⟨by simp [St.kill,upd],hne,by rw [ho'];simp⟩
       ·obtain ⟨v0,hv0,_,hvv⟩:=hx
        simp only [List.cons.injEq,and_true] at hv0
        subst hv0
        have hxs:=(hvv _ _ _ ho').2 rfl
        obtain ⟨hro2,ad,cap,hcs,hsv2,h1,h2,h3⟩:=hst.heap.objs id' _ ho'
        refine ⟨ad,cap,by rw [hxs,hsv2];rfl,by rw [hsv,hxs,hsv2];rfl,h1,h2,?_⟩
        rcases h3 with h3 | ⟨b,off,c,ee,ha,htag,hcell,hs,hel⟩
        ·exact .inl h3
        ·obtain ⟨k1,k2⟩:=htg b ⟨id',rfl,htag⟩
         exact .inr ⟨b,off,c,ee,ha,k1,k2.trans hcell,hs,fun i hi=>Rep.anyOwn (o:=none) hro2 ((Rep.anyOwn (o':=none) hro2 (hel i hi)).kept hr)⟩
     ·simp at h
    ·simp at h
   obtain ⟨fr,d,σ1,hs1,hn1,hob1,hob2,hset,hmv⟩:=key
   have hp:p≠[]:=by intro hp;subst hp;simp [tyR] at hty
   have hqq:∃ i0 p',p = .idx i0 :: p':=by
    cases p with
    | nil=>exact absurd rfl hp
    | cons s p'=>cases s with
     | idx i0=>exact ⟨i0,p',rfl⟩
     | fst=>simp [tyR] at hty
     | snd=>simp [tyR] at hty
   have htyQ:tyQ (.sl true t) p=some v:=by
    obtain ⟨i0,p',rfl⟩:=hqq
    simpa [tyR,tyQ] using hty
   obtain ⟨l1,hl1⟩:=setK_get (.sl true t) l p htyQ hset
   obtain ⟨_,v',b1,off1,c,ee,pre,hty',hpl',htag,hpre,hcell,hoff,hwand⟩:=hhole v hty ⟨l1,hl1⟩
   rw [hty] at hty'
   simp only [Option.some.injEq] at hty'
   subst hty'
   rw [hpl] at hpl'
   simp only [Option.some.injEq,Prod.mk.injEq] at hpl'
   obtain ⟨rfl,rfl⟩:=hpl'
   have hidf:some id≠fr:=fun hc=>(hob2 id hc).2.1 rfl
   have hclen:c.toList.length=c.size:=Array.length_toList
   have hheap:∀ b,b≠b0→(w.setRow b0 (splice c.toList off0 [x]).toArray).heap[b]? = w.heap[b]? := fun b hb=>setRow_other w b0 b _ hb
   have hro':RoKept w g (w.setRow b0 (splice c.toList off0 [x]).toArray) (fillG g fr id p x):=
    ⟨fun b hb=>⟨fillG_ro.2 hb,hheap b (fun he=>by rw [he,htag] at hb;simp at hb)⟩⟩
   have hrep:=hmv _ (fillG g fr id p x) hro' (by simp [fillG]) (fun b hb=>by
    obtain ⟨j,hj,hb⟩:=hb
    refine ⟨by simp only [fillG,hb,if_pos hj];simp,hheap b (fun he=>?_)⟩
    rw [he,htag] at hb
    simp only [Tag.row.injEq] at hb
    exact hidf (by rw [hb.1];exact hj))
   have hnear:Near w g (w.setRow b0 (splice c.toList off0 [x]).toArray) (fillG g fr id p x) id p b0:=by
    refine ⟨hro',fun q hq=>?_,fun q b hb hq=>⟨fillG_row hb hidf,fun hne=>hheap b hne⟩⟩
    simp only [fillG]
    rw [if_neg]
    rintro ⟨_,rfl⟩
    exact hq (List.prefix_refl _)
   obtain ⟨l2,hf2,hrep2⟩:=hwand _ _ d x hnear (setRow_heap w b0 c _ ee _ hcell) hrep _ _ hset
   have hsame:∀ j,j≠id→some j≠fr→Same w g (w.setRow b0 (splice c.toList off0 [x]).toArray) (fillG g fr id p x) j:=by
    intro j hj hjf
    refine ⟨⟨fun q=>by simp only [fillG];rw [if_neg (fun h=>hj h.1)],fun q b hb=>⟨fillG_row hb hjf,hheap b (fun he=>?_)⟩⟩,rfl,fun hb=>⟨fillG_box hb,hheap _ (fun he=>?_)⟩⟩
    ·rw [he,htag] at hb;simp only [Tag.row.injEq] at hb;exact hj hb.1.symm
    ·rw [he,htag] at hb;simp at hb
   have hσ:∀ j,(σ1.setObj id (.nest t l2 e (i+1) none)).objs j=if j=id then some (.nest t l2 e (i+1) none) else σ1.objs j:=by
    intro j
    by_cases hj:j=id
    ·subst hj;simp [St.setObj,upd_same]
    ·simp only [St.setObj,if_neg hj];exact upd_other _ _ hj
   have hkept:∀ j,IdKept g (fillG g fr id p x) j (σ.objs j) ((σ1.setObj id (.nest t l2 e (i+1) none)).objs j):=by
    intro j
    rw [hσ]
    by_cases hj:j=id
    ·subst hj
     rw [if_pos rfl]
     exact .inr (.inr (.inr (.inr ⟨t,l,l2,e,e,i,i+1,h0,none,ho,rfl,Nat.le_refl _,Nat.le_succ _,fun _=>by simp only [fillG];rw [if_neg (fun h=>hp h.2.symm)],fun h=>by omega⟩)))
    ·rw [if_neg hj]
     by_cases hjf:some j=fr
     ·exact .inl (hob2 j hjf).1
     ·rw [hob1 j hjf];exact IdKept.same (hsame j hj hjf)
   refine ⟨c,ee,pre,_,fillG g fr id p x,hf2,hcell,htag,hoff,?_,?_,?_,hn1⟩
   ·refine hst.step (m:=id) hro' (show (σ1.setObj id _).slots=σ.slots from hs1) (.inr (hkept id)) (fun j _=>hkept j) (fun j y hy=>?_) (fun b hb=>?_)
    ·rw [hσ] at hy
     by_cases hj:j=id
     ·subst hj
      rw [if_pos rfl] at hy
      simp only [Option.some.injEq] at hy
      subst hy
      exact .inl hrep2
     ·rw [if_neg hj] at hy
      by_cases hjf:some j=fr
      ·rw [(hob2 j hjf).1] at hy;simp at hy
      ·rw [hob1 j hjf] at hy
       exact .inr ⟨hy,hsame j hj hjf⟩
    ·have:=hst.heap.tags b (fun h=>hb (fillG_alien.2 h))
     simpa [World.setRow] using this
   ·refine ⟨rfl,rfl,rfl,Nat.le_refl _,by simp [World.setRow],fun b _ hb=>⟨hheap b (fun he=>?_),?_⟩⟩
    ·rw [he,htag] at hb;simp at hb
    ·rcases hb with hb | hb
     ·rw [hb];exact fillG_alien.2 hb
     ·rw [hb];exact fillG_ro.2 hb
   ·intro m hm
    have hmid:m≠id:=by intro he;subst he;have:=hm.objs;rw [ho] at this;simp at this
    have hmf:some m≠fr:=fun hc=>(hob2 m hc).2.2 hm.objs
    refine ⟨by rw [hσ,if_neg hmid,hob1 m hmf];exact hm.objs,fun b q hb=>?_,fun b hb=>?_,fun j av hj=>hm.slots j av (by rw [←hs1];exact hj),fun j av hj=>?_⟩
    ·simp only [fillG] at hb
     split at hb
     ·rename_i i' q' hg'
      split at hb
      ·simp only [Tag.row.injEq] at hb;exact hmid hb.1.symm
      ·exact hm.row b q (by rw [hg'];exact hb)
     ·exact hm.row b q hb
    ·simp only [fillG] at hb
     split at hb
     ·split at hb <;> simp at hb
     ·exact hm.box b hb
    ·rw [hσ] at hj
     split at hj
     ·simp at hj
     ·by_cases hjf:some j=fr
      ·rw [(hob2 j hjf).1] at hj;simp at hj
      ·rw [hob1 j hjf] at hj;exact hm.cells j av hj
 ·simp at h
open Classical in
noncomputable def outG (g:Ghost) (id:Nat) (p:Path) (m:Nat):Ghost where
 tag:=fun b=>if g.tag b = .row id p then .row m [] else g.tag b
 sv:=fun i q=>if i=m then g.sv id p else g.sv i q
 blk:=g.blk
theorem out_ok {n:Nat} {a:Act} {id base:Nat} {t:Ty} {l:List t.den} {e i:Nat} {p:Path} {v:Ty} {l1:List v.den} (hst:StOK n g w a σ) (hf:Fresh g σ base) (ho:σ.objs id=some (.nest t l e i none))
  (hro:v.isRo=true) (hty:tyR t p=some v) (hget:∀ (R':Type) (k':(u:Ty)→u.den→Option R'),getK (.sl true t) l p k'=k' (.sl true v) l1) :
  let g':=outG g id p base
  let σ':=(σ.setObj id (.nest t l e i (some p))).setObj base (.row v l1 0)
  StOK n g' w a σ'∧Ext w g w g'∧(∀ m,m≠base→Fresh g σ m→Fresh g' σ' m)∧g'.sv base []=g.sv id p∧RoKept w g w g':=by
 intro g' σ'
 have hobj:Rep w g (some (id,[])) (.sl true t) l [g.sv id []]:=hst.heap.objs id _ ho
 obtain ⟨⟨⟨bk0,o0,cap0,hsv0⟩,v',b0,off,c,ee,pre,hty',hpl,htag,hpre,hcell,hoff,hwand⟩,hrow⟩:=hole_of_whole hobj hty hget
 have hbid:base≠id:=by intro he;subst he;have:=hf.objs;rw [ho] at this;simp at this
 have htg:∀ b,g.tag b≠.row id p→g'.tag b=g.tag b:=fun b hb=>by simp only [g',outG,if_neg hb]
 have hsv:∀ j q,j≠base→g'.sv j q=g.sv j q:=fun j q hj=>by simp only [g',outG,if_neg hj]
 have hro':RoKept w g w g':=⟨fun b hb=>⟨by rw [htg b (by rw [hb];simp)];exact hb,rfl⟩⟩
 have hsame:∀ j,j≠id→j≠base→Same w g w g' j:=by
  intro j hj hjb
  refine ⟨⟨fun q=>hsv j _ hjb,fun q b hb=>⟨?_,rfl⟩⟩,rfl,fun hb=>⟨?_,rfl⟩⟩
  ·rw [htg b (by rw [hb];simp only [ne_eq,Tag.row.injEq,not_and];exact fun h=>absurd h hj)];exact hb
  ·rw [htg _ (by rw [hb];simp)];exact hb
 have hσ:∀ j,σ'.objs j=if j=base then some (.row v l1 0) else if j=id then some (.nest t l e i (some p)) else σ.objs j:=by
  intro j
  by_cases hj:j=base
  ·subst hj;simp [σ',St.setObj,upd_same]
  ·simp only [σ',St.setObj,if_neg hj]
   rw [upd_other _ _ hj]
   by_cases hj2:j=id
   ·subst hj2;simp [upd_same]
   ·rw [if_neg hj2,upd_other _ _ hj2]
 have hkept:∀ j,j≠base→IdKept g g' j (σ.objs j) (σ'.objs j):=by
  intro j hj
  rw [hσ,if_neg hj]
  by_cases hj2:j=id
  ·subst hj2
   rw [if_pos rfl]
   exact .inr (.inr (.inr (.inr ⟨t,l,l,e,e,i,i,none,some p,ho,rfl,Nat.le_refl _,Nat.le_refl _,fun _=>hsv _ _ hj,fun _ _=>hsv _ _ hj⟩)))
  ·rw [if_neg hj2];exact IdKept.same (hsame j hj2 hj)
 have hsvb:g'.sv base []=g.sv id p:=by simp [g',outG]
 refine ⟨?_,⟨rfl,rfl,rfl,Nat.le_refl _,Nat.le_refl _,fun b _ hb=>⟨rfl,htg b (by rcases hb with hb | hb <;> rw [hb] <;> simp)⟩⟩,fun m hm hfm=>?_,hsvb,hro'⟩
 ·refine hst.step (m:=base) hro' rfl (.inl hf) hkept (fun j y hy=>?_) (fun b hb=>?_)
  ·rw [hσ] at hy
   by_cases hj:j=base
   ·subst hj
    rw [if_pos rfl] at hy
    simp only [Option.some.injEq] at hy
    subst hy
    left
    refine ⟨hro,?_⟩
    obtain ⟨ad,cap,hcs,hsv2,h1,h2,h3⟩:=hrow
    refine ⟨ad,cap,by rw [hsvb];exact hcs,by rw [hsvb];exact hsv2,h1,h2,?_⟩
    rcases h3 with h3 | ⟨b,of,cc,e3,ha,htag3,hcell3,hs,hel⟩
    ·exact .inl h3
    ·exact .inr ⟨b,of,cc,e3,ha,by simp only [g',outG,if_pos htag3],hcell3,hs,fun i hi=>Rep.anyOwn (o:=none) hro ((Rep.anyOwn (o':=none) hro (hel i hi)).kept hro')⟩
   ·rw [if_neg hj] at hy
    by_cases hj2:j=id
    ·subst hj2
     rw [if_pos rfl] at hy
     simp only [Option.some.injEq] at hy
     subst hy
     left
     have hnp:∀ q,¬ p <+: q→q≠p:=fun q hq he=>hq (by rw [he];exact List.prefix_refl _)
     refine ⟨⟨bk0,o0,cap0,by rw [hsv j [] hj];exact hsv0⟩,v',b0,off,c,ee,pre,hty',by rw [place_congr (fun q=>hsv j q hj)];exact hpl,?_,hpre,hcell,hoff,fun w2 g2 l3 x hn hc2 hr2 R f r hset=>?_⟩
     ·rw [htg b0 (by rw [htag];simp only [ne_eq,Tag.row.injEq,true_and];intro h;rw [h] at hpre;omega)];exact htag
     ·refine hwand w2 g2 l3 x ⟨⟨fun b hb=>?_⟩,fun q hq=>(hn.sv q hq).trans (hsv j q hj),fun q b hb hq=>?_⟩ hc2 hr2 f r hset
      ·exact hn.ro.blk b (hro'.blk b hb).1
      ·have:g'.tag b = .row j q:=by
        rw [htg b (by rw [hb];simp only [ne_eq,Tag.row.injEq,true_and];exact hnp q hq)];exact hb
       exact hn.blk q b this hq
    ·rw [if_neg hj2] at hy
     exact .inr ⟨hy,hsame j hj2 hj⟩
  ·by_cases hb2:g.tag b = .row id p
   ·exact hst.heap.tags b (by rw [hb2];simp)
   ·rw [htg b hb2] at hb;exact hst.heap.tags b hb
 ·have hmid:m≠id:=by intro he;subst he;have:=hfm.objs;rw [ho] at this;simp at this
  refine ⟨by rw [hσ,if_neg hm,if_neg hmid];exact hfm.objs,fun b q hb=>?_,fun b hb=>?_,hfm.slots,fun j av hj=>?_⟩
  ·by_cases hb2:g.tag b = .row id p
   ·simp only [g',outG,if_pos hb2,Tag.row.injEq] at hb;exact hm hb.1.symm
   ·rw [htg b hb2] at hb;exact hfm.row b q hb
  ·by_cases hb2:g.tag b = .row id p
   ·simp [g',outG,if_pos hb2] at hb
   ·rw [htg b hb2] at hb;exact hfm.box b hb
  ·rw [hσ] at hj
   split at hj
   ·simp at hj
   ·split at hj
    ·simp at hj
    ·exact hfm.cells j av hj
end
end Go.Kz
namespace Go.Kz
variable {R:Type}
section
variable {P:Program} {o:Oper} {a:Act} {w:World} {K:Act→World→Prop} {Q:Exit→Act→World→Prop} {c:Ctx} {σ:St} {g:Ghost} {k:St→Option R} {r:R} {base:Nat} {mo:Bool}
theorem fillK_leaf {id:Nat} {t:Ty} {l:List t.den} {e i:Nat} {p:Path} {av:AVal} {f:St→Option R} (h:fillK σ id t l e i p av f=some r):av.sk = .leaf:=by
 unfold fillK at h
 split at h
 ·rename_i v _
  cases hro:v.isRo with
  | false=>rw [hro] at h;simp at h
  | true=>
   rw [hro] at h
   simp only [cond_true] at h
   unfold giveRow at h
   split at h
   ·rfl
   ·rfl
   ·simp at h
 ·simp at h
theorem op_store_nest {t:TypeId} {x y:Operand} {u:Ty} {bv:AVal} {cs:List Value} {id:Nat} {p:Path} {ep:Nat} (ho:o.op = .store t x y) (hdst:o.dst=none) (hT:TyOK P u t) (hst:StOK c.ntmps g w a σ)
  (ex:VOK w g σ.objs (.nv true id p ep) (a.eval x)) (hok:AOK w g σ.objs bv cs) (hcells:(a.eval y).cells.toList=cs) (hcl:cs.length=u.size) (hsk:u.sk=bv.sk)
  (h:nstoreK σ id p ep bv k=some r) (hK:Post c.ntmps k r g w σ base true K):o.wp P a w K Q:=by
 simp only [VOK] at ex
 obtain ⟨cs0,⟨v0,rfl,hone,hv⟩,hv'⟩:=ex
 have hfill:∀ {t1:Ty} {l1:List t1.den} {e i:Nat} {h0:Option Path},σ.objs id=some (.nest t1 l1 e i h0)→i=ep→
   (∀ v,tyR t1 p=some v→(∃ l2:List v.den,∀ (R':Type) (k':(u:Ty)→u.den→Option R'),getK (.sl true t1) l1 p k'=k' (.sl true v) l2)→HoleOK w g id t1 l1 p)→
   fillK σ id t1 l1 e i p bv k=some r→o.wp P a w K Q:=by
  intro t1 l1 e i h0 hobj hi hhole h
  obtain ⟨hp,b0,off0,hpl,hvv⟩:=((hv _ _ _ _ _ hobj).2 hi).2 rfl
  have hl:=fillK_leaf h
  have hl1:cs.length=1:=by rw [hok.len,hl];rfl
  obtain ⟨z,rfl⟩:=List.length_eq_one_iff.1 hl1
  obtain ⟨cc,ee,pre,σ',g',hk,hcell,htag,hoff,hst',hext,hfr,hn⟩:=nfill_ok hst hobj hhole hpl hok h
  have hrun:=run_storeVar (P:=P) (w:=w) (off:=off0) hT hcell hcells hcl (by rw [←hcl];simp;omega) hok.one
  have hv2:a.eval x = .pointer (some ⟨b0,off0,none⟩):=by rw [hv'];exact hvv
  refine wp_skip hdst ?_ hst' hext (fun m _ hfm=>hfr m hfm) hn hk (fun h=>Bool.noConfusion h) hK
  simp [execOp,ho,hv2,Instr.storeAt,Instr.sureAddr,hrun]
 unfold nstoreK at h
 split at h
 ·rename_i t1 l1 e i hobj
  cases hb:Nat.beq i ep with
  | false=>rw [hb] at h;simp at h
  | true=>
   rw [hb] at h
   have hi:=Nat.eq_of_beq_eq_true hb
   simp only [cond_true] at h
   have hwhole:Rep w g (some (id,[])) (.sl true t1) l1 [g.sv id []]:=hst.heap.objs id _ hobj
   cases hs:(tyR t1 p).isSome with
   | true=>
    rw [hs] at h
    simp only [cond_true] at h
    exact hfill hobj hi (fun v hty ⟨l2,hl2⟩=>(hole_of_whole hwhole hty hl2).1) h
   | false=>
    rw [hs] at h
    simp only [cond_false] at h
    split at h
    ·rename_i s p1 j q hlast
     have hpp:=lastIdx_eq hlast
     obtain ⟨U,X,hk1,hget⟩:=getK_at _ _ _ h
     split at hk1
     ·rename_i v l2
      cases hro:v.isRo with
      | false=>rw [hro] at hk1;simp at hk1
      | true=>
       rw [hro] at hk1
       simp only [cond_true] at hk1
       obtain ⟨u1,x1,hk2,hu1⟩:=getK_row_ro hro hk1
       obtain ⟨d,σ1,g1,hk3,h1,h2,h3,hrep1⟩:=give_ok 20 hst.heap hok hu1 hk2
       have hst1:=h3.st h1 hst
       split at hk3
       ·rename_i t2 l3 e2 i2 ho2
        have hsame:σ1.objs id=σ.objs id:=by
         rcases h3.objs id with e | e
         ·exact e
         ·rw [e] at ho2;simp at ho2
        have ho1:σ1.objs id=some (.nest t1 l1 e i none):=hsame.trans hobj
        obtain ⟨hp,b0,off0,hpl,hvv⟩:=((hv _ _ _ _ _ hobj).2 hi).2 rfl
        have hpl1:place g1 id (.sl true t1) [] 0 0 (s :: p1 ++ .idx j :: q)=some (b0,off0):=by
         rw [←hpp]
         exact (place_congr (g:=g) (g':=g1) (fun p=>by rw [h3.sv])).trans hpl
        obtain ⟨l',cc,ee,hf,hcell,htag,hsz,hobj'⟩:=nest_store hst1.heap ho1 hro hget hrep1 hpl1 hk3
        have hur:u1.size=u.size:=by rw [←hrep1.len,hcl]
        have hrun:=run_storeVar (P:=P) (w:=w) hT hcell hcells hcl (by rw [←hur];exact hsz) hok.one
        have hRw:=setRow_rewrote (w:=w) (g:=g1) (id:=id) (b0:=b0) (splice cc.toList off0 cs).toArray (.inl ⟨_,htag⟩)
        have hst2:=hRw.st hst1 (o':=.nest t1 l' e i none) (.inr (.inr (.inr (.inr ⟨t1,l1,l',e,e,i,i,none,none,ho1,rfl,Nat.le_refl _,Nat.le_refl _,fun _=>rfl,fun _ _=>rfl⟩)))) hobj'
        have hv2:a.eval x = .pointer (some ⟨b0,off0,none⟩):=by rw [hv'];exact hvv
        refine wp_skip hdst ?_ hst2 (h3.ext.trans hRw.ext) (fun m _ hfm=>?_) h2 hf (fun h=>Bool.noConfusion h) hK
        ·simp [execOp,ho,hv2,Instr.storeAt,Instr.sureAddr,hrun]
        ·exact hRw.fresh (by rw [ho1];simp) (fun y hy=>by simp at hy) (h3.fresh h1 hfm)
       ·simp at hk3
     ·simp at hk1
    ·simp at h
 ·rename_i t1 l1 e i h0 hobj
  cases hb:Nat.beq i ep with
  | false=>rw [hb] at h;simp at h
  | true=>
   rw [hb] at h
   have hi:=Nat.eq_of_beq_eq_true hb
   simp only [cond_true] at h
   obtain ⟨hpe,hfk⟩:=chk_some h
   obtain rfl:=pathEq_eq hpe
   exact hfill hobj hi (fun v hty _=>hst.heap.objs id _ hobj) hfk
 ·simp at h
theorem op_store (htt:TtOK P c.tt) {t:TypeId} {x y:Operand} (ho:o.op = .store t x y) (hst:StOK c.ntmps g w a σ) (h:opK0 c σ base o k=some r) (hK:Post c.ntmps k r g w σ base true K):o.wp P a w K Q:=by
 simp only [opK0,ho] at h
 split at h
 ·rename_i av bv u hx hy hu hdst
  cases hb:(bv.val && u.sk.same bv.sk) with
  | false=>rw [hb] at h;simp at h
  | true=>
   rw [hb] at h
   simp only [cond_true] at h
   simp only [Bool.and_eq_true] at hb
   have hsk:=Sk.same_eq hb.2
   have hT:=htt _ _ hu
   obtain ⟨ex,efx⟩:=ev_ok hst hx
   obtain ⟨ey,efy⟩:=ev_ok hst hy
   obtain ⟨cs,hok,hmk,hcells⟩:=VOK_valueCells hb.1 ey
   have hcl:cs.length=u.size:=by rw [hok.len,←hsk,Ty.sk_size]
   unfold storeK at h
   split at h
   ·rename_i id p ep
    split at h
    ·simp at h
    ·rename_i s q
     obtain ⟨t0,l0,ho0⟩:=efetch_obj h
     simp only [VOK] at ex
     obtain ⟨cs0,⟨v,rfl,hone,hv⟩,hv'⟩:=ex
     obtain ⟨hp,b0,off0,hpl,hvv⟩:=(hv _ _ _ ho0).2 rfl
     obtain ⟨t1,l1,u1,e1,b,off,cc,ee,ho1,hro,hk,hu1,hpl2,hty,htag,hcell,hsz,hrep⟩:=efetch_ok hst.heap hp h
     obtain ⟨d,σ1,g1,hk1,h1,h2,h3,hrep1⟩:=give_ok 20 hst.heap hok hu1 hk
     have hst1:=h3.st h1 hst
     split at hk1
     ·rename_i t2 l2 e2 ho2
      cases hbe:Nat.beq e2 ep with
      | false=>rw [hbe] at hk1;simp at hk1
      | true=>
       rw [hbe] at hk1
       have hee:=Nat.eq_of_beq_eq_true hbe
       subst hee
       simp only [cond_true] at hk1
       have hsame:σ1.objs id=σ.objs id:=by
        rcases h3.objs id with e | e
        ·exact e
        ·rw [e] at ho2;simp at ho2
       have hpl1:place g1 id (.sl true t0) [] 0 0 (s :: q)=some (b0,off0):=by
        exact (place_congr (g:=g) (g':=g1) (fun p=>by rw [h3.sv])).trans hpl
       have ht20:t2=t0:=by
        rw [hsame,ho0] at ho2
        simp only [Option.some.injEq,Obj.row.injEq] at ho2
        exact ho2.1.symm
       subst ht20
       cases s with
       | fst=>simp [setK] at hk1
       | snd=>simp [setK] at hk1
       | idx i=>
        obtain ⟨l',cc',ee',hf,hll,hcell',htag',hsz',hobj'⟩:=row_store hst1.heap ho2 hu1 hrep1 hpl1 hk1
        have hur:u1.size=u.size:=by rw [←hrep1.len,hcl]
        have hrun:=run_storeVar (P:=P) (w:=w) hT hcell' hcells hcl (by rw [←hur];exact hsz') hok.one
        have hRw:=setRow_rewrote (w:=w) (g:=g1) (id:=id) (b0:=b0) (splice cc'.toList off0 cs).toArray (.inl ⟨[],htag'⟩)
        have hst2:=hRw.st hst1 (o':=.row t2 l' e2) (.inr (.inl ⟨t2,l2,l',e2,e2,ho2,rfl,.inr ⟨rfl,hll,fun _=>rfl⟩⟩)) hobj'
        have hv2:a.eval x = .pointer (some ⟨b0,off0,none⟩):=by rw [hv'];exact hvv
        refine wp_skip hdst ?_ hst2 (h3.ext.trans hRw.ext) (fun m _ hfm=>?_) h2 hf (fun h=>Bool.noConfusion h) hK
        ·simp [execOp,ho,hv2,Instr.storeAt,Instr.sureAddr,hrun]
        ·exact hRw.fresh (by rw [ho2];simp) (fun y hy=>by simp at hy) (h3.fresh h1 hfm)
     ·simp at hk1
   ·rename_i id p
    split at h
    ·rename_i whole hobj
     obtain ⟨cc,e,hcell,htag,hall⟩:=hst.heap.objs id _ hobj
     obtain ⟨old,off,hk,hoff,hpart,_⟩:=getA_rep hall h
     cases hbo:old.sk.same bv.sk with
     | false=>rw [hbo] at hk;simp at hk
     | true=>
      rw [hbo] at hk
      simp only [cond_true] at hk
      have hos:=Sk.same_eq hbo
      rw [hos] at hoff
      obtain ⟨whole',hk2,hws,hwok,hids⟩:=setA_rep hok hall hoff hk
      simp only [VOK] at ex
      obtain ⟨cs0,⟨v,rfl,hone,hv⟩,hv'⟩:=ex
      obtain ⟨off',s,hoff',hvv⟩:=hv _ hobj
      rw [hoff] at hoff'
      simp only [Option.some.injEq,Prod.mk.injEq] at hoff'
      obtain ⟨rfl,_⟩:=hoff'
      have hle:=Sk.off_le hoff
      have hall':=hall.len
      rw [Array.length_toList] at hall'
      have hbs:bv.sk.size=u.size:=by rw [←hsk,Ty.sk_size]
      have hrun:=run_storeVar (P:=P) (w:=w) (u:=u) (off:=off) hT hcell hcells hcl (by omega) hok.one
      have hRw:=setRow_rewrote (w:=w) (g:=g) (id:=id) (b0:=g.blk id) (splice cc.toList off cs).toArray (.inr htag)
      have hkept:∀ i,IdKept g g i (σ.objs i) ((σ.setObj id (.cell whole')).objs i):=by
       intro i
       by_cases hi:i=id
       ·subst hi;simp only [St.setObj,upd_same];exact .inr (.inr (.inl ⟨whole,whole',hobj,rfl,hws,rfl⟩))
       ·simp only [St.setObj];rw [upd_other _ _ hi];exact IdKept.same (hRw.same hi)
      have hst2:=hRw.st hst (o':=.cell whole') (.inr (.inr (.inl ⟨whole,whole',hobj,rfl,hws,rfl⟩))) (by
       refine ⟨(splice cc.toList off cs).toArray,e,setRow_heap w _ cc _ e _ hcell,htag,?_⟩
       exact AOK.frame hRw.ro (fun i _=>hkept i) hwok)
      have hv2:a.eval x = .pointer (some ⟨g.blk id,off,none⟩):=by rw [hv'];exact hvv
      refine wp_skip (σ:=σ) hdst ?_ hst2 hRw.ext (fun m _ hfm=>?_) rfl hk2 (fun h=>Bool.noConfusion h) hK
      ·simp [execOp,ho,hv2,Instr.storeAt,Instr.sureAddr,hrun]
      ·refine hRw.fresh (by rw [hobj];simp) (fun y hy=>?_) hfm
       simp only [Obj.cell.injEq] at hy
       subst hy
       exact hids m (hfm.cells _ _ hobj) (efy m hfm)
    ·simp at h
   ·rename_i id p ep
    exact op_store_nest ho hdst hT hst ex hok hcells hcl hsk h hK
   ·simp at h
 ·simp at h
end
end Go.Kz
