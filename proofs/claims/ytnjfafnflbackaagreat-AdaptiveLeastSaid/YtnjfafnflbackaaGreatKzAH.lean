/-
  A call of a function that turns what it is given: the operation.
-/
import Derived.Test.YtnjfafnflbackaaGreatKzYF
import Derived.Test.YtnjfafnflbackaaGreatKzXD
import Derived.OrdersHeld
import Derived.LoopN
set_option linter.unusedVariables false
set_option linter.unusedSimpArgs false
namespace Go.Kz
variable {R:Type}
theorem zi3 {l:List (Nat×SPat)}:{an:List Nat}->zmk l an=true->∀ i∈an,∃ p,z0y l i=some p∧p.2.isVal=false
 | [],_,i,h=>by simp at h
 | j :: an,hk,i,h=>by
  simp only [zmk,zA] at hk;rcases List.mem_cons.1 h with rfl | h
  ·have h1:=hk.1;split at h1
   ·rename_i k p hp;exact ⟨_,hp,by simpa using h1⟩
   ·simp at h1
  ·exact zi3 hk.2 i h
section
variable {P:Program} {o:Oper} {a:Act} {w:World} {K:Act->World->Prop} {Q:Exit->Act->World->Prop} {c:Ctx} {σ:St} {g:Ghost} {k:St->Option R} {r:R} {base:Nat}
theorem zny {w:World} {R:Type}:(p:APat)->(all:AVal)->{σ:St}->{g:Ghost}->{vals:List Value}->{k:AVal->St->Option R}->{r:R}->HeapOK w g σ.objs->z1i w g σ.objs all vals->z5f p all σ k=some r->
  ∃ all' σ' g',k all' σ'=some r∧σ'.slots=σ.slots∧σ'.next=σ.next∧Shrunk g σ.objs g' σ'.objs∧z1i w g' σ'.objs all' vals:=by
 intro p
 induction p with
 | pr p q _ ihq=>
  intro all σ g vals k r hh hv h
  cases p with
  | val t=>
   cases all with
   | pr a c=>
    simp only [z5f] at h;obtain ⟨hb,h⟩:=z1f h;simp only [zA] at hb;obtain ⟨⟨hval,hro⟩,hsk⟩:=hb;simp only [z1i] at hv;obtain ⟨v,vs,rfl,hv1,hv2⟩:=hv;obtain ⟨cs,hcs,hmk,_⟩:=z1u hval hv1;obtain ⟨d,σ1,g1,hk1,h1,h2,h3,hrep⟩:=z58 20 hh hcs hro h;have hv2':z1i w g1 σ1.objs c vs:=z1i.frame (h3.ro w) (fun id _=>h3.kept hh id) hv2;obtain ⟨all',σ2,g2,hk2,h4,h5,h6,hvs⟩:=ihq c (h3.heap hh) hv2' hk1;refine ⟨_,σ2,g2,hk2,h4.trans h1,h5.trans h2,h3.trans h6,?_⟩;simp only [z1i];refine ⟨v,vs,rfl,?_,hvs⟩;have hag:=(z2g hval).1;rw [hag,Sk.same_eq hsk] at hmk;simp only [VOK]
    exact ⟨cs,⟨hro,Rep.kept (h6.ro w) hrep⟩,hmk⟩
   | _=>simp [z5f] at h
  | _=>simp [z5f] at h
 | un=>
  intro all σ g vals k r hh hv h
  cases all with
  | un=>exact ⟨.un,σ,g,by simpa [z5f] using h,rfl,rfl,.refl _ _,hv⟩
  | _=>simp [z5f] at h
 | _=>intro all σ g vals k r hh hv h;simp [z5f] at h
theorem zyb {σ:St} {n fid:Nat} {all:AVal} {f:AVal->St->Option R} {r:R} (h:zrz c σ n (.clos fid .un) all f=some r) (hu:z4l all .un=all):(match zg3 all (c.env fid) with
   | some (.pure p res F)=>zdx σ n all p res F f
   | some (.mut fin anch fout F)=>mutK σ n all fin anch fout F f
   | none=>none)=some r:=by
 unfold zrz at h;simp only [z9d,z6x,cond_true,hu] at h;split at h <;> simp_all
theorem zv2 {n:Nat} {σ:St} {i:Nat} {x:AVal} (hst:StOK n g w a σ) (ho:σ.objs i=some (.cell x)) (hcon:(AVal.tup x).isCon=true) :
  ∃ g',StOK n g' w a (σ.setObj i (.cell (.tup x)))∧Ext w g w g'∧RoKept w g w g'∧(∀ m,Fresh g σ m->Fresh g' (σ.setObj i (.cell (.tup x))) m)∧
   ∀ j,z10 g g' j (σ.objs j) ((σ.setObj i (.cell (.tup x))).objs j):=by
 obtain ⟨c,e,h1,h2,h3⟩:=(hst.heap.objs i _ ho).out (znv hcon);let g':Ghost:={ g with tag:=fun b=>if b=g.blk i then .ro else g.tag b };have hro:RoKept w g w g':=⟨fun b hb=>⟨by simp only [g'];split <;> first | rfl | exact hb,rfl⟩⟩;have hsame:∀ j,j≠i->Same w g w g' j:=fun j hj=>by
  refine ⟨⟨fun q=>rfl,fun q b hb=>⟨?_,rfl⟩⟩,rfl,fun hb=>⟨?_,rfl⟩⟩
  ·simp only [g'];rw [if_neg (fun he=>by subst he;rw [h2] at hb;simp at hb)];exact hb
  ·simp only [g'];rw [if_neg (fun he=>by rw [he,h2] at hb;simp only [Tag.box.injEq] at hb;exact hj hb.symm)];exact hb
 have hki:z10 g g' i (σ.objs i) (some (.cell (.tup x))):=.inr (.inr (.inl ⟨_,_,ho,rfl,rfl,rfl⟩));have hk:∀ j,z10 g g' j (σ.objs j) ((σ.setObj i (.cell (.tup x))).objs j):=by
  intro j;by_cases hj:j=i
  ·subst hj;simp only [St.setObj,z0i];exact hki
  ·simp only [St.setObj];rw [z0o _ _ hj];exact z10.same (hsame j hj)
 refine ⟨g',hst.turn hro hsame (.inl hki) ((z0z.con hcon).2 ⟨c,e,h1,by simp [g'],AOK.frame hro (fun j _=>hk j) h3⟩) (fun b hb=>?_),?_,hro,fun m hm=>?_,hk⟩
 ·simp only [g'] at hb;split at hb
  ·rename_i he;subst he;exact hst.heap.tags _ (by rw [h2];simp)
  ·exact hst.heap.tags b hb
 ·refine ⟨rfl,rfl,rfl,Nat.le_refl _,Nat.le_refl _,fun b _ hb=>⟨rfl,?_⟩⟩;simp only [g'];rw [if_neg (fun he=>by subst he;rw [h2] at hb;simp at hb)]
 ·have hmi:m≠i:=fun he=>by subst he;have:=hm.objs;rw [ho] at this;simp at this
  refine ⟨by simp only [St.setObj];rw [z0o _ _ hmi];exact hm.objs,fun b p hb=>?_,fun b hb=>?_,hm.slots,fun j av hj=>?_⟩
  ·simp only [g'] at hb;split at hb
   ·simp at hb
   ·exact hm.row b p hb
  ·simp only [g'] at hb;split at hb
   ·simp at hb
   ·exact hm.box b hb
  ·by_cases hji:j=i
   ·subst hji;simp only [St.setObj,z0i,zI,Obj.cell.injEq] at hj;subst hj;have:=hm.cells j _ ho;simpa [AVal.ids] using this
   ·simp only [St.setObj] at hj;rw [z0o _ _ hji] at hj;exact hm.cells j av hj
theorem zod {n:Nat}:(os:List SObj)->(is:List Nat)->{σ:St}->{g:Ghost}->{k:St->Option R}->{r:R}->StOK n g w a σ->zvv os is σ k=some r->
  ∃ σ' g',k σ'=some r∧StOK n g' w a σ'∧Ext w g w g'∧RoKept w g w g'∧(∀ m,Fresh g σ m->Fresh g' σ' m)∧σ'.next=σ.next∧∀ al vs,z1i w g σ.objs al vs->z1i w g' σ'.objs al vs
 | [],is,σ,g,k,r,hst,h=>⟨σ,g,by cases is <;> simpa [zvv] using h,hst,Ext.refl w g,⟨fun b hb=>⟨hb,rfl⟩⟩,fun m hm=>hm,rfl,fun _ _ h=>h⟩
 | o :: os,[],σ,g,k,r,hst,h=>⟨σ,g,by cases o <;> simpa [zvv] using h,hst,Ext.refl w g,⟨fun b hb=>⟨hb,rfl⟩⟩,fun m hm=>hm,rfl,fun _ _ h=>h⟩
 | o :: os,i :: is,σ,g,k,r,hst,h=>by
  have plain:zvv os is σ k=some r->∃ σ' g',k σ'=some r∧StOK n g' w a σ'∧Ext w g w g'∧RoKept w g w g'∧(∀ m,Fresh g σ m->Fresh g' σ' m)∧σ'.next=σ.next∧∀ al vs,z1i w g σ.objs al vs->z1i w g' σ'.objs al vs:=fun h=>zod os is hst h
  cases o with
  | con p=>
   simp only [zvv] at h;split at h
   ·rename_i x ho
    cases hcon:(AVal.tup x).isCon with
    | false=>rw [hcon] at h;exact plain h
    | true=>
    rw [hcon] at h;simp only [cond_true] at h;obtain ⟨g1,h1,h2,h2r,h3,h4⟩:=zv2 hst ho hcon;obtain ⟨σ',g',k1,k2,k3,k3r,k4,k5,k6⟩:=zod os is h1 h;exact ⟨σ',g',k1,k2,h2.trans k3,⟨fun b hb=>let z:=k3r.blk b (h2r.blk b hb).1;⟨z.1,rfl⟩⟩,fun m hm=>k4 m (h3 m hm),k5,fun al vs hv=>k6 al vs (z1i.frame h2r (fun j _=>h4 j) hv)⟩
   ·exact plain h
  | row _=>exact plain h
  | cell _=>exact plain h
  | map _ _=>exact plain h
  | nest _=>exact plain h
  | iter _=>exact plain h
theorem zp8:(l:List SObj)->(d:zg4 l)->{j:Nat}->{o:SObj}->z0y l j=some o->∃ e:o.den,z0y (z8d l d) j=some (o.mk e)
 | o :: l,d,0,o',h=>by
  simp only [z0y,zI] at h;subst h
  exact ⟨d.1,rfl⟩
 | o :: l,d,j+1,o',h=>zp8 l d.2 h
 | [],_,j,o',h=>by cases j <;> simp [z0y] at h
theorem zfq {so:z1w} {ids:List Nat} {g gc:Ghost} {w w':World} {xx:Bool} {fo:List SObj} {fd:zg4 fo} (hh:HeapOK w g so) (hext:Ext w (z2m xx g ids) w' gc) (hheap:HeapOK w' gc (z0y (z8d fo fd)))
  (hren:∀ id o,id∈ids->so id=some o->∃ o',o.ren so (fun i=>z19 i ids 0)=some o') :
  (l:Bnd)->{b b':Bnd}->zzp so ids fo l b=some b'->(∀ j id,z1k b j=some id->zdj g gc (z0y (z8d fo fd)) so j id)->∀ j id,z1k b' j=some id->zdj g gc (z0y (z8d fo fd)) so j id
 | [],b,b',h,hI=>by
  simp only [zzp,zI] at h
  subst h;exact hI
 | (j,_) :: l,b,b',h,hI=>by
  simp only [zzp] at h;split at h
  ·rename_i id hj;split at h
   ·rename_i q x hq ho;have hm:=(z1f h).1;replace h:=(z1f h).2;simp only [zA] at hm;obtain ⟨hm,hcon⟩:=hm;split at h
    ·rename_i b1 hb1;obtain ⟨d,hd⟩:=zp8 fo fd hq;have hcon':(AVal.tup (q.mk d)).isCon=true:=by
      unfold anchV at hb1;split at hb1
      ·rfl
      ·rfl
      ·simp at hb1
     obtain ⟨c,e,h1,h2,h3⟩:=(z0z.con hcon).1 (hh.objs id _ ho);obtain ⟨c',e',k1,k2,k3⟩:=(z0z.con hcon').1 (hheap.objs j _ hd);have hblk:=(hI j id hj).2.1 _ hd _ ho;rw [hblk] at k1;have hlt:=hh.tags (g.blk id) (by rw [h2];simp);have hkeep:=(hext.keep (g.blk id) hlt (.inr ((zdq (w:=w) (x:=xx)).blk _ ((z8b (w:=w) (ids:=ids)).blk _ h2).1).1)).1;rw [hkeep,h1] at k1;simp only [zI,Go.Obj.cells.injEq] at k1;obtain ⟨rfl,_⟩:=k1;obtain ⟨o',hr⟩:=hren id _ (z2d.1 hm) ho;simp only [Obj.ren,z8r,Option.map_eq_some_iff] at hr;obtain ⟨y1,⟨y2,hr,_⟩,_⟩:=hr;unfold anchV at hb1;split at hb1
     ·simp only [AVal.ren,Option.map_eq_some_iff] at hr;obtain ⟨y3,hr,_⟩:=hr;exact zfq hh hext hheap hren l h (zqg hb1 h3 hr k3 hI)
     ·exact zfq hh hext hheap hren l h (ze0 hb1 (z15 h3 rfl (by simp) (by simp)) hr (z15 k3 rfl (by simp [SPat.mk]) (by simp [SPat.mk])) hI)
     ·simp at hb1
    ·simp at h
   ·exact zfq hh hext hheap hren l h hI
  ·exact zfq hh hext hheap hren l h hI
theorem op_mutG {fid:Nat} {all:AVal} {vals:List Value} {fin:SForm} {anch:List Nat} {fout:SForm} {F:fin.den->Option fout.den} (hco:z04 P fid (.mut fin anch fout F))
  (hrun:(execOp a.eval o).run P w=(callFunc fid vals.toArray).run P w) (hall:z1i w g σ.objs all vals) (hst:StOK c.ntmps g w a σ) (hfr:∀ m,base≤m->m < base+8->Fresh g σ m)
  (h:(cond (z40 all && zl2 fin.slots 0 && zmk fin.slots anch && (zb3 fin.slots all || (z7y fout.slots && zbb fout.objs)) && Nat.ble fout.objs.length 8)
  (match (zok σ.objs all anch fout.slots []).bind fun b=>zzp σ.objs (z5a σ.objs 100 (z6i fin.slots all) []) fout.objs b b with
   | some b=>mutIn σ all fin (z5a σ.objs 100 (z6i fin.slots all) []) fun d=>(F d).bind fun r=>ztf σ base (z5a σ.objs 100 (z6i fin.slots all) []) b anch fout r fun v σ=>σ.putK c o.dst v k
   | none=>none) none)=some r) (hK:z6c c.ntmps k r g w σ base true K):o.wp P a w K Q:=by
 replace h:=z1f h;obtain ⟨hb,h⟩:=h;simp only [zA,Bool.or_eq_true] at hb;obtain ⟨⟨⟨⟨hval,hkeys⟩,hanch⟩,hflat⟩,hlen⟩:=hb;have hlen:=zL hlen;split at h
 ·rename_i b hbnd;obtain ⟨b0,hb0,hb1⟩:=Option.bind_eq_some_iff.1 hbnd;generalize hids:z5a σ.objs 100 (z6i fin.slots all) []=ids at h hb1;have hnd:ids.Nodup:=by rw [←hids];exact z62 _ _ _ (by simp)
  unfold mutIn at h;split at h
  ·rename_i os hos;obtain ⟨hol,hog⟩:=z8a hos;have hro:RenObjs σ.objs ids os:=⟨hol,hog⟩;obtain ⟨xx,hxx,hxf⟩:∃ xx:Bool,(xx=true∨zb3 fin.slots all=true)∧(xx=false∨(z7y fout.slots=true∧zbb fout.objs=true)):=by
    rcases hflat with hf | hf
    ·exact ⟨false,.inr hf,.inl rfl⟩
    ·exact ⟨true,.inl rfl,.inr hf⟩
   obtain ⟨d,h,hsl,hren,hvl⟩:=zh3 (x:=xx) hnd hro hst.heap fin.slots hkeys hval hxx hall h;obtain ⟨e,he,h9⟩:=z7f fin.objs h;subst he;simp only [Option.bind_eq_some_iff] at h9;obtain ⟨rv,hF,h8⟩:=h9;replace h:=h8;have hobj:∀ j o',z0y (z8d fin.objs e) j=some o'->z0z w (z8c g ids) (z0y (z8d fin.objs e)) j o'∧∀ y,o' = .cell y->∀ m∈y.ids,m < ids.length:=by
    intro j o' hj;obtain ⟨i,hi⟩:=z6v (l:=ids) (i:=j) (by rw [←hol];exact z4f hj);obtain ⟨o,o2,h1,h2,h3⟩:=hog j i hi;rw [hj] at h3;simp only [zI] at h3;subst h3;exact zsw hnd hro hi h2 (hst.heap.objs i o h1)
   have hol':fin.objs.length=ids.length:=by rw [←hol,zdm]
   have hent:StOK vals.length (z2m xx g ids) w ⟨vals.toArray,[]⟩ (St.of (z78 fin.slots d) (z8d fin.objs e)):=by
    refine ⟨fun i av hi=>?_,⟨fun j o' hj=>?_,fun bb hbb=>hst.heap.tags bb (znq hbb)⟩,by simp,rfl,(hst.known.kept z8b).kept zdq⟩
    ·obtain ⟨_,v,h2,h3,_⟩:=hsl i av hi;exact ⟨v,by simpa using h2,h3⟩
    ·exact z0z.frame zdq (zh7 j) (fun _ _ id' _=>zh8 id' _) (hobj j o' hj).1
   have hfree:∀ m,fin.objs.length≤m->Fresh (z2m xx g ids) (St.of (z78 fin.slots d) (z8d fin.objs e)) m:=by
    intro m hm;rw [hol'] at hm;refine ⟨?_,fun bb p hbb=>?_,fun bb hbb=>?_,fun i av hi hmem=>?_,fun j y hj hmem=>?_⟩
    ·exact zkt (by rw [zdm,hol'];exact hm)
    ·have:=zph (.inl ⟨p,hbb⟩);omega
    ·have:=zph (.inr hbb);omega
    ·obtain ⟨_,v,_,_,h4⟩:=hsl i av hi;have:=h4 m hmem;omega
    ·have:=(hobj j _ hj).2 y rfl m hmem;omega
   have hout:∀ v w',(∃ g',Ext w (z2m xx g ids) w' g'∧HeapOK w' g' (z0y (z8d fout.objs rv.2))∧
     (∀ k i av,z0y anch k=some i->z0y ((z78 fout.slots rv.1).map Prod.snd) k=some av->∃ u,vals[i]? = some u∧VOK w' g' (z0y (z8d fout.objs rv.2)) av u)∧
     VOK w' g' (z0y (z8d fout.objs rv.2)) (z5q (z73 anch.length ((z78 fout.slots rv.1).map Prod.snd))) v)->K (a.put o.dst v) w':=by
    intro v w' ⟨gc,hext,hheap,hex,hres⟩;unfold ztf at h;split at h
    ·rename_i os' vs hos' hvs;replace h:=z1f h;obtain ⟨hb2,h⟩:=h;simp only [zA] at hb2;have hid0:=zqf (so:=σ.objs) (g:=g) (gc:=gc) (w:=w) (w':=w') (oc:=z0y (z8d fout.objs rv.2)) (ρ:=fun i=>z19 i ids 0) (vs:=vals) rfl anch fout.slots rv.1 hb0 (fun i hi av hav=>by
      obtain ⟨p,hp1,hp2⟩:=zi3 hanch i hi;obtain ⟨u,hu1,hu2,_⟩:=zbp hall hav;refine ⟨hren i av p hav hp1 hp2,fun u' hu'=>?_⟩;rw [hu1] at hu';simp only [zI] at hu';subst hu';exact hu2) hex (fun j id hj=>by simp [z1k] at hj)
     have hid:=zfq (fd:=rv.2) hst.heap hext hheap (fun id o hid ho=>by
      obtain ⟨j,hj,he⟩:=List.mem_iff_getElem.1 hid;obtain ⟨o1,o2,h1,h2,_⟩:=hog j id (by rw [z7j,List.getElem?_eq_getElem hj,he]);rw [ho] at h1;simp only [zI] at h1;subst h1;exact ⟨o2,h2⟩) b0 hb1 hid0
     have H:Behind w g σ base xx ids b fout rv os' w' gc:=⟨hext,hheap,hid,hos',hb2.1,hb2.2,hfr,hlen,hxf,fun i hi=>by
      obtain ⟨j,hj,he⟩:=List.mem_iff_getElem.1 hi;obtain ⟨o1,_,h1,_⟩:=hog j i (by rw [z7j,List.getElem?_eq_getElem hj,he]);rw [h1];simp⟩
     refine zzn (w:=w) (g:=g) (H.ok hst) (zqe hext) (fun m hm hf=>⟨H.free hm hf,fun hmem=>?_⟩) rfl ?_ h (fun hh=>by simp at hh) hK
     ·exact H.notM hm hf (zgl _ _ hvs m (zhz _ _ m (zr7 _ m hmem)))
     ·exact zgk H.bk anch.length fout.slots rv.1 (H.carry.imp _root_.id fun h=>h.1) hvs hres
    ·simp at h
   rcases hco w (z2m xx g ids) (d,e) vals rv hvl hent hfree hF with ⟨hr1,hr2⟩ | ⟨v,w',hr1,hr2⟩
   ·unfold Oper.wp;rw [hrun,hr1,Oper.upon_enter];refine Calls.mono hr2 (fun e' w' he=>?_);obtain ⟨v,rfl,hv⟩:=he;exact hout v w' hv
   ·unfold Oper.wp;rw [hrun,hr1,Oper.upon_value];exact hout v w' hr2
  ·simp at h
 ·simp at h
theorem zko (henv:zmu P c.env) {fid:Nat} {all:AVal} {vals:List Value} (hrun:(execOp a.eval o).run P w=(callFunc fid vals.toArray).run P w) (hall:z1i w g σ.objs all vals)
  (hst:StOK c.ntmps g w a σ) (hfr:∀ m,base≤m->m < base+8->Fresh g σ m)
  (h:(match zg3 all (c.env fid) with
   | some (.pure p res F)=>zdx σ base all p res F fun v σ=>σ.putK c o.dst v k
   | some (.mut fin anch fout F)=>mutK σ base all fin anch fout F fun v σ=>σ.putK c o.dst v k
   | none=>none)=some r) (hK:z6c c.ntmps k r g w σ base true K):o.wp P a w K Q:=by
 split at h
 ·rename_i p res F hpick;have hco:=henv fid _ (zaw hpick);unfold zdx at h
  cases hb:(zaa res || z5s all) with
  | true=>
   rw [hb] at h
   exact zim hco hrun hall hst hfr h hK
  | false=>
   rw [hb] at h;obtain ⟨all',σ1,g1,hk1,h1,h2,h3,hvs⟩:=zny p all hst.heap hall h;refine zim (mo:=true) hco hrun hvs (h3.st h1 hst) (fun m hm1 hm2=>h3.fresh h1 (hfr m hm1 hm2)) hk1 ?_;intro σ' g' a' w' hk' hst' hext hfr' hn' hag;exact hK σ' g' a' w' hk' hst' (h3.ext.trans hext) (fun m hm hf=>hfr' m hm (h3.fresh h1 hf)) (hn'.trans h2) hag
 ·rename_i fin anch fout F hpick;have hco:=henv fid _ (zaw hpick);unfold mutK at h;obtain ⟨σ0,g0,h0,hst0,hext0,_,hfr0,hnx0,hvs0⟩:=zod _ _ hst h;clear h;have hK0:z6c c.ntmps k r g0 w σ0 base true K:=by
   intro σ' g' a' w' hk' hst' hext' hfr' hn' hag;exact hK σ' g' a' w' hk' hst' (hext0.trans hext') (fun m hm hf=>hfr' m hm (hfr0 m hf)) (hn'.trans hnx0) hag
  exact op_mutG hco hrun (hvs0 _ _ hall) hst0 (fun m h1 h2=>hfr0 m (hfr m h1 h2)) h0 hK0
 ·simp at h
theorem zx2 (henv:zmu P c.env) {cl:Call} {x:Operand} (ho:o.op = .call cl) (hcl:cl.callee = .value x)
  (hst:StOK c.ntmps g w a σ) (hfr:∀ m,base≤m->m < base+8->Fresh g σ m) {gv args:AVal} (hx:ev σ x=some gv) (hargs:evs σ cl.args.toList=some args)
  (h:(zrz c σ base gv args fun v σ=>σ.putK c o.dst v k)=some r) (hK:z6c c.ntmps k r g w σ base true K):o.wp P a w K Q:=by
 obtain ⟨eg,_⟩:=z1t hst hx;obtain ⟨ea,_⟩:=zd2 hst hargs;unfold zrz at h;split at h
 ·rename_i fid all hcallee;obtain ⟨us,hfv,hall⟩:=zm9 eg ea hcallee;refine zko henv (fid:=fid) (all:=all) (vals:=(cl.args.toList.map a.eval)++us) ?_ hall hst hfr h hK;have e1:cl.args.map a.eval=(cl.args.toList.map a.eval).toArray:=by apply Array.toList_inj.1;rw [Array.toList_map]
  simp [execOp,ho,resolve,hcl,hfv,Deferred.ofValue,invoke,e1]
 ·simp at h
theorem opM_Y {q:Bool} {n:Nat} (hy:isY o=true):opM q c σ n o k=opK c σ n o k:=by
 unfold opM;split
 ·rename_i ho;simp [isY,znu,ho] at hy
 ·rename_i ho;simp [isY,znu,ho] at hy
 ·rename_i ho;simp [isY,znu,ho] at hy
 ·rename_i ho;simp [isY,znu,ho] at hy
 ·rename_i ho;simp [isY,znu,ho] at hy
 ·rfl
theorem zyv {q:Bool} (hc:CtxOK P c) (hst:StOK c.ntmps g w a σ) (hfr:∀ m,base≤m->m < base+8->Fresh g σ m) (h:opM q c σ base o k=some r) (hK:z6c c.ntmps k r g w σ base (zjt q o) K):o.wp P a w K Q:=by
 have hK':z6c c.ntmps k r g w σ base (isM o) K:=by
  intro σ' g' a' w' h1 h2 h3 h4 h5 h6;refine hK σ' g' a' w' h1 h2 h3 h4 h5 fun hm=>h6 ?_
  cases q with
  | false=>exact hm
  | true=>
   simp only [zjt,cond_true,Bool.or_eq_false_iff] at hm;exact hm.1
 unfold opM at h;split at h
 ·rename_i x args ts ho
  cases q with
  | false=>exact zrb hc hst hfr h hK'
  | true=>
   simp only [cond_true] at h;split at h
   ·rename_i gv av hx ha;refine zx2 hc.env ho rfl hst hfr hx ha h ?_;intro σ' g' a' w' h1 h2 h3 h4 h5 _;exact hK σ' g' a' w' h1 h2 h3 h4 h5 (fun hh=>by simp [zjt,zl5,ho] at hh)
   ·simp at h
 ·rename_i x nm args ts ho
  cases q with
  | false=>exact zrb hc hst hfr h hK'
  | true=>
   simp only [cond_true] at h;split at h
   ·rename_i xv av hx ha;obtain ⟨fid,all,vals,hrun,hall,hu,h⟩:=ztw hc.tt hc.ms (nm:=nm) (ts:=ts) ho hst hx ha h;refine zko hc.env hrun hall hst hfr (zyb h hu) ?_;intro σ' g' a' w' h1 h2 h3 h4 h5 _;exact hK σ' g' a' w' h1 h2 h3 h4 h5 (fun hh=>by simp [zjt,zl5,ho] at hh)
   ·simp at h
 ·rename_i t x ho
  cases q with
  | false=>exact zrb hc hst hfr h hK'
  | true=>
   simp only [cond_true] at h;split at h
   ·rename_i av hx;exact zwx hc.mt ho hst (hfr base (Nat.le_refl _) (by omega)) hx h hK
   ·simp at h
 ·rename_i x ho
  cases q with
  | false=>exact zrb hc hst hfr h hK'
  | true=>
   simp only [cond_true] at h;split at h
   ·rename_i av hx;refine op_next (base:=base) ho hst hx h ?_;intro σ' g' a' w' h1 h2 h3 h4 h5 _;exact hK σ' g' a' w' h1 h2 h3 h4 h5 (fun hh=>by simp [zjt,zl5,ho] at hh)
   ·simp at h
 ·rename_i x ho
  cases q with
  | false=>exact zrb hc hst hfr h hK'
  | true=>
   simp only [cond_true] at h;split at h
   ·rename_i av hx;refine zx0 (base:=base) ho hst hx h ?_;intro σ' g' a' w' h1 h2 h3 h4 h5 _;exact hK σ' g' a' w' h1 h2 h3 h4 h5 (fun hh=>by simp [zjt,zl5,ho] at hh)
   ·simp at h
 ·exact zrb hc hst hfr h hK'
end
end Go.Kz
namespace Go.Kz
variable {R:Type}
section
variable {P:Program} {ops:Array Oper} {Q:Exit->Act->World->Prop} {q:Bool}
theorem zrn {q:Bool} {o:Oper} (h:zjt q o=false):zjt false o=false:=by
 cases q with
 | false=>exact h
 | true=>
  simp only [zjt,cond_true,Bool.or_eq_false_iff] at h;exact h.1
def z1y (q:Bool) (P:Program) (ops:Array Oper) (Q:Exit->Act->World->Prop) (o:Oper) (K:Act->World->Prop) (a:Act) (w:World):Prop:=
 if Region.wanted o (yielded ops a.tmps)=true then
  (isY o=true∧∃ v,(∀ w',AgP o w w'->(execOp a.eval o).run P w' = .ok (.value v) w')∧K (a.put o.dst v) w)∨
  (isY o=false∧o.wp P a w (fun a' w'=>(zjt q o=false->z3v w w')∧K a' w') Q)
 else K (a.put o.dst undef) w
def wpL (q:Bool) (P:Program) (ops:Array Oper) (Q:Exit->Act->World->Prop) (K:Act->World->Prop):List (Nat×Oper)->Act->World->Prop
 | [],a,w=>K a w
 | (_,o) :: l,a,w=>z1y q P ops Q o (wpL q P ops Q K l) a w
theorem zgb {K:Act->World->Prop}:(l m:List (Nat×Oper))->wpL q P ops Q K (l++m)=wpL q P ops Q (wpL q P ops Q K m) l
 | [],m=>rfl
 | (i,o) :: l,m=>by
  funext a w;simp only [List.cons_append,wpL,zgb l m]
def zmp (l:List (Nat×Oper)) (a a':Act):Prop:=∀ i,(∀ x∈l,x.2.dst≠some i)->a'.tmps[i]? = a.tmps[i]?
theorem Oper.wp_put {o:Oper} {a:Act} {w:World} {K:Act->World->Prop} (h:o.wp P a w K Q) :
  o.wp P a w (fun a' w'=>(∀ i,o.dst≠some i->a'.tmps[i]? = a.tmps[i]?)∧K a' w') Q:=by
 have hput:∀ (b:Act) (v:Value),b.tmps=a.tmps->∀ i,o.dst≠some i->(b.put o.dst v).tmps[i]? = a.tmps[i]? := by
  intro b v hb i hi;rw [zbv,if_neg (fun h=>hi h.1),hb]
 unfold Oper.wp at *;generalize (execOp a.eval o).run P w=x at *
 cases x with
 | ok n w'=>
  cases n <;> simp only [Oper.upon] at h ⊢
  case value v=>exact ⟨hput a v rfl,h⟩
  case skip=>exact ⟨hput a _ rfl,h⟩
  case defer d=>exact ⟨hput _ _ rfl,h⟩
  case enter f args=>
   refine Calls.mono h fun e w'' he=>?_
   cases e with
   | returned v=>exact ⟨hput a v rfl,he⟩
   | panicked c=>exact he
   | outgrown=>exact he
  case row row args=>exact Rows.mono h fun v w'' he=>⟨hput a v rfl,he⟩
 | halt x w'=>cases x <;> simp only [Oper.upon] at h ⊢ <;> exact h
theorem z1y.frame {o:Oper} {K:Act->World->Prop} {a:Act} {w:World} (h:z1y q P ops Q o K a w) :
  z1y q P ops Q o (fun a' w'=>((zjt q o=false->z3v w w')∧∀ i,o.dst≠some i->a'.tmps[i]? = a.tmps[i]?)∧K a' w') a w:=by
 have hput:∀ v,∀ i,o.dst≠some i->(a.put o.dst v).tmps[i]? = a.tmps[i]? := by
  intro v i hi;rw [zbv,if_neg (fun h=>hi h.1)]
 unfold z1y at *;split
 ·rename_i hw;rw [if_pos hw] at h;rcases h with ⟨hy,v,h1,h2⟩ | ⟨hy,h1⟩
  ·exact .inl ⟨hy,v,h1,⟨fun _=>z3v.refl w,hput v⟩,h2⟩
  ·exact .inr ⟨hy,Oper.wp_mono (fun a' w' hh=>⟨hh.2.1,⟨hh.2.1,hh.1⟩,hh.2.2⟩) (Oper.wp_put h1)⟩
 ·rename_i hw;rw [if_neg hw] at h;exact ⟨⟨fun _=>z3v.refl w,hput _⟩,h⟩
theorem z1y.mono {o:Oper} {K K':Act->World->Prop} {a:Act} {w:World} (hk:∀ a w,K a w->K' a w) (h:z1y q P ops Q o K a w):z1y q P ops Q o K' a w:=by
 unfold z1y at *;split
 ·rename_i hw;rw [if_pos hw] at h;rcases h with ⟨hy,v,h1,h2⟩ | ⟨hy,h1⟩
  ·exact .inl ⟨hy,v,h1,hk _ _ h2⟩
  ·exact .inr ⟨hy,Oper.wp_mono (fun a' w' hh=>⟨hh.1,hk _ _ hh.2⟩) h1⟩
 ·rename_i hw;rw [if_neg hw] at h;exact hk _ _ h
theorem z3v.size {w w':World} (h:z3v w w'):w.heap.size≤w'.heap.size:=by
 rcases Nat.eq_zero_or_pos w.heap.size with h0 | h0
 ·omega
 ·have:=h (w.heap.size-1) (by omega);have h2:w.heap[w.heap.size-1]?≠none:=by simp;omega
  rw [←this] at h2;simp at h2;omega
theorem z3v.trans {w w' w'':World} (h:z3v w w') (k:z3v w' w''):z3v w w'':=fun b hb=>(k b (by have:=h.size;omega)).trans (h b hb)
theorem zjy {K:Act->World->Prop}:(l:List (Nat×Oper))->noM l=true->(a:Act)->(w:World)->wpL false P ops Q K l a w->
  wpL false P ops Q (fun a' w'=>(z3v w w'∧zmp l a a')∧K a' w') l a w
 | [],_,a,w,h=>⟨⟨z3v.refl w,fun _ _=>rfl⟩,h⟩
 | (i,o) :: l,hm,a,w,h=>by
  simp only [noM,zA,Bool.not_eq_true'] at hm;have h1:=z1y.frame (show z1y false P ops Q o (wpL false P ops Q K l) a w from h);refine z1y.mono (fun a1 w1 hh=>?_) h1;obtain ⟨⟨hag,hsl⟩,hrest⟩:=hh;have h2:=zjy l hm.2 a1 w1 hrest;have mono:∀ (l:List (Nat×Oper)) (K K':Act->World->Prop),(∀ a w,K a w->K' a w)->∀ a w,wpL false P ops Q K l a w->wpL false P ops Q K' l a w:=by
   intro l
   induction l with
   | nil=>exact fun K K' hk a w h=>hk a w h
   | cons x l ih=>exact fun K K' hk a w h=>z1y.mono (fun a w h=>ih K K' hk a w h) h
  refine mono l _ _ (fun a2 w2 hh=>?_) a1 w1 h2;obtain ⟨⟨hag2,hsl2⟩,hk⟩:=hh;refine ⟨⟨(hag hm.1).trans hag2,fun j hj=>?_⟩,hk⟩;rw [hsl2 j (fun x hx=>hj x (by simp [hx])),hsl j (hj (i,o) (by simp))]
theorem z1y.weak {o:Oper} {K:Act->World->Prop} {a:Act} {w:World} (h:z1y false P ops Q o K a w):z1y q P ops Q o K a w:=by
 unfold z1y at *;split
 ·rename_i hw;rw [if_pos hw] at h;rcases h with h1 | ⟨hy,h1⟩
  ·exact .inl h1
  ·exact .inr ⟨hy,Oper.wp_mono (fun a' w' hh=>⟨fun hm=>hh.1 (zrn hm),hh.2⟩) h1⟩
 ·rename_i hw;rw [if_neg hw] at h;exact h
theorem zot {K:Act->World->Prop}:(l:List (Nat×Oper))->(a:Act)->(w:World)->wpL false P ops Q K l a w->wpL q P ops Q K l a w
 | [],a,w,h=>h
 | (_,_) :: l,a,w,h=>z1y.weak (z1y.mono (fun a w h=>zot l a w h) h)
theorem zjx {K:Act->World->Prop}:(l:List (Nat×Oper))->(a:Act)->(w:World)->wpL q P ops Q K l a w->wpL q P ops Q (fun a' w'=>zmp l a a'∧K a' w') l a w
 | [],a,w,h=>⟨fun _ _=>rfl,h⟩
 | (i,o) :: l,a,w,h=>by
  refine z1y.mono (fun a1 w1 hh=>?_) (z1y.frame (show z1y q P ops Q o (wpL q P ops Q K l) a w from h));obtain ⟨⟨_,hsl⟩,hrest⟩:=hh;have mono:∀ (l:List (Nat×Oper)) (K K':Act->World->Prop),(∀ a w,K a w->K' a w)->∀ a w,wpL q P ops Q K l a w->wpL q P ops Q K' l a w:=by
   intro l
   induction l with
   | nil=>exact fun K K' hk a w h=>hk a w h
   | cons x l ih=>exact fun K K' hk a w h=>z1y.mono (fun a w h=>ih K K' hk a w h) h
  refine mono l _ _ (fun a2 w2 hh=>⟨fun j hj=>?_,hh.2⟩) a1 w1 (zjx l a1 w1 hrest);rw [hh.1 j (fun x hx=>hj x (by simp [hx])),hsl j (hj (i,o) (by simp))]
theorem zi7 {K K':Act->World->Prop} (hk:∀ a w,K a w->K' a w):(l:List (Nat×Oper))->(a:Act)->(w:World)->wpL q P ops Q K l a w->wpL q P ops Q K' l a w
 | [],a,w,h=>hk a w h
 | (_,_) :: l,_,_,h=>z1y.mono (fun a w h=>zi7 hk l a w h) h
end
theorem zgh {p:Oper->Bool}:{l acc:List (Nat×Oper)}->{grp rest:List (Nat×Oper)}->{d:Option Nat}->zee p l acc=some (grp,d,rest)->acc++l=grp++rest
 | [],_,_,_,_,h=>by simp [zee] at h
 | (i,o) :: l,acc,grp,rest,d,h=>by
  simp only [zee] at h
  cases hp:p o with
  | true=>
   rw [hp] at h;simp only [cond_true,zI,Prod.mk.injEq] at h;obtain ⟨rfl,_,rfl⟩:=h
   simp
  | false=>
   rw [hp] at h;have:=zgh (l:=l) h;rw [←this];simp
theorem z4v:{l:List (Nat×Oper)}->{σ:St}->{i:Nat}->{av:AVal}->(z3x l σ).slots i=some av->σ.slots i=some av∧∀ x∈l,x.2.dst≠some i
 | [],σ,i,av,h=>⟨h,by simp⟩
 | (j,o) :: l,σ,i,av,h=>by
  simp only [z3x] at h;obtain ⟨h1,h2⟩:=z4v (l:=l) h
  cases hd:o.dst with
  | none=>
   rw [hd] at h1
   exact ⟨h1,fun x hx=>(List.mem_cons.1 hx).elim (fun e=>by subst e;simp [hd]) (fun hx=>h2 x hx)⟩
  | some d=>
   rw [hd] at h1;simp only [St.unset,upd] at h1
   cases hb:Nat.beq i d with
   | true=>rw [hb] at h1;simp at h1
   | false=>
    rw [hb] at h1;refine ⟨h1,fun x hx=>?_⟩;rcases List.mem_cons.1 hx with rfl | hx
    ·rw [hd];intro he;simp only [zI] at he;subst he;rw [Nat.beq_refl] at hb;simp at hb
    ·exact h2 x hx
theorem zak:(l:List (Nat×Oper))->(σ:St)->(z3x l σ).objs=σ.objs∧(z3x l σ).next=σ.next
 | [],_=>⟨rfl,rfl⟩
 | (_,o) :: l,σ=>by
  simp only [z3x];obtain ⟨h1,h2⟩:=zak l (σ.unset o.dst);cases hd:o.dst <;> rw [hd] at h1 h2 <;> exact ⟨h1,h2⟩
end Go.Kz
namespace Go.Kz
def FreshL (g:Ghost) (σ:St) (base:Nat) (l:List (Nat×Oper)):Prop:=∀ x∈l,∀ m,base+8*x.1≤m->m < base+8*x.1+8->Fresh g σ m
def Out (base:Nat) (l:List (Nat×Oper)) (m:Nat):Prop:=∀ x∈l,m < base+8*x.1∨base+8*x.1+8≤m
theorem zty {n:Nat} {g:Ghost} {w w':World} {a a':Act} {σ:St} (hst:StOK n g w a σ) (hag:z3v w w') (hd:a'.defers=[]) (hs:a'.tmps.size=n)
  (slots:∀ i av,σ.slots i=some av->a'.tmps[i]? = a.tmps[i]?):StOK n g w' a' σ:=by
 have ht:=hst.heap.tags;have hr:RoKept w g w' g:=⟨fun b hb=>⟨hb,hag b (ht b (by rw [hb];simp))⟩⟩;have hsame:∀ id,Same w g w' g id:=fun id=>⟨⟨fun _=>rfl,fun _ b hb=>⟨hb,hag b (ht b (by rw [hb];simp))⟩⟩,rfl,fun hb=>⟨hb,hag _ (ht _ (by rw [hb];simp))⟩⟩
 have hk:∀ id,z10 g g id (σ.objs id) (σ.objs id):=fun id=>z10.refl g id _
 refine ⟨fun i av hi=>?_,⟨fun id x hx=>?_,fun b hb=>?_⟩,hs,hd,hst.known.kept hr⟩
 ·obtain ⟨u,hu,hok⟩:=hst.slots i av hi;exact ⟨u,by rw [slots i av hi];exact hu,VOK.frame hr (fun id _=>hk id) hok⟩
 ·exact z0z.frame hr (hsame id) (fun _ _ id' _=>hk id') (hst.heap.objs id x hx)
 ·have:=ht b hb;have:=hag.size;omega
theorem zoh {σ:St} {d:Nat} {b:Bool} (h:zma σ d=some b):σ.slots d=some (.data .bool b):=by
 unfold zma at h;split at h
 ·rename_i x hx;simp only [zI] at h;subst h;exact hx
 ·simp at h
section
variable {P:Program} {ops:Array Oper} {Q:Exit->Act->World->Prop} {c:Ctx} {base:Nat} {dst:Nat->Option Nat}
theorem z79 {o:Oper} {f:Nat->Option Bool} (h:o.guard=none):Region.wanted o f=true:=by simp [Region.wanted,h]
theorem zcs {o:Oper} {a:Act} {j t:Nat} {want b:Bool} (h:o.guard=some (j,want)) (hd:(ops[j]?).bind (·.dst)=some t) (hv:a.tmps[t]? = some (.bool b)) :
  Region.wanted o (yielded ops a.tmps)=(b == want):=by
 simp [Region.wanted,h,yielded,hd,hv]
theorem zn1 {n:Nat} {g:Ghost} {w:World} {a:Act} {σ:St} (hst:StOK n g w a σ) {t:Nat} {b:Bool} (h:σ.slots t=some (.data .bool b)):a.tmps[t]? = some (.bool b):=by
 obtain ⟨v,hv,hok⟩:=hst.slots t _ h;rw [hv,z7u hok]
theorem zib {n:Nat} {g:Ghost} {w:World} {a:Act} {σ:St} (hst:StOK n g w a σ) {t:Nat} {av:AVal} (h:σ.slots t=some av):StOK n g w a (σ.set t av):=by
 refine ⟨fun i x hi=>?_,hst.heap,hst.size,hst.defers,hst.known⟩;simp only [St.set,upd] at hi
 cases hb:Nat.beq i t with
 | true=>
  rw [hb] at hi;simp only [cond_true,zI] at hi;subst hi;have:=zE hb;subst this
  exact hst.slots _ _ h
 | false=>rw [hb] at hi;exact hst.slots i x hi
theorem zex {x:Nat}:{l:List Nat}->(z2e x l=true↔x∈l)
 | []=>by simp [z2e]
 | y :: l=>by
  simp only [z2e,List.mem_cons]
  cases h:Nat.beq y x with
  | true=>simp [zE h]
  | false=>
   have hne:x≠y:=by intro he;subst he;rw [Nat.beq_refl] at h;simp at h
   simp [hne,zex (l:=l)]
def Und (a:Act) (und:List Nat):Prop:=∀ s∈und,∀ b,a.tmps[s]?≠some (.bool b)
theorem zgd {o:Oper} {a:Act} {j t:Nat} {want:Bool} (h:o.guard=some (j,want)) (hd:(ops[j]?).bind (·.dst)=some t) (hv:∀ b,a.tmps[t]?≠some (.bool b)) :
  Region.wanted o (yielded ops a.tmps)=false:=by
 have hy:yielded ops a.tmps j=none:=by
  cases hx:a.tmps[t]? with
  | none=>simp [yielded,hd,hx]
  | some v=>
   cases v with
   | bool b=>exact absurd hx (hv b)
   | _=>simp [yielded,hd,hx]
 simp [Region.wanted,h,hy]
theorem zn9 {d s:Nat}:{l:List Nat}->s∈rmN d l->s∈l∧s≠d
 | [],h=>by simp [rmN] at h
 | x :: l,h=>by
  simp only [rmN] at h
  cases hb:Nat.beq x d with
  | true=>
   rw [hb] at h;have:=zn9 (l:=l) h
   exact ⟨by simp [this.1],this.2⟩
  | false=>
   rw [hb] at h;rcases List.mem_cons.1 h with rfl | h
   ·exact ⟨by simp,fun he=>by subst he;rw [Nat.beq_refl] at hb;simp at hb⟩
   ·have:=zn9 (l:=l) h;exact ⟨by simp [this.1],this.2⟩
theorem zlx {d:Option Nat} {s:Nat} {l:List Nat} (h:s∈zdf d l):s∈l∧d≠some s:=by
 cases d with
 | none=>exact ⟨h,by simp⟩
 | some d=>
  have:=zn9 h;exact ⟨this.1,by simp;exact fun he=>this.2 he.symm⟩
theorem zd3 {s:Nat}:{l:List (Nat×Oper)}->{u:List Nat}->s∈zjl l u->s∈u∧∀ x∈l,x.2.dst≠some s
 | [],u,h=>⟨h,by simp⟩
 | (i,o) :: l,u,h=>by
  obtain ⟨h1,h2⟩:=zd3 (l:=l) h;obtain ⟨h3,h4⟩:=zlx h1;refine ⟨h3,fun x hx=>?_⟩;rcases List.mem_cons.1 hx with rfl | hx
  ·exact h4
  ·exact h2 x hx
theorem Und.keep {a a':Act} {u:List Nat} {d:Option Nat} (h:Und a u) (hs:∀ i,d≠some i->a'.tmps[i]? = a.tmps[i]?):Und a' (zdf d u):=by
 intro s hm b;obtain ⟨h1,h2⟩:=zlx hm;rw [hs s h2];exact h s h1 b
theorem Und.skip {a:Act} {u:List Nat} {d:Option Nat} (h:Und a u):Und (a.put d undef) (zyj d u):=by
 intro s hm b;rw [zbv];split
 ·intro he;cases he
 ·rename_i hne
  cases d with
  | none=>exact h s hm b
  | some d=>
   rcases List.mem_cons.1 hm with rfl | hm
   ·have hge:a.tmps.size≤s:=by
     by_cases hlt:s < a.tmps.size
     ·exact absurd ⟨rfl,hlt⟩ hne
     ·omega
    rw [Array.getElem?_eq_none hge];simp
   ·exact h s hm b
theorem zbx (hc:CtxOK P c) (hdst:∀ j,dst j=(ops[j]?).bind (·.dst)):(q:Bool)->(n:Nat)->{R:Type}->{opened und:List Nat}->{l:List (Nat×Oper)}->{σ:St}->{g:Ghost}->{a:Act}->{w:World}->{k:St->Option R}->{r:R}->
  {K:Act->World->Prop}->zgz c base dst q n R opened und l σ k=some r->StOK c.ntmps g w a σ->Und a und->(l.map Prod.fst).Nodup->FreshL g σ base l->
  (∀ σ' g' a' w',k σ'=some r->StOK c.ntmps g' w' a' σ'->Ext w g w' g'->(∀ m,Out base l m->Fresh g σ m->Fresh g' σ' m)->σ'.next=σ.next->K a' w')->
  wpL q P ops Q K l a w
 | _,0,_,_,_,_,_,_,_,_,_,_,_,h,_,_,_,_,_=>by simp [zgz] at h
 | q,n+1,R,opened,und,[],σ,g,a,w,k,r,K,h,hst,_,_,_,hK=>by
  simp only [zgz] at h
  exact hK σ g a w h hst (Ext.refl _ _) (fun m _ hf=>hf) rfl
 | q,n+1,R,opened,und,(i,o) :: l,σ,g,a,w,k,r,K,h,hst,hun,hnd,hfr,hK=>by
  simp only [List.map_cons,List.nodup_cons] at hnd;have one:opM q c σ (base+8*i) o (fun σ=>zgz c base dst q n R opened (zdf o.dst und) l σ k)=some r->Region.wanted o (yielded ops a.tmps)=true->wpL q P ops Q K ((i,o) :: l) a w:=by
   intro h hw;have hpost:∀ σ1 g1 a1 w1,zgz c base dst q n R opened (zdf o.dst und) l σ1 k=some r->StOK c.ntmps g1 w1 a1 σ1->Ext w g w1 g1->
     (∀ m,(m < base+8*i∨base+8*i+8≤m)->Fresh g σ m->Fresh g1 σ1 m)->σ1.next=σ.next->(∀ s,o.dst≠some s->a1.tmps[s]? = a.tmps[s]?)->wpL q P ops Q K l a1 w1:=by
    intro σ1 g1 a1 w1 h1 hst1 hext1 hf1 hn1 hfrm;refine zbx hc hdst q n h1 hst1 (hun.keep hfrm) hnd.2 (fun x hx m h1 h2=>hf1 m ?_ (hfr x (by simp [hx]) m h1 h2)) (fun σ2 g2 a2 w2 h2 hst2 hext2 hf2 hn2=>?_)
    ·have hne:x.1≠i:=fun he=>hnd.1 (by rw [←he];exact List.mem_map.2 ⟨x,hx,rfl⟩)
     omega
    ·exact hK σ2 g2 a2 w2 h2 hst2 (hext1.trans hext2) (fun m hm hf=>hf2 m (fun x hx=>hm x (by simp [hx])) (hf1 m (hm (i,o) (by simp)) hf)) (hn2.trans hn1)
   show z1y q P ops Q o (wpL q P ops Q K l) a w;refine z1y.mono (fun a1 w1 hh=>hh.2 hh.1.2) (z1y.frame (K:=fun a1 w1=>(∀ s,o.dst≠some s->a1.tmps[s]? = a.tmps[s]?)->wpL q P ops Q K l a1 w1) ?_);unfold z1y;rw [if_pos hw]
   cases hy:isY o with
   | true=>
    left;obtain ⟨av,v,h1,h2,h3,h4⟩:=(zih hc hy hst (by rw [←opM_Y hy];exact h)).out;refine ⟨rfl,v,h1,fun hfrm=>?_⟩;rcases z5r h4 with ⟨hd,hk⟩ | ⟨d,hd,hlt,hk⟩
    ·rw [hd] at hfrm ⊢;exact hpost σ g a w hk hst (Ext.refl _ _) (fun _ _ hm=>hm) rfl (by rw [hd];exact hfrm)
    ·rw [hd] at hfrm ⊢;exact hpost _ g _ w hk (hst.put hlt h2) (Ext.refl _ _) (fun m _ hm=>hm.set d (h3 m hm)) rfl (by rw [hd];exact hfrm)
   | false=>
    right;refine ⟨rfl,zyv (base:=base+8*i) hc hst (fun m h1 h2=>hfr (i,o) (by simp) m h1 h2) h ?_⟩;intro σ1 g1 a1 w1 h1 hst1 hext1 hf1 hn1 hag;exact ⟨fun h1=>hag h1,fun hfrm=>hpost σ1 g1 a1 w1 h1 hst1 hext1 hf1 hn1 hfrm⟩
  have skip:zgz c base dst q n R opened (zyj o.dst und) l (σ.unset o.dst) k=some r->Region.wanted o (yielded ops a.tmps)=false->wpL q P ops Q K ((i,o) :: l) a w:=by
   intro h hw;show z1y q P ops Q o (wpL q P ops Q K l) a w;unfold z1y;rw [hw];simp only [Bool.false_eq_true,if_false];refine zbx hc hdst q n h (hst.putU o.dst undef) hun.skip hnd.2 (fun x hx m h1 h2=>(hfr x (by simp [hx]) m h1 h2).unset o.dst) (fun σ2 g2 a2 w2 h2 hst2 hext2 hf2 hn2=>?_);refine hK σ2 g2 a2 w2 h2 hst2 hext2 (fun m hm hf=>hf2 m (fun x hx=>hm x (by simp [hx])) (hf.unset o.dst)) (hn2.trans ?_);cases o.dst <;> rfl
  simp only [zgz] at h;split at h
  ·rename_i hg;exact one h (z79 hg)
  ·rename_i j want hg;split at h
   ·simp at h
   ·rename_i t hdt;rw [hdst] at hdt;split at h
    ·rename_i b hb;have hw:=zcs (o:=o) (a:=a) hg hdt (zn1 hst hb)
     cases hm:z2e j opened with
     | true=>
      rw [hm] at h;simp only [cond_true] at h
      cases hbw:(b == want) with
      | true=>
       rw [hbw] at h hw
       exact one h hw
      | false=>
       rw [hbw] at h hw
       exact skip h hw
     | false=>
      rw [hm] at h;simp only [cond_false] at h;split at h
      ·rename_i grp d rest hsp;have hl:=zgh hsp;rw [List.nil_append] at hl
       cases hmt:(q && zl6 c σ grp) with
       | true=>
        rw [hmt] at h;simp only [cond_true] at h;have h':zgz c base dst q n R (j :: opened) und ((i,o) :: l) (σ.set t (.data .bool b)) k=some r:=by
         cases b <;> exact h
        exact zbx hc hdst q n h' (zib hst hb) hun (by simp only [List.map_cons,List.nodup_cons];exact hnd) (fun x hx m h1 h2=>(hfr x hx m h1 h2).set t (by simp [AVal.ids])) (fun σ2 g2 a2 w2 h2 hst2 hext2 hf2 hn2=>hK σ2 g2 a2 w2 h2 hst2 hext2 (fun m hm hf=>hf2 m hm (hf.set t (by simp [AVal.ids]))) hn2)
       | false=>
       rw [hmt] at h;simp only [cond_false] at h
       cases hno:noM grp with
       | false=>rw [hno] at h;simp at h
       | true=>
        rw [hno] at h;simp only [cond_true,Option.bind_eq_some_iff] at h;obtain ⟨v,hv,h⟩:=h;have hv':zgz c base dst false n Bool (j :: opened) und grp (σ.set t (.data .bool b)) (fun σ=>zma σ d)=some v:=by
         cases b <;> exact hv
        cases hlt:Nat.blt d c.ntmps with
        | false=>rw [hlt] at h;simp at h
        | true=>
         rw [hlt] at h;simp only [cond_true] at h;rw [hl,zgb];have hnd2:(grp.map Prod.fst).Nodup∧(rest.map Prod.fst).Nodup∧∀ x∈grp.map Prod.fst,x∉rest.map Prod.fst:=by
          have:(((i,o) :: l).map Prod.fst).Nodup:=by simp only [List.map_cons,List.nodup_cons];exact hnd
          rw [hl,List.map_append,List.nodup_append] at this;exact ⟨this.1,this.2.1,fun x hx hy=>this.2.2 x hx x hy rfl⟩
         have hmem:∀ x,x∈grp∨x∈rest->x∈(i,o) :: l:=by
          intro x hx;rw [hl];exact List.mem_append.2 hx
         have hst0:=zib hst hb;have hgrp:=zbx (K:=fun a' w'=>a'.tmps[d]? = some (.bool v)∧a'.defers=[]∧a'.tmps.size=c.ntmps∧w'.os=w.os∧w'.tape=w.tape∧w'.output=w.output∧w.drawn≤w'.drawn) hc hdst false n hv' hst0 hun hnd2.1
          (fun x hx m h1 h2=>(hfr x (hmem x (.inl hx)) m h1 h2).set t (by simp [AVal.ids]))
          (fun σ' g' a' w' h' hst' hext' _ _=>⟨zn1 hst' (zoh h'),hst'.defers,hst'.size,hext'.os,hext'.tape,hext'.output,hext'.drawn⟩)
         refine zi7 (fun a1 w1 hh=>?_) grp a w (zot grp a w (zjy grp hno a w hgrp));obtain ⟨⟨hag,hsl⟩,h1,h2,h3,h4,h5,h6,h7⟩:=hh;have hobjs:=zak grp σ;have hstU:StOK c.ntmps g w a (z3x grp σ):=by
          refine ⟨fun i av hi=>?_,?_,hst.size,hst.defers,hst.known⟩
          ·rw [hobjs.1];exact hst.slots i av (z4v hi).1
          ·rw [hobjs.1];exact hst.heap
         have hst1:StOK c.ntmps g w1 a1 (z3x grp σ):=zty hstU hag h2 h3 (fun i av hi=>hsl i (z4v hi).2);have hst2:StOK c.ntmps g w1 a1 ((z3x grp σ).set d (.data .bool v)):=by
          refine ⟨fun i x hi=>?_,hst1.heap,hst1.size,hst1.defers,hst1.known⟩;simp only [St.set,upd] at hi
          cases hbq:Nat.beq i d with
          | true=>
           rw [hbq] at hi;simp only [cond_true,zI] at hi;subst hi;have:=zE hbq;subst this
           exact ⟨_,h1,z3n v⟩
          | false=>rw [hbq] at hi;exact hst1.slots i x hi
         have hfrU:∀ m,Fresh g σ m->Fresh g ((z3x grp σ).set d (.data .bool v)) m:=by
          intro m hf;have:Fresh g (z3x grp σ) m:=⟨by rw [hobjs.1];exact hf.objs,hf.row,hf.box,fun i av hi=>hf.slots i av (z4v hi).1,fun id av hi=>hf.cells id av (by rw [←hobjs.1];exact hi)⟩;exact this.set d (by simp [AVal.ids])
         have hext1:Ext w g w1 g:=⟨h4,h5,h6,h7,hag.size,fun b hb _=>⟨hag b hb,rfl⟩⟩;refine zbx hc hdst q n h hst2 (fun s hs b=>by
          obtain ⟨q1,q2⟩:=zd3 hs;rw [hsl s q2];exact hun s q1 b) hnd2.2.1 (fun x hx m q1 q2=>hfrU m (hfr x (hmem x (.inr hx)) m q1 q2)) (fun σ2 g2 a2 w2 q2 hst2 hext2 hf2 hn2=>?_)
         refine hK σ2 g2 a2 w2 q2 hst2 (hext1.trans hext2) (fun m hm hf=>hf2 m (fun x hx=>hm x (hmem x (.inr hx))) (hfrU m hf)) (hn2.trans hobjs.2)
      ·simp at h
    ·cases hmu:z2e t und with
     | false=>rw [hmu] at h;simp at h
     | true=>
      rw [hmu] at h;simp only [cond_true] at h;exact skip h (zgd hg hdt (hun t (zex.1 hmu)))
    ·simp at h
end
end Go.Kz
namespace Go.Kz
variable {R:Type}
theorem z64 {α:Type}:(l:List α)->(i:Nat)->(z0j i l).map Prod.fst=List.range' i l.length
 | [],_=>rfl
 | x :: l,i=>by simp only [z0j,List.map_cons,z64 l,List.length_cons,List.range'_succ]
theorem z8f {α:Type}:{l:List α}->{i:Nat}->{x:Nat×α}->x∈z0j i l->i≤x.1∧l[x.1-i]? = some x.2
 | [],_,_,h=>by simp [z0j] at h
 | y :: l,i,x,h=>by
  simp only [z0j,List.mem_cons] at h;rcases h with rfl | h
  ·simp
  ·obtain ⟨h1,h2⟩:=z8f h;refine ⟨by omega,?_⟩;have e:x.1-i=(x.1-(i+1))+1:=by omega
   rw [e];simpa using h2
theorem zg5 {α:Type} (l:List α) (i:Nat):((z0j i l).map Prod.fst).Nodup:=by
 rw [z64];exact List.nodup_range'
theorem zpc {α:Type}:(l:List α)->(i:Nat)->z0y l i=l[i]?
 | [],i=>by cases i <;> rfl
 | x :: l,0=>rfl
 | x :: l,i+1=>by simp only [z0y,zpc l i];simp
section
variable {P:Program} {ops:Array Oper} {Q:Exit->Act->World->Prop} {q:Bool}
theorem zjk (j:Nat):z8p ops.toList j=(ops[j]?).bind (·.dst):=by
 simp only [z8p,zpc,Array.getElem?_toList]
theorem ze1 {o:Oper} {a:Act} {w:World} {v:Value} {K:Act->World->Prop} (h:(execOp a.eval o).run P w = .ok (.value v) w) (hk:K (a.put o.dst v) w):o.wp P a w K Q:=by
 unfold Oper.wp;rw [h,Oper.upon_value];exact hk
theorem zs8:(L:List (Nat×Oper))->(∀ x∈L,ops[x.1]? = some x.2)->(a:Act)->(w:World)->wpL q P ops Q (Q .normal) L a w->wpOps P ops Q (L.map Prod.fst) a w
 | [],_,a,w,h=>h
 | (i,o) :: L,hL,a,w,h=>by
  have ih:=zs8 L (fun x hx=>hL x (by simp [hx]));have ho:ops[i]? = some o:=hL (i,o) (by simp);simp only [List.map_cons,wpOps,ho];have h':z1y q P ops Q o (wpL q P ops Q (Q .normal) L) a w:=h;unfold z1y at h';split
  ·rename_i hw;rw [if_pos hw] at h';left;rcases h' with ⟨_,v,h1,h2⟩ | ⟨_,h1⟩
   ·exact ze1 (h1 w (AgP.refl _ w)) (ih _ _ h2)
   ·exact Oper.wp_mono (fun a' w' hh=>ih _ _ hh.2) h1
  ·rename_i hw;rw [if_neg hw] at h';exact ih _ _ h'
theorem z3f (x:Nat×Oper) (h:x∈z0j 0 ops.toList):ops[x.1]? = some x.2:=by
 have:=(z8f h).2;rw [←Array.getElem?_toList];simpa using this
theorem z9z {x:Nat×Oper} (h:x∈z0j 0 ops.toList):x.1 < ops.toList.length:=by
 have:=(z8f h).2;rw [Nat.sub_zero] at this;exact (List.getElem?_eq_some_iff.1 this).1
theorem wp_text {id:Nat} {a:Act} {w:World} (h:wpL q P ops Q (Q .normal) (z0j 0 ops.toList) a w):(Code.region id ops false).wp P Q a w:=by
 refine wp_region ?_;have:=zs8 _ z3f a w h;rw [z64,←List.range_eq_range'] at this;simpa using this
end
section
variable {P:Program} {ops:Array Oper} {c:Ctx}
theorem ztq {q:Bool} {fuel:Nat} {L:List (Nat×Oper)} (hc:CtxOK P c) {Q:Exit->Act->World->Prop} {σ:St} {g:Ghost} {a:Act} {w:World} {k:St->Option R} {r:R} {K:Act->World->Prop}
  (hL:∀ x∈L,x.1 < ops.toList.length) (hnd:(L.map Prod.fst).Nodup)
  (h:zgz c σ.next (z8p ops.toList) q fuel R [] [] L σ (fun σ'=>k { σ' with next:=σ.next+8*ops.toList.length })=some r) (hst:StOK c.ntmps g w a σ) (hf:z13 g σ)
  (hK:∀ σ' g' a' w',k σ'=some r->StOK c.ntmps g' w' a' σ'->Ext w g w' g'->z13 g' σ'->K a' w'):wpL q P ops Q K L a w:=by
 refine zbx hc zjk q fuel h hst (by intro s hs;simp at hs) hnd (fun x _ m h1 _=>hf m (by omega)) (fun σ' g' a' w' hk hst' hext hf' hn=>?_);refine hK _ g' a' w' hk ⟨hst'.slots,hst'.heap,hst'.size,hst'.defers,hst'.known⟩ hext (fun m hm=>?_);have hm':σ.next+8*ops.toList.length≤m:=hm;have:=hf' m (fun x hx=>.inr (by have:=hL x hx;omega)) (hf m (by omega));exact ⟨this.objs,this.row,this.box,this.slots,this.cells⟩
end
end Go.Kz
namespace Go.Kz
section
variable {P:Program} {ops:Array Oper} {Q:Exit->Act->World->Prop} {md:Region.Mode} {w0:World} {q:Bool}
def zvf (q:Bool) (P:Program) (md:Region.Mode) (ops:Array Oper) (Q:Exit->Act->World->Prop):Nat->Array Bool->Act->World->Prop
 | 0,listed,a,w=>Region.ready md ops listed=[]∧Q .normal a w
 | fuel+1,listed,a,w=>
  (Region.ready md ops listed=[]->Q .normal a w)∧
  ∀ i∈Region.ready md ops listed,wpOp P ops Q i (fun a' w'=>((∀ o,ops[i]? = some o->zjt q o=false->z3v w w'))∧zvf q P md ops Q fuel (listed.setIfInBounds i true) a' w') a w
theorem zbm:∀ (fuel:Nat) (listed:Array Bool) (a:Act) (w:World),zvf q P md ops Q fuel listed a w->wpAny P md ops Q fuel listed a w
 | 0,_,_,_,h=>h
 | fuel+1,_,_,_,h=>⟨h.1,fun i hi=>wpOp_mono (fun a' w' h'=>zbm fuel _ a' w' h'.2) (h.2 i hi)⟩
def zxw (ops:Array Oper) (a0:Act) (Q:Exit->Act->World->Prop):Exit->Act->World->Prop:=
 fun e a w=>(e = .normal->∀ s,(∀ o∈ops.toList,o.dst≠some s)->a.tmps[s]? = a0.tmps[s]?)->Q e a w
theorem Oper.wp_Q {o:Oper} {a:Act} {w:World} {K:Act->World->Prop} {Q1 Q2:Exit->Act->World->Prop} (h1:∀ c a w,Q1 (.panic c) a w->Q2 (.panic c) a w) (h2:∀ a w,Q1 .outgrown a w->Q2 .outgrown a w)
  (hh:o.wp P a w K Q1):o.wp P a w K Q2:=by
 unfold Oper.wp at *;generalize (execOp a.eval o).run P w=r at *
 cases r with
 | ok n w'=>
  cases n <;> simp only [Oper.upon] at hh ⊢ <;>
   first
    | exact hh
    | exact Calls.mono hh (fun e w'' he=>by
      cases e with
      | returned v=>exact he
      | panicked c=>exact h1 _ _ _ he
      | outgrown=>exact he.imp fun a h=>h.imp fun w h=>h2 a w h)
 | halt x w'=>cases x <;> simp only [Oper.upon] at hh ⊢ <;> first | exact hh | exact h1 _ _ _ hh
theorem z6n {a0:Act}:(fuel:Nat)->(listed:Array Bool)->(a:Act)->(w:World)->(∀ s,(∀ o∈ops.toList,o.dst≠some s)->a.tmps[s]? = a0.tmps[s]?)->
  wpAny P md ops (zxw ops a0 Q) fuel listed a w->wpAny P md ops Q fuel listed a w
 | 0,listed,a,w,hk,h=>⟨h.1,h.2 fun _=>hk⟩
 | fuel+1,listed,a,w,hk,h=>by
  refine ⟨fun hr=>h.1 hr fun _=>hk,fun i hi=>?_⟩;have hh:=h.2 i hi;unfold wpOp at *;split
  ·rename_i ho;simp only [ho] at hh;exact z6n fuel _ a w hk hh
  ·rename_i o ho;simp only [ho] at hh;have hmem:o∈ops.toList:=by
    obtain ⟨hlt,rfl⟩:=Array.getElem?_eq_some_iff.1 ho;simp
   split
   ·rename_i hw;simp only [hw,if_true] at hh;rcases hh with hh | ⟨hh,a1,w1,h1⟩
    ·left;refine Oper.wp_Q (Q1:=zxw ops a0 Q) (fun c a w h=>h (by simp)) (fun a w h=>h (by simp)) ?_;refine Oper.wp_mono (fun a' w' hh=>?_) (Oper.wp_put hh);exact z6n fuel _ a' w' (fun s hs=>(hh.1 s (hs o hmem)).trans (hk s hs)) hh.2
    ·exact .inr ⟨hh,a1,w1,h1 (by simp)⟩
   ·rename_i hw;simp only [hw] at hh;refine z6n fuel _ _ w (fun s hs=>?_) hh;rw [zbv,if_neg (fun h=>hs o hmem h.1)];exact hk s hs
def Waits (md:Region.Mode) (ops:Array Oper) (i:Nat) (Lt:List Nat):Prop:=
 ∀ x∈Lt,∀ ox,ops[x]? = some ox->∃ e∈ox.after,Region.binds md e=true∧(e.on=i∨e.on∈Lt)
theorem zs9 {i:Nat} {Lt:List Nat} {listed:Array Bool} (hw:Waits md ops i Lt) (hl:∀ x∈Lt,listed.getD x true=false) (hi:listed.getD i true=false) {j:Nat} (hj:j∈Region.ready md ops listed):j∉Lt:=by
 intro hjl;obtain ⟨_,oj,hoj,hall⟩:=mem_ready.1 hj;obtain ⟨e,he,hb,hon⟩:=hw j hjl oj hoj;have h1:=hall e he hb;have h0:listed.getD e.on true=false:=by
  rcases hon with h | h
  ·rw [h];exact hi
  ·exact hl _ h
 rcases Nat.lt_or_ge e.on listed.size with h' | h'
 ·simp [h'] at h0 h1;rw [h0] at h1;cases h1
 ·simp [Array.getElem?_eq_none h'] at h1
theorem zi2 {i:Nat} {oi:Oper} {v:Value} {Lt:List Nat} (hi:ops[i]? = some oi) (hsel:∀ (j:Nat) (o:Oper) cs b,ops[j]? = some o->o.op≠.select cs b)
  (hQ:∀ c a w,¬ Q (.panic c) a w) (hwt:Waits md ops i Lt) :
  ∀ (fuel:Nat) (listed:Array Bool) (a:Act) (w:World),
   (∀ j oj,ops[j]? = some oj->j≠i->listed.getD j true=false->(∀ e∈oj.after,Region.binds md e=true->e.on≠i)->oi.apart ops oj=true)->
   (∀ x∈Lt,listed.getD x true=false)->(∀ j oj,ops[j]? = some oj->j≠i->listed.getD j true=false->zjt q oj=true->j∈Lt∨isP oi=true)->
   i∈Region.ready md ops listed->YieldsIf P ops (AgP oi w0) oi v a->AgP oi w0 w->
   zvf q P md ops Q fuel (listed.setIfInBounds i true) (a.put oi.dst v) w->zvf q P md ops Q (fuel+1) listed a w:=by
 intro fuel
 induction fuel with
 | zero=>
  intro listed a w _ _ _ hr hy hS H;refine ⟨fun h=>(by rw [h] at hr;cases hr),fun j hj=>?_⟩;by_cases hji:j=i
  ·subst hji;exact hy.wpOp hi hS ⟨fun _ _ _=>z3v.refl w,H⟩
  ·have:=ready_mono hj hji;rw [H.1] at this
   cases this
 | succ fuel ih=>
  intro listed a w hfree hlt hM hr hy hS H;refine ⟨fun h=>(by rw [h] at hr;cases hr),fun j hj=>?_⟩;by_cases hji:j=i
  ·subst hji;exact hy.wpOp hi hS ⟨fun _ _ _=>z3v.refl w,H⟩
  ·have h1:=H.2 j (ready_mono hj hji);have hi0:=(mem_ready.1 hr).1;have hjl:=zs9 hwt hlt hi0 hj;obtain ⟨hjun,oj,hoj,hall⟩:=mem_ready.1 hj;have hnM:isP oi=false->zjt q oj=false:=by
    intro hP
    cases hm:zjt q oj with
    | false=>rfl
    | true=>
     rcases hM j oj hoj hji hjun hm with h | h
     ·exact absurd h hjl
     ·rw [hP] at h;simp at h
   have hnot:∀ e∈oj.after,Region.binds md e=true->e.on≠i:=fun e he hb heq=>by
    have h1:=hall e he hb;have h0:=hi0;rw [heq] at h1;rcases Nat.lt_or_ge i listed.size with h' | h'
    ·simp [h'] at h0 h1;rw [h0] at h1;cases h1
    ·simp [Array.getElem?_eq_none h'] at h1
   have h2:=wpOp_putIf hoj (hfree j oj hoj hji hjun hnot) (fun cs b=>hsel i oi cs b hi) (fun cs b=>hsel j oj cs b hoj) (fun c a w h=>absurd h (hQ _ _ _)) hy h1;have hsub:∀ k,(listed.setIfInBounds j true).getD k true=false->listed.getD k true=false:=fun k hun=>by
    by_cases hjk:j=k
    ·subst hjk;exact hjun
    ·rw [getD_set_ne true hjk] at hun;exact hun
   refine wpOp_mono (fun a' w' h3=>⟨h3.2.1,ih (listed.setIfInBounds j true) a' w' (fun k ok hk hki hun hno=>hfree k ok hk hki (hsub k hun) hno) (fun x hx=>?_) (fun k ok hk hki hun hm=>hM k ok hk hki (hsub k hun) hm)
    (ready_mono hr (Ne.symm hji)) h3.1 (fun hP=>(hS hP).trans (h3.2.1 oj hoj (hnM hP))) ?_⟩) h2
   ·have hne:j≠x:=fun he=>hjl (he ▸ hx)
    rw [getD_set_ne true hne];exact hlt x hx
   ·rw [Array.setIfInBounds_comm _ _ hji];exact h3.2.2
end
end Go.Kz
namespace Go.Kz
variable {R:Type}
theorem zmm {d:List Nat}:{l:List Nat}->(zvg l d=true↔∀ x∈l,x∈d)
 | []=>by simp [zvg]
 | y :: l=>by simp [zvg,z2d,zmm (l:=l)]
theorem zmj {d:List Nat}:{l:List Nat}->(zoj l d=true↔∃ x∈l,x∈d)
 | []=>by simp [zoj]
 | y :: l=>by simp [zoj,z2d,zmj (l:=l)]
theorem zc2 {d:List Nat}:{l:List Nat}->(zkv l d=true↔∀ x∈l,x∉d)
 | []=>by simp [zkv]
 | y :: l=>by
  have:=z2d (x:=y) (l:=d);simp only [zkv,zA,zc2 (l:=l),List.mem_cons,forall_eq_or_imp];constructor
  ·rintro ⟨h1,h2⟩;refine ⟨fun h=>?_,h2⟩;rw [this.2 h] at h1;simp at h1
  ·rintro ⟨h1,h2⟩;refine ⟨?_,h2⟩
   cases hm:z2e y d with
   | true=>exact absurd (this.1 hm) h1
   | false=>rfl
theorem z3l {x:Nat}:{l:List Edge}->(x∈z3s l↔∃ e∈l,Region.binds .any e=true∧e.on=x)
 | []=>by simp [z3s]
 | e :: l=>by
  simp only [z3s]
  cases hb:Region.binds .any e with
  | true=>
   simp only [cond_true,List.mem_cons,z3l (l:=l),exists_eq_or_imp,hb,true_and]
   exact or_congr ⟨Eq.symm,Eq.symm⟩ Iff.rfl
  | false=>
   simp only [cond_false,List.mem_cons,z3l (l:=l),exists_eq_or_imp,hb];simp
theorem zk2 {t:Nat}:{l:List Operand}->(t∈zqy l↔.tmp t∈l)
 | []=>by simp [zqy]
 | x :: l=>by cases x <;> simp [zqy,zk2 (l:=l)]
section
variable {P:Program} {ops:Array Oper} {Q:Exit->Act->World->Prop}
theorem ztn {o:Oper} {t:Nat} (h:t∈o.looksAt ops):zl0 (z8p ops.toList) o t=true:=by
 simp only [Oper.looksAt,List.mem_append,List.mem_filterMap] at h;simp only [zl0,Bool.or_eq_true,z2d,zk2];rcases h with ⟨x,hx,h⟩ | h
 ·left;cases x <;> simp at h;subst h;exact hx
 ·right;unfold zz3
  cases hg:o.guard with
  | none=>rw [hg] at h;simp at h
  | some gw=>
   obtain ⟨j,want⟩:=gw;rw [hg] at h;simp only at h;have e:=zjk (ops:=ops) j
   cases hd:(ops[j]?).bind (·.dst) with
   | none=>rw [hd] at h;simp at h
   | some d=>
    rw [hd] at h e;simp only [e];simpa using h
theorem zmh {x y:Oper} (h:zmi (z8p ops.toList) x y=true):x.apart ops y=true:=by
 unfold zmi at h;simp only [zA] at h;unfold Oper.apart;simp only [zA];have hno:∀ (o:Oper) (d:Nat),(!zl0 (z8p ops.toList) o d)=true->(!(o.looksAt ops).contains d)=true:=by
  intro o d hd
  cases hc:(o.looksAt ops).contains d with
  | false=>rfl
  | true=>
   have:=ztn (ops:=ops) (List.contains_iff_mem.1 hc);rw [this] at hd;simp at hd
 constructor
 ·have h1:=h.1
  cases hx:x.dst with
  | none=>rfl
  | some d=>
   rw [hx] at h1;simp only [zA] at h1 ⊢;refine ⟨hno y d h1.1,?_⟩;have h2:=h1.2
   cases hy:y.dst with
   | none=>simp
   | some e=>
    rw [hy] at h2;simp only [bne_iff_ne,ne_eq,zI];intro he;subst he;simp [Nat.beq_refl] at h2
 ·have h2:=h.2
  cases hy:y.dst with
  | none=>rfl
  | some d=>rw [hy] at h2;exact hno x d h2
structure Rel (ops:Array Oper) (listed:Array Bool) (done:List Nat):Prop where
 size:listed.size=ops.size
 get:∀ j,j < ops.size->listed[j]? = some (z2e j done)
theorem Rel.getD {listed:Array Bool} {done:List Nat} (h:Rel ops listed done) {j:Nat} (hj:j < ops.size) (d:Bool):listed.getD j d=z2e j done:=by
 simp [Array.getD_eq_getD_getElem?,h.get j hj]
theorem Rel.start:Rel ops (Array.replicate ops.size false) []:=⟨by simp,fun j hj=>by simp [hj,z2e]⟩
theorem Rel.add {listed:Array Bool} {done:List Nat} (h:Rel ops listed done) {i:Nat}:Rel ops (listed.setIfInBounds i true) (i :: done):=by
 refine ⟨by simp [h.size],fun j hj=>?_⟩;rw [Array.getElem?_setIfInBounds];have hlt:j < listed.size:=by rw [h.size];exact hj
 by_cases hij:i=j
 ·subst hij;simp [hlt,z2e,Nat.beq_refl]
 ·rw [if_neg hij,h.get j hj];have:Nat.beq i j=false:=by
   cases hb:Nat.beq i j with
   | true=>exact absurd (zE hb) hij
   | false=>rfl
  simp [z2e,this]
structure Plain' (ops:Array Oper):Prop where
 sel:∀ (j:Nat) (o:Oper) cs b,ops[j]? = some o->o.op≠.select cs b
theorem z29 {j:Nat} {o:Oper} (h:ops[j]? = some o):(j,o)∈z0j 0 ops.toList:=by
 have key:∀ (l:List Oper) (i j:Nat),l[j]? = some o->(i+j,o)∈z0j i l:=by
  intro l
  induction l with
  | nil=>intro i j h;simp at h
  | cons x l ih=>
   intro i j h
   cases j with
   | zero=>simp only [List.getElem?_cons_zero,zI] at h;subst h;simp [z0j]
   | succ j=>
    have:=ih (i+1) j (by simpa using h);simp only [z0j,List.mem_cons];right;have e:i+(j+1)=i+1+j:=by omega
    rw [e];exact this
 have:=key ops.toList 0 j (by rw [Array.getElem?_toList];exact h);simpa using this
theorem z7b {j:Nat} {o:Oper} (h:ops[j]? = some o):j < ops.size:=(Array.getElem?_eq_some_iff.1 h).1
theorem zkl:(l:List (Nat×Oper))->zgu l=true->∀ x∈l,∀ cs b,x.2.op≠.select cs b
 | [],_,_,hx=>by simp at hx
 | (i,o) :: l,h,x,hx=>by
  simp only [zgu,zA] at h;rcases List.mem_cons.1 hx with rfl | hx
  ·intro cs b hs;have:=h.1;rw [hs] at this;simp at this
  ·exact zkl l h.2 x hx
theorem zp5 (h:zgu (z0j 0 ops.toList)=true):Plain' ops:=
 ⟨fun j o cs b ho=>zkl _ h _ (z29 ho) cs b⟩
theorem zsy {listed:Array Bool} {done:List Nat} (hr:Rel ops listed done) {j:Nat} {o:Oper} (ho:ops[j]? = some o) :
  j∈Region.ready .any ops listed↔j∉done∧∀ e∈o.after,Region.binds .any e=true->e.on∈done∧e.on < ops.size:=by
 rw [mem_ready];have hj:=z7b ho;rw [hr.getD hj];have hb:∀ x,z2e x done=false↔x∉done:=fun x=>by
  rw [←z2d];simp
 rw [hb];refine and_congr Iff.rfl ⟨?_,?_⟩
 ·rintro ⟨o',ho',hall⟩ e he hbe;rw [ho] at ho';simp only [zI] at ho';subst ho';have:=hall e he hbe;by_cases hlt:e.on < ops.size
  ·rw [hr.getD hlt,z2d] at this;exact ⟨this,hlt⟩
  ·have hn:listed[e.on]? = none:=by rw [Array.getElem?_eq_none_iff,hr.size];omega
   simp [Array.getD_eq_getD_getElem?,hn] at this
 ·intro hall;refine ⟨o,ho,fun e he hbe=>?_⟩;obtain ⟨h1,h2⟩:=hall e he hbe;rw [hr.getD h2,z2d];exact h1
theorem zh9 {i x:Nat}:{l:List (Nat×Oper)}->{acc:List Nat}->x∈acc->x∈z67 i l acc
 | [],_,h=>h
 | (j,o) :: l,acc,h=>by
  simp only [z67];refine zh9 (l:=l) ?_
  cases (z2e i (z3s o.after.toList) || zoj (z3s o.after.toList) acc) with
  | true=>simp [h]
  | false=>exact h
theorem zc6 {i:Nat}:{l:List (Nat×Oper)}->{acc:List Nat}->{G:Nat->Prop}->
  (∀ x∈acc,G x)->(∀ j o,(j,o)∈l->(∃ y∈z3s o.after.toList,y=i∨y∈z67 i l acc)->G j)->∀ x∈z67 i l acc,G x
 | [],_,_,h,_,x,hx=>h x hx
 | (j,o) :: l,acc,G,h,hG,x,hx=>by
  simp only [z67] at hx hG;refine zc6 (l:=l) ?_ (fun j' o' hm hy=>hG j' o' (by simp [hm]) hy) x hx;intro y hy
  cases hc:(z2e i (z3s o.after.toList) || zoj (z3s o.after.toList) acc) with
  | false=>rw [hc] at hy;exact h y hy
  | true=>
   rw [hc] at hy hG;simp only [cond_true,List.mem_cons] at hy hG;rcases hy with rfl | hy
   ·refine hG y o (by simp) ?_;simp only [Bool.or_eq_true,z2d,zmj] at hc;rcases hc with hc | ⟨z,hz,hza⟩
    ·exact ⟨i,hc,.inl rfl⟩
    ·exact ⟨z,hz,.inr (zh9 (by simp [hza]))⟩
   ·exact h y hy
theorem zba {q:Bool} {dst:Nat->Option Nat} {done later:List Nat} {i:Nat} {o:Oper}:{l:List (Nat×Oper)}->zy3 q dst done later i o l=true->∀ x∈l,
  x.1=i∨x.1∈done∨((i∈z3s x.2.after.toList∨zmi dst o x.2=true)∧(isP o=true∨zjt q x.2=false∨x.1∈later))
 | [],_,x,hx=>by simp at hx
 | (j,oj) :: l,h,x,hx=>by
  simp only [zy3,zA] at h;rcases List.mem_cons.1 hx with rfl | hx
  ·have h1:=h.1;simp only [Bool.or_eq_true,zA,z2d,Bool.not_eq_true'] at h1;rcases h1 with (h1 | h1) | h1
   ·exact .inl (zE h1)
   ·exact .inr (.inl h1)
   ·exact .inr (.inr ⟨h1.1,or_assoc.1 h1.2⟩)
  ·exact zba h.2 x hx
theorem zbi {done:List Nat} {i:Nat}:{l:List (Nat×Oper)}->zml done i l=true->∀ x∈l,x.1=i∨x.1∈done∨zcy done x.2=false
 | [],_,x,hx=>by simp at hx
 | (j,oj) :: l,h,x,hx=>by
  simp only [zml,zA] at h;rcases List.mem_cons.1 hx with rfl | hx
  ·have h1:=h.1;simp only [Bool.or_eq_true,z2d,Bool.not_eq_true'] at h1;rcases h1 with (h1 | h1) | h1
   ·exact .inl (zE h1)
   ·exact .inr (.inl h1)
   ·exact .inr (.inr h1)
  ·exact zbi h.2 x hx
theorem z47 {listed:Array Bool} {done:List Nat} (hr:Rel ops listed done) (hd:∀ x∈done,x < ops.size) {j:Nat} {o:Oper} (ho:ops[j]? = some o) :
  j∈Region.ready .any ops listed↔j∉done∧zcy done o=true:=by
 rw [zsy hr ho];refine and_congr Iff.rfl ?_;unfold zcy;rw [zmm];constructor
 ·intro h x hx;obtain ⟨e,he,hbe,rfl⟩:=z3l.1 hx;exact (h e (by simpa using he) hbe).1
 ·intro h e he hbe;have:=h e.on (z3l.2 ⟨e,by simpa using he,hbe,rfl⟩);exact ⟨this,hd _ this⟩
theorem z1y.wpOp {q:Bool} {i:Nat} {o:Oper} {K:Act->World->Prop} {a:Act} {w:World} (hi:ops[i]? = some o) (h:z1y q P ops Q o K a w) :
  wpOp P ops Q i (fun a' w'=>(∀ o,ops[i]? = some o->zjt q o=false->z3v w w')∧K a' w') a w:=by
 unfold z1y at h;unfold Go.wpOp;simp only [hi,zI];split
 ·rename_i hw;rw [if_pos hw] at h;left;rcases h with ⟨_,v,h1,h2⟩ | ⟨_,h1⟩
  ·exact ze1 (h1 w (AgP.refl _ w)) ⟨fun _ _ _=>z3v.refl w,h2⟩
  ·exact Oper.wp_mono (fun a' w' hh=>⟨fun o' ho' hm=>hh.1 (by rw [ho'];exact hm),hh.2⟩) h1
 ·rename_i hw;rw [if_neg hw] at h;exact ⟨fun _ _ _=>z3v.refl w,h⟩
theorem step_ok {q:Bool} (hp:Plain' ops) (hQ:∀ c a w,¬ Q (.panic c) a w) {i:Nat} {o:Oper} {listed:Array Bool} {done:List Nat} {a:Act} {w:World} {f:Nat} {K':Act->World->Prop} (hi:ops[i]? = some o) (hr:Rel ops listed done) (hd:∀ x∈done,x < ops.size)
  (hni:i∉done) (hat:zyw q (z8p ops.toList) (z0j 0 ops.toList) done i o=true) (h:z1y q P ops Q o K' a w) (ih:∀ a' w',K' a' w'->zvf q P .any ops Q f (listed.setIfInBounds i true) a' w'):zvf q P .any ops Q (f+1) listed a w:=by
 simp only [zyw,zA,Bool.or_eq_true] at hat;have hir:i∈Region.ready .any ops listed:=(z47 hr hd hi).2 ⟨hni,hat.1⟩;have h':z1y q P ops Q o K' a w:=h;rcases hat.2 with ⟨⟨hy,hfree⟩,hnone⟩ | hal
 ·have later_ok:∀ x∈z67 i (z0j 0 ops.toList) [],x < ops.size∧∀ ox,ops[x]? = some ox->∃ e∈ox.after,Region.binds .any e=true∧(e.on=i∨e.on∈z67 i (z0j 0 ops.toList) []):=by
   refine zc6 (by simp) (fun j oj hm hy=>?_);have hoj:=z3f _ hm;refine ⟨z7b hoj,fun ox hox=>?_⟩;simp only at hoj;rw [hoj] at hox;simp only [zI] at hox;subst hox;obtain ⟨y,hy1,hy2⟩:=hy;obtain ⟨e,he,hbe,rfl⟩:=z3l.1 hy1;exact ⟨e,by simpa using he,hbe,hy2⟩
  have hyi:∃ v,YieldsIf P ops (AgP o w) o v a∧K' (a.put o.dst v) w:=by
   unfold z1y at h';split at h'
   ·rename_i hw;rcases h' with ⟨_,v,h1,h2⟩ | ⟨h1,_⟩
    ·exact ⟨v,.inl ⟨hw,h1⟩,h2⟩
    ·rw [hy] at h1;simp at h1
   ·rename_i hw;exact ⟨undef,.inr ⟨by simpa using hw,rfl⟩,h'⟩
  obtain ⟨v,hyv,hk⟩:=hyi;have hun:∀ j,j < ops.size->listed.getD j true=false->j∉done:=fun j hj hu=>by
   rw [hr.getD hj] at hu;exact z23.1 hu
  refine zi2 (w0:=w) (Lt:=z67 i (z0j 0 ops.toList) []) hi hp.sel hQ (fun x hx=>(later_ok x hx).2) f listed a w ?_ ?_ ?_ hir hyv (AgP.refl o w) (ih _ _ hk)
  ·intro j oj hoj hji hu hno;rcases zba hfree _ (z29 hoj) with h1 | h1 | ⟨h1 | h1,_⟩
   ·exact absurd h1 hji
   ·exact absurd h1 (hun j (z7b hoj) hu)
   ·obtain ⟨e,he,hbe,hei⟩:=z3l.1 h1;exact absurd hei (hno e (by simpa using he) hbe)
   ·exact zmh h1
  ·intro x hx;rw [hr.getD (later_ok x hx).1];exact z23.2 ((zc2.1 hnone) x hx)
  ·intro j oj hoj hji hu hM;rcases zba hfree _ (z29 hoj) with h1 | h1 | ⟨_,h1 | h1 | h1⟩
   ·exact absurd h1 hji
   ·exact absurd h1 (hun j (z7b hoj) hu)
   ·exact .inr h1
   ·rw [hM] at h1;simp at h1
   ·exact .inl h1
 ·refine ⟨fun h0=>(by rw [h0] at hir;cases hir),fun j hj=>?_⟩;obtain ⟨_,oj,hoj,_⟩:=mem_ready.1 hj;have h1:=(z47 hr hd hoj).1 hj;have hji:j=i:=by
   rcases zbi hal _ (z29 hoj) with h2 | h2 | h2
   ·exact h2
   ·exact absurd h2 h1.1
   ·rw [h1.2] at h2;simp at h2
  subst hji;exact wpOp_mono (fun a' w' hh=>⟨hh.1,ih _ _ hh.2⟩) (h'.wpOp hi)
theorem zp9 {q:Bool} (hp:Plain' ops) (hQ:∀ c a w,¬ Q (.panic c) a w):(L:List (Nat×Oper))->(∀ x∈L,ops[x.1]? = some x.2)->{listed:Array Bool}->{done:List Nat}->{a:Act}->{w:World}->{fuel:Nat}->
  L.length≤fuel->Rel ops listed done->(∀ x∈done,x < ops.size)->z9y q (z8p ops.toList) (z0j 0 ops.toList) L done=true->wpL q P ops Q (Q .normal) L a w->zvf q P .any ops Q fuel listed a w
 | [],_,listed,done,a,w,fuel,_,hr,hd,ho,h=>by
  simp only [z9y] at ho;have hnone:Region.ready .any ops listed=[]:=by
   rw [List.eq_nil_iff_forall_not_mem];intro j hj;obtain ⟨_,o,hoj,_⟩:=mem_ready.1 hj;have h1:=(z47 hr hd hoj).1 hj;rcases zbi ho _ (z29 hoj) with h2 | h2 | h2
   ·have h3:=z9z (z29 hoj);have h4:(z0j 0 ops.toList).length=ops.toList.length:=by
     have:=congrArg List.length (z64 ops.toList 0);simpa using this
    simp only at h2 h3;omega
   ·exact h1.1 h2
   ·rw [h1.2] at h2;simp at h2
  cases fuel with
  | zero=>exact ⟨hnone,h⟩
  | succ f=>exact ⟨fun _=>h,fun i hi=>by rw [hnone] at hi;simp at hi⟩
 | (i,o) :: L,hL,listed,done,a,w,fuel,hf,hr,hd,ho,h=>by
  simp only [z9y,zA,Bool.not_eq_true'] at ho;obtain ⟨⟨hni,hat⟩,hrest⟩:=ho;have hi:ops[i]? = some o:=hL (i,o) (by simp);have hlt:=z7b hi;obtain ⟨f,rfl⟩:∃ f,fuel=f+1:=⟨fuel-1,by simp only [List.length_cons] at hf;omega⟩;have hf':L.length≤f:=by simp only [List.length_cons] at hf;omega
  have hd':∀ x∈i :: done,x < ops.size:=by
   intro x hx;rcases List.mem_cons.1 hx with rfl | hx
   ·exact hlt
   ·exact hd x hx
  have ih:∀ {a' w'},wpL q P ops Q (Q .normal) L a' w'->zvf q P .any ops Q f (listed.setIfInBounds i true) a' w':=fun {a' w'} h'=>
   zp9 hp hQ L (fun x hx=>hL x (by simp [hx])) hf' hr.add hd' hrest h'
  simp only [zyw,zA,Bool.or_eq_true] at hat;have hir:i∈Region.ready .any ops listed:=(z47 hr hd hi).2 ⟨z23.1 hni,hat.1⟩;have h':z1y q P ops Q o (wpL q P ops Q (Q .normal) L) a w:=h;rcases hat.2 with ⟨⟨hy,hfree⟩,hnone⟩ | hal
  ·have later_ok:∀ x∈z67 i (z0j 0 ops.toList) [],x < ops.size∧∀ ox,ops[x]? = some ox->∃ e∈ox.after,Region.binds .any e=true∧(e.on=i∨e.on∈z67 i (z0j 0 ops.toList) []):=by
    refine zc6 (by simp) (fun j oj hm hy=>?_);have hoj:=z3f _ hm;refine ⟨z7b hoj,fun ox hox=>?_⟩;simp only at hoj;rw [hoj] at hox;simp only [zI] at hox;subst hox;obtain ⟨y,hy1,hy2⟩:=hy;obtain ⟨e,he,hbe,rfl⟩:=z3l.1 hy1;exact ⟨e,by simpa using he,hbe,hy2⟩
   have hyi:∃ v,YieldsIf P ops (AgP o w) o v a∧wpL q P ops Q (Q .normal) L (a.put o.dst v) w:=by
    unfold z1y at h';split at h'
    ·rename_i hw;rcases h' with ⟨_,v,h1,h2⟩ | ⟨h1,_⟩
     ·exact ⟨v,.inl ⟨hw,h1⟩,h2⟩
     ·rw [hy] at h1;simp at h1
    ·rename_i hw;exact ⟨undef,.inr ⟨by simpa using hw,rfl⟩,h'⟩
   obtain ⟨v,hyv,hk⟩:=hyi;have hun:∀ j,j < ops.size->listed.getD j true=false->j∉done:=fun j hj hu=>by
    rw [hr.getD hj] at hu;exact z23.1 hu
   refine zi2 (w0:=w) (Lt:=z67 i (z0j 0 ops.toList) []) hi hp.sel hQ (fun x hx=>(later_ok x hx).2) f listed a w ?_ ?_ ?_ hir hyv (AgP.refl o w) (ih hk)
   ·intro j oj hoj hji hu hno;rcases zba hfree _ (z29 hoj) with h1 | h1 | ⟨h1 | h1,_⟩
    ·exact absurd h1 hji
    ·exact absurd h1 (hun j (z7b hoj) hu)
    ·obtain ⟨e,he,hbe,hei⟩:=z3l.1 h1;exact absurd hei (hno e (by simpa using he) hbe)
    ·exact zmh h1
   ·intro x hx;rw [hr.getD (later_ok x hx).1];exact z23.2 ((zc2.1 hnone) x hx)
   ·intro j oj hoj hji hu hM;rcases zba hfree _ (z29 hoj) with h1 | h1 | ⟨_,h1 | h1 | h1⟩
    ·exact absurd h1 hji
    ·exact absurd h1 (hun j (z7b hoj) hu)
    ·exact .inr h1
    ·rw [hM] at h1;simp at h1
    ·exact .inl h1
  ·refine ⟨fun h0=>(by rw [h0] at hir;cases hir),fun j hj=>?_⟩;obtain ⟨_,oj,hoj,_⟩:=mem_ready.1 hj;have h1:=(z47 hr hd hoj).1 hj;have hji:j=i:=by
    rcases zbi hal _ (z29 hoj) with h2 | h2 | h2
    ·exact h2
    ·exact absurd h2 h1.1
    ·rw [h1.2] at h2;simp at h2
   subst hji;exact wpOp_mono (fun a' w' hh=>⟨hh.1,ih hh.2⟩) (h'.wpOp hi)
theorem zgx {q:Bool} {dst:Nat->Option Nat} {all:List (Nat×Oper)}:{n:Nat}->{done:List Nat}->∀ x∈zcz q dst all n done,x∈all
 | 0,_,x,hx=>by simp [zcz] at hx
 | n+1,done,x,hx=>by
  simp only [zcz] at hx;split at hx
  ·rename_i i o hn;have hmem:(i,o)∈all:=by
    have key:∀ (l:List (Nat×Oper)),zis q dst all done l=some (i,o)->(i,o)∈l:=by
     intro l
     induction l with
     | nil=>intro h;simp [zis] at h
     | cons y l ih=>
      obtain ⟨j,oj⟩:=y;intro h;simp only [zis] at h
      cases hc:(!z2e j done && zyw q dst all done j oj) with
      | true=>rw [hc] at h;simp at h;simp [h.1,h.2]
      | false=>rw [hc] at h;simp only [cond_false] at h;simp [ih h]
    exact key all hn
   rcases List.mem_cons.1 hx with rfl | hx
   ·exact hmem
   ·exact zgx x hx
  ·simp at hx
theorem zgy {q:Bool} {dst:Nat->Option Nat} {all:List (Nat×Oper)}:(n:Nat)->(done:List Nat)->(zcz q dst all n done).length≤n
 | 0,_=>by simp [zcz]
 | n+1,done=>by
  simp only [zcz];split
  ·simp only [List.length_cons];exact Nat.succ_le_succ (zgy n _)
  ·simp
theorem zay {q:Bool} {dst:Nat->Option Nat} {all:List (Nat×Oper)}:{L:List (Nat×Oper)}->{done:List Nat}->z9y q dst all L done=true->(L.map Prod.fst).Nodup∧∀ x∈L,x.1∉done
 | [],_,_=>⟨by simp,by simp⟩
 | (i,o) :: L,done,h=>by
  simp only [z9y,zA,Bool.not_eq_true'] at h;obtain ⟨h1,h2⟩:=zay h.2;refine ⟨?_,fun x hx=>?_⟩
  ·simp only [List.map_cons,List.nodup_cons];refine ⟨fun hm=>?_,h1⟩;obtain ⟨x,hx,he⟩:=List.mem_map.1 hm;exact h2 x hx (by simp [he])
  ·rcases List.mem_cons.1 hx with rfl | hx
   ·exact z23.1 h.1.1
   ·exact fun hd=>h2 x hx (by simp [hd])
end
end Go.Kz
namespace Go.Kz
variable {R:Type}
def SameAt (l:List Operand) (σ σ':St):Prop:=∀ t,.tmp t∈l->σ'.slots t=σ.slots t
end Go.Kz
namespace Go.Kz
variable {R:Type}
section
variable {P:Program} {ops:Array Oper} {Q:Exit->Act->World->Prop}
theorem Rel.same {listed:Array Bool} {d d':List Nat} (h:Rel ops listed d) (he:∀ x,x∈d↔x∈d'):Rel ops listed d':=by
 refine ⟨h.size,fun j hj=>?_⟩;rw [h.get j hj];congr 1;rw [Bool.eq_iff_iff,z2d,z2d];exact he j
end
end Go.Kz
namespace Go.Kz
variable {R:Type}
def OLe (σ τ:St):Prop:=∀ id x,σ.objs id=some x->τ.objs id=some x
theorem OLe.refl (σ:St):OLe σ σ:=fun _ _ h=>h
def putO:List (Nat×Option Obj)->St->St
 | [],σ=>σ
 | (i,o) :: l,σ=>putO l { σ with objs:=upd σ.objs i o }
theorem OLe.upd {σ τ:St} (h:OLe σ τ) (i:Nat) (o:Option Obj):OLe { σ with objs:=upd σ.objs i o } { τ with objs:=Go.Kz.upd τ.objs i o }:=by
 intro id x hx;simp only [Go.Kz.upd] at hx ⊢
 cases hb:Nat.beq id i with
 | true=>rw [hb] at hx;exact hx
 | false=>rw [hb] at hx;exact h id x hx
theorem OLe.putO {σ τ:St} (h:OLe σ τ):(l:List (Nat×Option Obj))->OLe (Go.Kz.putO l σ) (Go.Kz.putO l τ)
 | []=>h
 | (i,o) :: l=>OLe.putO (h.upd i o) l
def Dom (n:Nat) (σ:St) (ob:List (Nat×Option Obj)):Prop:=∀ x∈ob,(∃ y,σ.objs x.1=some y)∨(n≤x.1∧x.1 < n+8)
theorem Dom.nil {n:Nat} {σ:St}:Dom n σ []:=by intro x hx;simp at hx
theorem Dom.new {n:Nat} {σ:St} {o:Option Obj}:Dom n σ [(n,o)]:=by
 intro x hx;simp only [List.mem_singleton] at hx;subst hx;exact .inr ⟨Nat.le_refl _,by omega⟩
end Go.Kz
namespace Go.Kz
variable {R:Type}
theorem zy6 {b:Bool} {x:Option R} {r:R} (h:cond b x none=some r):b=true∧x=some r:=by
 cases b with
 | true=>exact ⟨rfl,h⟩
 | false=>simp at h
end Go.Kz
namespace Go.Kz
variable {R:Type}
structure Eff where
 sl:Option (Nat×AVal)
 ob:List (Nat×Option Obj)
def Eff.slot (e:Eff) (σ:St):St:=match e.sl with
 | some (d,v)=>σ.set d v
 | none=>σ
def Eff.app (e:Eff) (σ:St):St:=putO e.ob (e.slot σ)
structure Run (c:Ctx) (σ:St) (n:Nat) (o:Oper) (e:Eff):Prop where
 sl:∀ d v,e.sl=some (d,v)->o.dst=some d
 ob:Dom n σ e.ob
 eq:∀ τ,SameAt o.op.operands.toList σ τ->OLe σ τ->∀ (R':Type) (k':St->Option R'),z36 c τ n o k'=k' (e.app τ)
 y:znu o=true->e.ob=[]
end Go.Kz
namespace Go.Kz
variable {R:Type}
structure Ent where
 i:Nat
 o:Oper
 F:List Nat
 e:Eff
structure Good (base:Nat) (t:Ent):Prop where
 guard:t.o.guard=none
 junk:zhd t.o=false
 sl:∀ d v,t.e.sl=some (d,v)->t.o.dst=some d
 ob:∀ x∈t.e.ob,inF base t.i t.F x.1=true
 y:znu t.o=true->t.e.ob=[]
structure Apart (base:Nat) (dst:Nat->Option Nat) (s t:Ent):Prop where
 ne:s.i≠t.i
 ap:zmi dst s.o t.o=true
 st:∀ x∈s.e.ob,inF base t.i t.F x.1=false
 ts:∀ x∈t.e.ob,inF base s.i s.F x.1=false
def Lin:List Nat->List (Nat×Oper)->Prop
 | _,[]=>True
 | d,(i,o) :: l=>(∀ x∈z3s o.after.toList,x∈d)∧Lin (i :: d) l
theorem Lin.mono:{l:List (Nat×Oper)}->{d d':List Nat}->(∀ x∈d,x∈d')->Lin d l->Lin d' l
 | [],_,_,_,_=>trivial
 | (i,o) :: l,d,d',hd,h=>⟨fun x hx=>hd x (h.1 x hx),Lin.mono (fun x hx=>by
   rcases List.mem_cons.1 hx with rfl | hx
   ·simp
   ·simp [hd x hx]) h.2⟩
theorem Lin.take {j:Nat} {p:Oper} {post:List (Nat×Oper)}:(pre:List (Nat×Oper))->{d:List Nat}->Lin d (pre++(j,p) :: post)->Lin (j :: d) (pre++post)
 | [],d,h=>h.2
 | (i,o) :: pre,d,h=>⟨fun x hx=>List.mem_cons_of_mem _ (h.1 x hx),by
   refine (Lin.take pre h.2).mono fun x hx=>?_
   simp only [List.mem_cons] at hx ⊢;rcases hx with h | h | h
   ·exact .inr (.inl h)
   ·exact .inl h
   ·exact .inr (.inr h)⟩
section
variable {P:Program} {ops:Array Oper} {Q:Exit->Act->World->Prop}
end
section
variable {P:Program} {c:Ctx}
theorem zr5 {R:Type} {l:List (Option R)} {r:R} (h:z17 l=some r):∀ y∈l,y=some r:=by
 cases l with
 | nil=>simp
 | cons x l=>
  simp only [z17] at h;split at h
  ·rename_i hall;intro y hy;rcases List.mem_cons.1 hy with rfl | hy
   ·exact h
   ·rw [hall y hy];exact h
  ·simp at h
theorem zh1 {q:Bool} {dst:Nat->Option Nat} {all:List (Nat×Oper)} {done:List Nat} {i:Nat} {o:Oper}:{l:List (Nat×Oper)}->zis q dst all done l=some (i,o)->(i,o)∈l∧i∉done∧zyw q dst all done i o=true
 | [],h=>by simp [zis] at h
 | (j,oj) :: l,h=>by
  simp only [zis] at h
  cases hc:(!z2e j done && zyw q dst all done j oj) with
  | true=>
   rw [hc] at h;simp only [cond_true,zI,Prod.mk.injEq] at h;obtain ⟨rfl,rfl⟩:=h;simp only [zA,Bool.not_eq_true'] at hc
   exact ⟨by simp,z23.1 hc.1,hc.2⟩
  | false=>
   rw [hc] at h;simp only [cond_false] at h;obtain ⟨h1,h2⟩:=zh1 h;exact ⟨by simp [h1],h2⟩
theorem z48 {done:List Nat} {i:Nat} {o:Oper}:{l:List (Nat×Oper)}->((i,o)∈z5e done l↔(i,o)∈l∧i∉done∧zcy done o=true)
 | []=>by simp [z5e]
 | (j,oj) :: l=>by
  simp only [z5e]
  cases hc:(!z2e j done && zcy done oj) with
  | true=>
   simp only [cond_true,List.mem_cons,z48 (l:=l)];simp only [zA,Bool.not_eq_true'] at hc;constructor
   ·rintro (h | h)
    ·simp only [Prod.mk.injEq] at h;obtain ⟨rfl,rfl⟩:=h;exact ⟨.inl rfl,z23.1 hc.1,hc.2⟩
    ·exact ⟨.inr h.1,h.2⟩
   ·rintro ⟨h | h,h2⟩
    ·exact .inl h
    ·exact .inr ⟨h,h2⟩
  | false=>
   simp only [cond_false,List.mem_cons,z48 (l:=l)];constructor
   ·rintro ⟨h,h2⟩;exact ⟨.inr h,h2⟩
   ·rintro ⟨h | h,h2,h3⟩
    ·simp only [Prod.mk.injEq] at h;obtain ⟨rfl,rfl⟩:=h;rw [h3,z23.2 h2] at hc;simp at hc
    ·exact ⟨h,h2,h3⟩
theorem zxi {q:Bool} (hc:CtxOK P c) {ops:Array Oper} {Q:Exit->Act->World->Prop} {K:Act->World->Prop} {b0:Nat} {o:Oper} {σ:St} {g:Ghost} {a:Act} {w:World} {kk:St->Option R} {r:R} (hw:Region.wanted o (yielded ops a.tmps)=true) (h:opM q c σ b0 o kk=some r) (hst:StOK c.ntmps g w a σ)
  (hfr:∀ m,b0≤m->m < b0+8->Fresh g σ m)
  (hK:∀ σ1 g1 a1 w1,kk σ1=some r->StOK c.ntmps g1 w1 a1 σ1->Ext w g w1 g1->(∀ m,(m < b0∨b0+8≤m)->Fresh g σ m->Fresh g1 σ1 m)->σ1.next=σ.next->(∀ s,o.dst≠some s->a1.tmps[s]? = a.tmps[s]?)->K a1 w1):z1y q P ops Q o K a w:=by
 refine z1y.mono (fun a1 w1 hh=>hh.2 hh.1.2) (z1y.frame (K:=fun a1 w1=>(∀ s,o.dst≠some s->a1.tmps[s]? = a.tmps[s]?)->K a1 w1) ?_);unfold z1y;rw [if_pos hw]
 cases hy:isY o with
 | true=>
  left;obtain ⟨av,v,h1,h2,h3,h4⟩:=(zih hc hy hst (by rw [←opM_Y hy];exact h)).out;refine ⟨rfl,v,h1,fun hfrm=>?_⟩;rcases z5r h4 with ⟨hd,hk⟩ | ⟨d,hd,hlt,hk⟩
  ·rw [hd] at hfrm ⊢;exact hK σ g a w hk hst (Ext.refl _ _) (fun _ _ hm=>hm) rfl (by rw [hd];exact hfrm)
  ·rw [hd] at hfrm ⊢;exact hK _ g _ w hk (hst.put hlt h2) (Ext.refl _ _) (fun m _ hm=>hm.set d (h3 m hm)) rfl (by rw [hd];exact hfrm)
 | false=>
  right;refine ⟨rfl,zyv (base:=b0) hc hst hfr h ?_⟩;intro σ1 g1 a1 w1 h1 hst1 hext1 hf1 hn1 hag;exact ⟨fun h1=>hag h1,fun hfrm=>hK σ1 g1 a1 w1 h1 hst1 hext1 hf1 hn1 hfrm⟩
theorem zxj {q:Bool} {ops:Array Oper} {Q:Exit->Act->World->Prop} {K:Act->World->Prop} {o:Oper} {a:Act} {w:World} (hw:Region.wanted o (yielded ops a.tmps)=false) (h:K (a.put o.dst undef) w):z1y q P ops Q o K a w:=by
 unfold z1y;rw [hw];simp only [Bool.false_eq_true,if_false];exact h
theorem zw6 (hc:CtxOK P c) {ops:Array Oper} {Q:Exit->Act->World->Prop} {K:Act->World->Prop} {b0:Nat} {o:Oper} {opened und:List Nat} {σ:St} {g:Ghost} {a:Act} {w:World} {kk:List Nat->List Nat->St->Option R} {r:R}
  (h:zsd c (z8p ops.toList) b0 o opened und σ kk=some r) (hst:StOK c.ntmps g w a σ) (hun:Und a und) (hfr:∀ m,b0≤m->m < b0+8->Fresh g σ m)
  (hK:∀ op1 un1 σ1 g1 a1 w1,kk op1 un1 σ1=some r->StOK c.ntmps g1 w1 a1 σ1->Und a1 un1->Ext w g w1 g1->(∀ m,(m < b0∨b0+8≤m)->Fresh g σ m->Fresh g1 σ1 m)->σ1.next=σ.next->K a1 w1):z1y true P ops Q o K a w:=by
 have one:∀ {op1:List Nat} {σ':St},opM true c σ' b0 o (fun σ=>kk op1 (zdf o.dst und) σ)=some r->StOK c.ntmps g w a σ'->(∀ m,Fresh g σ m->Fresh g σ' m)->σ'.next=σ.next->Region.wanted o (yielded ops a.tmps)=true->z1y true P ops Q o K a w:=by
  intro op1 σ' h hst' hf hn hw;refine zxi hc hw h hst' (fun m h1 h2=>hf m (hfr m h1 h2)) (fun σ1 g1 a1 w1 h1 hst1 hext1 hf1 hn1 hfrm=>?_);exact hK _ _ σ1 g1 a1 w1 h1 hst1 (hun.keep hfrm) hext1 (fun m hm hfm=>hf1 m hm (hf m hfm)) (hn1.trans hn)
 have skip:∀ {op1:List Nat} {σ':St},kk op1 (zyj o.dst und) (σ'.unset o.dst)=some r->StOK c.ntmps g w a σ'->(∀ m,Fresh g σ m->Fresh g σ' m)->σ'.next=σ.next->Region.wanted o (yielded ops a.tmps)=false->z1y true P ops Q o K a w:=by
  intro op1 σ' h hst' hf hn hw;refine zxj hw (hK _ _ _ g _ w h (hst'.putU o.dst undef) hun.skip (Ext.refl _ _) (fun m _ hfm=>(hf m hfm).unset o.dst) ?_);rw [←hn];cases o.dst <;> rfl
 unfold zsd at h;split at h
 ·rename_i hg;exact one h hst (fun _ hm=>hm) rfl (z79 hg)
 ·rename_i j want hg;split at h
  ·simp at h
  ·rename_i t hdt;rw [zjk] at hdt;split at h
   ·rename_i b hb;have hw:=zcs (o:=o) (a:=a) hg hdt (zn1 hst hb)
    cases hm:z2e j opened with
    | true=>
     rw [hm] at h;simp only [cond_true] at h
     cases hbw:(b == want) with
     | true=>
      rw [hbw] at h hw
      exact one h hst (fun _ hm=>hm) rfl hw
     | false=>
      rw [hbw] at h hw
      exact skip h hst (fun _ hm=>hm) rfl hw
    | false=>
     rw [hm] at h;simp only [cond_false] at h;have hst0:=zib hst hb
     cases b with
     | true=>
      simp only [cond_true] at h
      cases want with
      | true=>exact one h hst0 (fun m hf=>hf.set t (by simp [AVal.ids])) rfl hw
      | false=>exact skip h hst0 (fun m hf=>hf.set t (by simp [AVal.ids])) rfl hw
     | false=>
      simp only [cond_false] at h
      cases want with
      | true=>exact skip h hst0 (fun m hf=>hf.set t (by simp [AVal.ids])) rfl hw
      | false=>exact one h hst0 (fun m hf=>hf.set t (by simp [AVal.ids])) rfl hw
   ·cases hmu:z2e t und with
    | false=>rw [hmu] at h;simp at h
    | true=>
     rw [hmu] at h;simp only [cond_true] at h;exact skip h hst (fun _ hm=>hm) rfl (zgd hg hdt (hun t (zex.1 hmu)))
   ·simp at h
theorem zpd:{n:Nat}->{l:List Nat}->l.Nodup->(∀ x∈l,x < n)->l.length≤n
 | 0,l,_,hl=>by
  cases l with
  | nil=>simp
  | cons x l=>have:=hl x (by simp);omega
 | n+1,l,h,hl=>by
  have h1:=zpd (n:=n) (h.erase n) (fun x hx=>by
   have h2:=(h.mem_erase_iff).1 hx;have:=hl x h2.2;have:=h2.1;omega)
  rw [List.length_erase] at h1;split at h1 <;> omega
theorem zve (hc:CtxOK P c) {ops:Array Oper} {Q:Exit->Act->World->Prop} (hp:Plain' ops) (hQ:∀ c a w,¬ Q (.panic c) a w) {base:Nat} :
  (n:Nat)->{done opened und:List Nat}->{listed:Array Bool}->{σ:St}->{g:Ghost}->{a:Act}->{w:World}->{k:St->Option R}->{r:R}->{fuel:Nat}->anyK c base (z8p ops.toList) (z0j 0 ops.toList) n done opened und σ k=some r->
  StOK c.ntmps g w a σ->Und a und->Rel ops listed done->(∀ x∈done,x < ops.size)->done.Nodup->fuel+done.length=ops.size->(∀ i,i < ops.size->i∉done->∀ m,base+8*i≤m->m < base+8*i+8->Fresh g σ m)->
  (∀ σ' g' a' w',k σ'=some r->StOK c.ntmps g' w' a' σ'->Ext w g w' g'->(∀ m,(∀ i,i < ops.size->m < base+8*i∨base+8*i+8≤m)->Fresh g σ m->Fresh g' σ' m)->σ'.next=σ.next->Q .normal a' w')->
  zvf true P .any ops Q fuel listed a w
 | 0,_,_,_,_,_,_,_,_,_,_,_,h,_,_,_,_,_,_,_,_=>by simp [anyK] at h
 | n+1,done,opened,und,listed,σ,g,a,w,k,r,fuel,h,hst,hun,hr,hd,hnd,hfu,hfr,hK=>by
  have step:∀ (i:Nat) (o:Oper),(i,o)∈z0j 0 ops.toList->i∉done->zsd c (z8p ops.toList) (base+8*i) o opened und σ (fun opened und σ=>anyK c base (z8p ops.toList) (z0j 0 ops.toList) n (i :: done) opened und σ k)=some r->
    ∃ f,fuel=f+1∧i < ops.size∧ops[i]? = some o∧z1y true P ops Q o (fun a' w'=>zvf true P .any ops Q f (listed.setIfInBounds i true) a' w') a w:=by
   intro i o hm hi h;have hio:=z3f _ hm;have hlt:i < ops.size:=z7b hio;have hd':∀ x∈i :: done,x < ops.size:=by
    intro x hx;rcases List.mem_cons.1 hx with rfl | hx
    ·exact hlt
    ·exact hd x hx
   have hnd':(i :: done).Nodup:=List.nodup_cons.2 ⟨hi,hnd⟩;have hle:=zpd hnd' hd';simp only [List.length_cons] at hle;obtain ⟨f,rfl⟩:∃ f,fuel=f+1:=⟨fuel-1,by omega⟩;refine ⟨f,rfl,hlt,hio,zw6 (b0:=base+8*i) hc h hst hun (hfr i hlt hi) (fun op1 un1 σ1 g1 a1 w1 h1 hst1 hun1 hext1 hf1 hn1=>?_)⟩;refine zve hc hp hQ n h1 hst1 hun1 hr.add hd' hnd' (by simp only [List.length_cons];omega) (fun j hj hjd m q1 q2=>?_) (fun σ2 g2 a2 w2 h2 hst2 hext2 hf2 hn2=>?_)
   ·have hne:j≠i:=fun he=>hjd (by simp [he])
    exact hf1 m (by omega) (hfr j hj (fun hx=>hjd (by simp [hx])) m q1 q2)
   ·exact hK σ2 g2 a2 w2 h2 hst2 (hext1.trans hext2) (fun m hm hf=>hf2 m hm (hf1 m (hm i hlt) hf)) (hn2.trans hn1)
  simp only [anyK] at h;split at h
  ·rename_i i o hnx;obtain ⟨hm,hi,hat⟩:=zh1 hnx;obtain ⟨f,rfl,hlt,hio,hL⟩:=step i o hm hi h;exact step_ok hp hQ hio hr hd hi hat hL (fun a' w' hh=>hh)
  ·split at h
   ·rename_i hra;have hnone:Region.ready .any ops listed=[]:=by
     rw [List.eq_nil_iff_forall_not_mem];intro j hj;obtain ⟨_,o,hoj,_⟩:=mem_ready.1 hj;have h1:=(z47 hr hd hoj).1 hj;have:(j,o)∈z5e done (z0j 0 ops.toList):=z48.2 ⟨z29 hoj,h1.1,h1.2⟩;rw [hra] at this;simp at this
    have hq:=hK σ g a w h hst (Ext.refl _ _) (fun m _ hf=>hf) rfl
    cases fuel with
    | zero=>exact ⟨hnone,hq⟩
    | succ f=>exact ⟨fun _=>hq,fun i hi=>by rw [hnone] at hi;simp at hi⟩
   ·rename_i x l hra;have hall:=zr5 h;have hone:∀ i o,(i,o)∈z5e done (z0j 0 ops.toList)->∃ f,fuel=f+1∧i < ops.size∧ops[i]? = some o∧z1y true P ops Q o (fun a' w'=>zvf true P .any ops Q f (listed.setIfInBounds i true) a' w') a w:=by
     intro i o hm;obtain ⟨h1,h2,_⟩:=z48.1 hm;refine step i o h1 h2 (hall _ ?_);rw [←hra];exact List.mem_map.2 ⟨(i,o),hm,rfl⟩
    obtain ⟨xi,xo⟩:=x;obtain ⟨f,rfl,_⟩:=hone xi xo (by rw [hra];simp);refine ⟨fun h0=>?_,fun j hj=>?_⟩
    ·obtain ⟨h1,h2,h3⟩:=z48.1 (show (xi,xo)∈z5e done (z0j 0 ops.toList) by rw [hra];simp);have:=(z47 hr hd (z3f _ h1)).2 ⟨h2,h3⟩;rw [h0] at this;cases this
    ·obtain ⟨_,o,hoj,_⟩:=mem_ready.1 hj;have h1:=(z47 hr hd hoj).1 hj;obtain ⟨f',hf',hlt,hio,hL⟩:=hone j o (z48.2 ⟨z29 hoj,h1.1,h1.2⟩);have:f'=f:=by omega
     subst this;exact hL.wpOp hio
theorem zq9 {q:Bool} (hc:CtxOK P c) (hm:P.follows .mixedOrders=true) {id:Nat} {ops:Array Oper} {Q:Exit->Act->World->Prop} {σ:St} {g:Ghost} {a:Act} {w:World} {k:St->Option R} {r:R}
  (hQ:∀ c a w,¬ Q (.panic c) a w) (hok:zht q ops.toList=true) (h:zxl q c ops.toList (zrv q ops.toList) σ k=some r) (hst:StOK c.ntmps g w a σ) (hf:z13 g σ)
  (hK:∀ σ' g' a' w',k σ'=some r->StOK c.ntmps g' w' a' σ'->Ext w g w' g'->z13 g' σ'->(∀ s,(∀ o∈ops.toList,o.dst≠some s)->a'.tmps[s]? = a.tmps[s]?)->Q .normal a' w'):(Code.region id ops true).wp P Q a w:=by
 have hQ1:∀ c a' w,¬ zxw ops a Q (.panic c) a' w:=fun c a' w h=>hQ c a' w (h (by simp))
 simp only [zht,zA] at hok;have hnd:=zay hok.2;have hp:=zp5 hok.1;have hmem:∀ x∈zrv q ops.toList,x∈z0j 0 ops.toList:=fun x hx=>zgx x hx
 refine wp_region_any hm (z6n (a0:=a) _ _ _ _ (fun _ _=>rfl) (zbm _ _ _ _ (zp9 hp hQ1 _ (fun x hx=>z3f _ (hmem x hx)) ?_ Rel.start (by simp) hok.2 ?_)))
 ·have:=zgy (q:=q) (dst:=z8p ops.toList) (all:=z0j 0 ops.toList) ops.toList.length [];simpa [zrv] using this
 ·have he:({ w with drawn:=w.drawn+1 }:World).heap=w.heap:=rfl;refine ztq hc (fun x hx=>z9z (hmem x hx)) hnd.1 h (hst.heapEq he) hf (fun σ' g' a' w' hk hst' hext' hf'=>?_);exact fun hkept=>hK σ' g' a' w' hk hst' ((Ext.heapEq (g:=g) he rfl rfl rfl (Nat.le_succ _)).trans hext') hf' (hkept rfl)
theorem zsx (hc:CtxOK P c) (hm:P.follows .mixedOrders=true) {id:Nat} {ops:Array Oper} {draw:Bool} {Q:Exit->Act->World->Prop} {σ:St} {g:Ghost} {a:Act} {w:World} {k:St->Option R} {r:R}
  (hQ:∀ c a w,¬ Q (.panic c) a w) (h:znc c ops draw σ k=some r) (hst:StOK c.ntmps g w a σ) (hf:z13 g σ)
  (hK:∀ σ' g' a' w',k σ'=some r->StOK c.ntmps g' w' a' σ'->Ext w g w' g'->z13 g' σ'->(∀ s,(∀ o∈ops.toList,o.dst≠some s)->a'.tmps[s]? = a.tmps[s]?)->Q .normal a' w'):(Code.region id ops draw).wp P Q a w:=by
 have hQ1:∀ c a' w,¬ zxw ops a Q (.panic c) a' w:=fun c a' w h=>hQ c a' w (h (by simp))
 unfold znc at h
 cases draw with
 | false=>
  simp only [cond_false] at h;have hL:=ztq (K:=fun a' w'=>(∀ s,(∀ o∈ops.toList,o.dst≠some s)->a'.tmps[s]? = a.tmps[s]?)->Q .normal a' w') (Q:=Q) hc (fun x hx=>z9z hx) (zg5 _ _) h hst hf hK;refine wp_text (zi7 (fun a' w' hh=>hh.2 fun s hs=>hh.1 s fun x hx=>hs x.2 ?_) _ _ _ (zjx _ _ _ hL));have:=z3f x hx;obtain ⟨hlt,he⟩:=Array.getElem?_eq_some_iff.1 this
  rw [←he];simp
 | true=>
  simp only [cond_true] at h
  cases hok2:zht true ops.toList with
  | true=>
   rw [hok2] at h;simp only [cond_true] at h
   exact zq9 hc hm hQ hok2 h hst hf hK
  | false=>
  rw [hok2] at h;simp only [cond_false] at h
  cases hok:(zht false ops.toList && !zl6 c σ (z0j 0 ops.toList)) with
  | false=>
   rw [hok] at h;simp only [cond_false] at h;obtain ⟨hpp,h⟩:=zy6 h;have hp:=zp5 hpp;have he:({ w with drawn:=w.drawn+1 }:World).heap=w.heap:=rfl;refine wp_region_any hm (z6n (a0:=a) _ _ _ _ (fun _ _=>rfl) (zbm (q:=true) _ _ _ _ ?_));refine zve (base:=σ.next) hc hp hQ1 _ h (hst.heapEq he) (by intro s hs;simp at hs) Rel.start (by simp) (by simp) (by simp) (fun i hi _ m q1 q2=>hf m (by omega)) (fun σ' g' a' w' hk hst' hext' hf' hn'=>?_);refine fun hkept=>hK _ g' a' w' hk ⟨hst'.slots,hst'.heap,hst'.size,hst'.defers,hst'.known⟩ ((Ext.heapEq (g:=g) he rfl rfl rfl (Nat.le_succ _)).trans hext') (fun m hm=>?_) (hkept rfl)
   have hm':σ.next+8*ops.toList.length≤m:=hm;have:=hf' m (fun i hi=>.inr (by have:i < ops.toList.length:=(by simpa using hi);omega)) (hf m (by omega))
   exact ⟨this.objs,this.row,this.box,this.slots,this.cells⟩
  | true=>
   rw [hok] at h;simp only [cond_true] at h;exact zq9 hc hm hQ (Bool.and_eq_true_iff.1 hok).1 h hst hf hK
end
end Go.Kz
namespace Go.Kz
variable {R:Type}
section
variable {n:Nat} {w:World} {a:Act} {g:Ghost} {σ:St} {k:St->Option R} {r:R}
theorem Shrunk.freshUp {g':Ghost} {σ':St} (h:Shrunk g σ.objs g' σ'.objs) (hs:σ'.slots=σ.slots) (hn:σ'.next=σ.next) (hf:z13 g σ):z13 g' σ':=
 fun m hm=>h.fresh hs (hf m (by rw [←hn];exact hm))
theorem z13.ids {i:Nat} {av:AVal} (hf:z13 g σ) (h:σ.slots i=some av):∀ m,σ.next≤m->m∉av.ids:=fun m hm=>(hf m hm).slots i av h
structure Turned (w:World) (g:Ghost) (σ:St) (x:AVal) (cs:List Value) (g':Ghost) (σ':St) (x':AVal):Prop where
 ok:AOK w g' σ'.objs x' cs
 sk:x'.sk=x.sk
 agg:x'.isAgg=x.isAgg
 val:x'.val=true
 ids:∀ m,σ'.next≤m->m∉x'.ids
 slots:σ'.slots=σ.slots
 next:σ.next≤σ'.next
 cells:∀ id z,σ'.objs id=some (.cell z)->σ.objs id=some (.cell z)∧g'.blk id=g.blk id
theorem zuz {x:AVal} {f:AVal->St->Option R} {cs:List Value} (hst:StOK n g w a σ) (hf:z13 g σ) (hval:x.val=true) (hx:AOK w g σ.objs x cs) (hids:∀ m,σ.next≤m->m∉x.ids) (h:zv0 σ x f=some r) :
  ∃ x' σ' g',f x' σ'=some r∧StOK n g' w a σ'∧Ext w g w g'∧z13 g' σ'∧Turned w g σ x cs g' σ' x':=by
 unfold zv0 at h;split at h
 ·rename_i id ep p q;split at h
  ·rename_i t l e hobj
   cases hb:Nat.beq e ep with
   | false=>rw [hb] at h;simp at h
   | true=>
    rw [hb] at h;have he:=zE hb;subst he;simp only [cond_true] at h;obtain ⟨u,rfl,hone,hv⟩:=hx;obtain ⟨_,h0,hab,hbl,e1⟩:=(hv _ _ _ hobj).2 rfl;let c:Ctx:=⟨0,fun _=>none,fun _=>none,n,fun _=>[],fun _=>none,fun _ _=>none,⟨[],[]⟩,fun _=>none,fun _=>none,fun _=>false,fun _=>false,fun _ _=>none⟩;obtain ⟨hst1,hext1,hfr1⟩:=zke (c:=c) (e':=e+1) hst hobj h0 hab hbl (Nat.lt_succ_self _);refine ⟨_,_,_,h,hst1,hext1,fun m hm=>hfr1 m (hf m hm),⟨u,rfl,hone,fun t' l' e' ho'=>?_⟩,rfl,rfl,rfl,fun m hm=>hids m hm,rfl,Nat.le_refl _,fun i z hz=>?_⟩
    ·simp only [St.setObj,z0i,zI,Obj.row.injEq] at ho';obtain ⟨_,_,rfl⟩:=ho';exact ⟨Nat.le_refl _,fun _=>by simp only [svG,if_true];exact e1⟩
    ·by_cases hi:i=id
     ·subst hi;simp [St.setObj,z0i] at hz
     ·simp only [St.setObj] at hz;rw [z0o _ _ hi] at hz;exact ⟨hz,rfl⟩
  ·simp at h
 ·exact ⟨_,σ,g,h,hst,Ext.refl w g,hf,hx,rfl,rfl,hval,hids,rfl,Nat.le_refl _,fun _ _ hz=>⟨hz,rfl⟩⟩
theorem z13.nil_row {t:Ty} (hst:StOK n g w a σ) (hf:z13 g σ) (ht:t.isRo=true) :
  StOK n (svG g σ.next (.slice none 0 0)) w a { σ.setObj σ.next (.row t [] 0) with next:=σ.next+1 }∧Ext w g w (svG g σ.next (.slice none 0 0))∧
   z13 (svG g σ.next (.slice none 0 0)) { σ.setObj σ.next (.row t [] 0) with next:=σ.next+1 }:=by
 have hst':StOK n (svG g σ.next (.slice none 0 0)) w a (σ.setObj σ.next (.row t [] 0)):=by
  refine hst.turn ⟨fun b hb=>⟨hb,rfl⟩⟩ (fun i hi=>zdl hi) (.inr (hf _ (Nat.le_refl _))) ?_ hst.heap.tags;exact ⟨ht,none,0,by simp [svG],by simp [svG],Nat.le_refl _,Nat.zero_le _,.inl ⟨rfl,rfl,rfl⟩⟩
 refine ⟨⟨hst'.slots,hst'.heap,hst'.size,hst'.defers,hst'.known⟩,⟨rfl,rfl,rfl,Nat.le_refl _,Nat.le_refl _,fun b _ _=>⟨rfl,rfl⟩⟩,fun m hm=>?_⟩;have hm':σ.next+1≤m:=hm;have:=Fresh.turn (g:=g) (g':=svG g σ.next (.slice none 0 0)) (o:=.row t [] 0) (id:=σ.next) (fun b=>.inl rfl) (by omega) (by simp) (hf m (by omega));exact ⟨this.objs,this.row,this.box,this.slots,this.cells⟩
theorem zqb {x:AVal} {cv:Conv} {f:AVal->St->Option R} {cs:List Value} (hst:StOK n g w a σ) (hf:z13 g σ) (hval:x.val=true) (hx:AOK w g σ.objs x cs) (hids:∀ m,σ.next≤m->m∉x.ids) (h:zoc σ x cv f=some r) :
  ∃ x' σ' g',f x' σ'=some r∧StOK n g' w a σ'∧Ext w g w g'∧z13 g' σ'∧Turned w g σ x cs g' σ' x':=by
 cases cv with
 | row t=>
  simp only [zoc] at h;split at h
  ·cases ht:t.isRo with
   | false=>rw [ht] at h;simp at h
   | true=>
    rw [ht] at h;simp only [cond_true] at h;obtain ⟨h1,h2,h3⟩:=z13.nil_row hst hf ht;have hx':cs=[.slice none 0 0]:=hx;subst hx';refine ⟨_,_,_,h,h1,h2,h3,⟨_,rfl,rfl,fun t' l' e' ho'=>?_⟩,rfl,rfl,rfl,fun m hm=>?_,rfl,Nat.le_succ _,fun i z hz=>?_⟩
    ·simp only [St.setObj,z0i,zI,Obj.row.injEq] at ho';obtain ⟨_,_,rfl⟩:=ho';exact ⟨Nat.le_refl _,fun _=>by simp [svG]⟩
    ·simp only [AVal.ids,List.mem_singleton];have hm':σ.next+1≤m:=hm;omega
    ·by_cases hi:i=σ.next
     ·subst hi;simp [St.setObj,z0i] at hz
     ·simp only [St.setObj] at hz;rw [z0o _ _ hi] at hz;exact ⟨hz,rfl⟩
  ·exact zuz hst hf hval hx hids h
 | dat t=>
  simp only [zoc] at h
  cases hb:(t.isRo && x.val && x.sk.same t.sk) with
  | false=>rw [hb] at h;simp at h
  | true=>
   rw [hb] at h;simp only [cond_true] at h;simp only [zA] at hb;have hsk:=Sk.same_eq hb.2;obtain ⟨d,σ',g',hk,hs,hn,hsh,hrep⟩:=z58 20 hst.heap hx hb.1.1 h;refine ⟨_,σ',g',hk,hsh.st hs hst,hsh.ext,hsh.freshUp hs hn hf,⟨hb.1.1,hrep⟩,hsk.symm,?_,rfl,fun m _=>by simp [AVal.ids],hs,by rw [hn];exact Nat.le_refl _,fun i z hz=>?_⟩
   ·rw [(z2g hval).1,hsk];rfl
   ·rcases hsh.objs i with e | e
    ·rw [←e];exact ⟨hz,by rw [hsh.blk]⟩
    ·rw [e] at hz;simp at hz
 | con=>simp [zoc] at h
theorem zn3 (l:List Value) (off n:Nat) (h:off+n≤l.length):z0d l off (seg l off n)=l:=by
 have hs:(seg l off n).length=n:=z1s h;simp only [z0d,hs];rw [seg];have h1:l.drop (off+n)=(l.drop off).drop n:=by rw [List.drop_drop]
 rw [h1]
 conv=>rhs;rw [←List.take_append_drop off l,←List.take_append_drop n (l.drop off)]
 simp
theorem StOK.set {i:Nat} {x:AVal} {v:Value} (hst:StOK n g w a σ) (hv:a.tmps[i]? = some v) (hx:VOK w g σ.objs x v):StOK n g w a (σ.set i x):=by
 refine ⟨fun j y hj=>?_,hst.heap,hst.size,hst.defers,hst.known⟩;simp only [St.set,upd] at hj
 cases hb:Nat.beq j i with
 | true=>
  rw [hb] at hj;simp only [cond_true,zI] at hj;subst hj;have:=zE hb;subst this
  exact ⟨v,hv,hx⟩
 | false=>rw [hb] at hj;exact hst.slots j y hj
theorem zy9 {id:Nat} {x x':AVal} (hst:StOK n g w a σ) (hobj:σ.objs id=some (.cell x)) (hsk:x'.sk=x.sk)
  (hok:∃ c e,w.heap[g.blk id]? = some (.cells c e (0,0))∧g.tag (g.blk id) = .box id∧AOK w g σ.objs x' c.toList):StOK n g w a (σ.setObj id (.cell x')):=by
 have hk:z10 g g id (σ.objs id) (some (.cell x')):=.inr (.inr (.inl ⟨x,x',hobj,rfl,hsk,rfl⟩));refine hst.turn ⟨fun b hb=>⟨hb,rfl⟩⟩ (fun i hi=>⟨⟨fun _=>rfl,fun _ b hb=>⟨hb,rfl⟩⟩,rfl,fun hb=>⟨hb,rfl⟩⟩) (.inl hk) ?_ hst.heap.tags;obtain ⟨c,e,h1,h2,h3⟩:=hok;refine z0z.mk ⟨c,e,h1,h2,?_⟩;refine AOK.frame ⟨fun b hb=>⟨hb,rfl⟩⟩ (fun i _=>?_) h3;by_cases hi:i=id
 ·subst hi;simp only [St.setObj,z0i];exact hk
 ·simp only [St.setObj];rw [z0o _ _ hi];exact z10.refl g i _
theorem zrx {id m:Nat} {x x':AVal} (hf:Fresh g σ m) (hobj:σ.objs id=some (.cell x)) (hx:m∉x'.ids):Fresh g (σ.setObj id (.cell x')) m:=by
 have hm:m≠id:=by intro he;subst he;have:=hf.objs;rw [hobj] at this;simp at this
 refine ⟨by simp only [St.setObj];rw [z0o _ _ hm];exact hf.objs,hf.row,hf.box,hf.slots,fun i y hi=>?_⟩;by_cases he:i=id
 ·subst he;simp only [St.setObj,z0i,zI,Obj.cell.injEq] at hi;subst hi;exact hx
 ·simp only [St.setObj] at hi;rw [z0o _ _ he] at hi;exact hf.cells i y hi
theorem zm3 (i:Nat) (p:z1d) (cv:Conv) (l:List (Nat×Option z1d×Conv))
  (ih:∀ {g:Ghost} {σ:St} {k:St->Option R},StOK n g w a σ->z13 g σ->zg9 l σ k=some r->∃ σ' g',k σ'=some r∧StOK n g' w a σ'∧Ext w g w g'∧z13 g' σ')
  (hcv:cv≠.con) {g:Ghost} {σ:St} {k:St->Option R} (hst:StOK n g w a σ) (hf:z13 g σ) (h:zg9 ((i,some p,cv) :: l) σ k=some r) :
  ∃ σ' g',k σ'=some r∧StOK n g' w a σ'∧Ext w g w g'∧z13 g' σ':=by
  have h:(match σ.slots i with
   | some (.bptr id _)=>zbn σ id p fun a=>cond a.val (zoc σ a cv fun a σ=>zbn σ id [] fun whole=>zeg a whole p fun whole=>zg9 l (σ.setObj id (.cell whole)) k) none
   | _=>none)=some r:=by
   cases cv with
   | con=>exact absurd rfl hcv
   | row u=>exact h
   | dat u=>exact h
  split at h
  ·rename_i id q hx;obtain ⟨y,y',off,cc,e,hobj,h,hoff,hcell,htag,hsz,hall,hpart,hids⟩:=zjz hst.heap h;have hym:∀ m,σ.next≤m->m∉y'.ids:=fun m hm=>hids m ((hf m hm).cells id y hobj)
   cases hval:y'.val with
   | false=>rw [hval] at h;simp at h
   | true=>
    rw [hval] at h;simp only [cond_true] at h;obtain ⟨x',σ1,g1,h,hst1,hext1,hf1,ht⟩:=zqb hst hf hval hpart hym h;obtain ⟨z,z',off2,cc2,e2,hobj2,h,hoff2,hcell2,htag2,hsz2,hall2,hpart2,hids2⟩:=zjz hst1.heap h;have hcell3:=hcell2;have htag3:=htag2;obtain ⟨hz,hblk⟩:=ht.cells id z hobj2;rw [hobj] at hz;simp only [zI,Obj.cell.injEq] at hz;subst hz;rw [hblk,hcell] at hcell2;simp only [zI,Go.Obj.cells.injEq] at hcell2;obtain ⟨rfl,_,_⟩:=hcell2;simp only [Sk.off,zI,Prod.mk.injEq] at hoff2;obtain ⟨rfl,hzs⟩:=hoff2;have hz':AOK w g1 σ1.objs z' cc.toList:=by
     have hl:z'.sk.size=cc.toList.length:=by rw [←hzs,←hall2.len]
     rw [hl,z5l] at hpart2;exact hpart2
    rw [hzs,←ht.sk] at hoff;obtain ⟨w',hk,hws,hwok,hwids⟩:=zas ht.ok hz' hoff h;rw [zn3 _ _ _ (by rw [Array.length_toList];exact hsz)] at hwok;obtain ⟨σ2,g2,h2,hst2,hext2,hf2⟩:=ih (zy9 hst1 hobj2 (hws.trans hzs.symm) ⟨_,_,hcell3,htag3,hwok⟩)
     (fun m hm=>zrx (hf1 m hm) hobj2 (hwids m (hids2 m ((hf1 m hm).cells _ _ hobj2)) (ht.ids m hm))) hk
    exact ⟨σ2,g2,h2,hst2,hext1.trans hext2,hf2⟩
  ·simp at h
theorem z9b:(l:List (Nat×Option z1d×Conv))->{g:Ghost}->{σ:St}->{k:St->Option R}->StOK n g w a σ->z13 g σ->zg9 l σ k=some r->
  ∃ σ' g',k σ'=some r∧StOK n g' w a σ'∧Ext w g w g'∧z13 g' σ'
 | [],g,σ,k,hst,hf,h=>⟨σ,g,h,hst,Ext.refl w g,hf⟩
 | (i,none,cv) :: l,g,σ,k,hst,hf,h=>by
  simp only [zg9] at h;split at h
  ·rename_i x hx;obtain ⟨v,hv,hok⟩:=hst.slots i x hx
   cases hval:x.val with
   | false=>rw [hval] at h;simp at h
   | true=>
    rw [hval] at h;simp only [cond_true] at h;obtain ⟨hag,hn1,hn2,hn3⟩:=z2g hval;obtain ⟨cs,hcs,hmk⟩:=z4m hok hn3;obtain ⟨x',σ1,g1,h,hst1,hext1,hf1,ht⟩:=zqb hst hf hval hcs (hf.ids hx) h;obtain ⟨_,hm1,hm2,_⟩:=z2g ht.val;have hv1:VOK w g1 σ1.objs x' v:=z15 ht.ok (by rw [ht.agg];exact hmk) hm1 hm2;obtain ⟨σ2,g2,h2,hst2,hext2,hf2⟩:=z9b l (hst1.set hv hv1) (fun m hm=>(hf1 m hm).set i (ht.ids m hm)) h;exact ⟨σ2,g2,h2,hst2,hext1.trans hext2,hf2⟩
  ·simp at h
 | (i,some p,.con) :: l,g,σ,k,hst,hf,h=>by
  simp only [zg9,convC] at h;split at h
  ·rename_i id q hx;split at h
   ·exact z9b l hst hf h
   ·rename_i x _ ho
    cases hcon:(AVal.tup x).isCon with
    | false=>rw [hcon] at h;simp at h
    | true=>
    rw [hcon] at h;simp only [cond_true] at h;obtain ⟨g1,h1,h2,h2r,h3,h4⟩:=zv2 hst ho hcon;obtain ⟨σ2,g2,k1,k2,k3,k4⟩:=z9b l h1 (fun m hm=>h3 m (hf m hm)) h;exact ⟨σ2,g2,k1,k2,h2.trans k3,k4⟩
   ·simp at h
  ·simp at h
 | (i,some p,.row u) :: l,g,σ,k,hst,hf,h=>zm3 i p (.row u) l (fun {_ _ _} a b c=>z9b l a b c) (by simp) hst hf h
 | (i,some p,.dat u) :: l,g,σ,k,hst,hf,h=>zm3 i p (.dat u) l (fun {_ _ _} a b c=>z9b l a b c) (by simp) hst hf h
theorem zdp {cut:Cut} {k:List (Nat×AVal)->List Obj->Option R} (hst:StOK n g w a σ) (hf:z13 g σ) (h:zku cut σ k=some r) :
  ∃ sl os g',k sl os=some r∧StOK n g' w a (St.of sl os)∧Ext w g w g'∧z13 g' (St.of sl os):=by
 obtain ⟨σ1,g1,h,hst1,hext1,hf1⟩:=z9b cut.conv hst hf h;split at h
 ·rename_i l hl;obtain ⟨sl,os,g2,h2,hst2,hext2,hf2⟩:=zwp (z9o hl) hst1 h;exact ⟨sl,os,g2,h2,hst2,hext1.trans hext2,hf2⟩
 ·simp at h
theorem zc1 {cut:Cut} (hst:StOK n g w a σ) (hf:z13 g σ) (h:zyx cut σ k=some r) :
  ∃ σ' g',k σ'=some r∧StOK n g' w a σ'∧Ext w g w g'∧z13 g' σ':=by
 obtain ⟨sl,os,g',h1,h2,h3,h4⟩:=zdp hst hf h;exact ⟨_,g',h1,h2,h3,h4⟩
end
end Go.Kz
namespace Go.Kz
variable {R:Type}
def AExit.to:AExit->Exit
 | .normal=>.normal
 | .exit i=>.exit i
 | .ret=>.ret
def zos (s:Nat):List Oper->Bool
 | []=>false
 | o :: l=>(match o.dst with
  | some d=>Nat.beq d s
  | none=>false) || zos s l
def zaj (s:Nat):Code->Bool
 | .region _ ops _=>zos s ops.toList
 | .seq a b=>zaj s a || zaj s b
 | .cond _ a b=>zaj s a || zaj s b
 | .block _ b=>zaj s b
 | .loop b=>zaj s b
 | _=>false
theorem zjw {s:Nat}:{l:List Oper}->zos s l=false->∀ o∈l,o.dst≠some s
 | [],_,o,h=>by simp at h
 | x :: l,hw,o,h=>by
  simp only [zos,Bool.or_eq_false_iff] at hw;rcases List.mem_cons.1 h with rfl | h
  ·intro hd;have h1:=hw.1;rw [hd] at h1;simp only [Nat.beq_refl] at h1;cases h1
  ·exact zjw hw.2 o h
def Kept (b:Code) (a a':Act):Prop:=∀ s,zaj s b=false->a'.tmps[s]? = a.tmps[s]?
def Kont (n:Nat) (g:Ghost) (w:World) (k:AExit->St->Option R) (r:R) (F:Act->Prop) (Q:Exit->Act->World->Prop):Prop:=
 ∀ e σ' g' a' w',k e σ'=some r->StOK n g' w' a' σ'->Ext w g w' g'->z13 g' σ'->F a'->Q e.to a' w'
theorem Kont.later {n:Nat} {g g':Ghost} {w w':World} {k:AExit->St->Option R} {r:R} {F F':Act->Prop} {Q:Exit->Act->World->Prop} (h:Kont n g w k r F Q) (he:Ext w g w' g') (hF:∀ a,F' a->F a):Kont n g' w' k r F' Q:=
 fun e σ' g2 a' w2 hk hst hext hf hF'=>h e σ' g2 a' w2 hk hst (he.trans hext) hf (hF a' hF')
section
variable {P:Program} {c:Ctx}
theorem z4t (hc:CtxOK P c) (hm:P.follows .mixedOrders=true):(code:Code)->(∀ b∈z00 code,z0f c b)->{σ:St}->{g:Ghost}->{a:Act}->{w:World}->{k:AExit->St->Option R}->{r:R}->{Q:Exit->Act->World->Prop}->
  (∀ ch a w,¬ Q (.panic ch) a w)->z0q c code σ k=some r->StOK c.ntmps g w a σ->z13 g σ->Kont c.ntmps g w k r (Kept code a) Q->code.wp P Q a w
 | .skip,_,σ,g,a,w,k,r,Q,_,h,hst,hf,hk=>Go.wp_skip (hk .normal σ g a w h hst (Ext.refl _ _) hf (fun _ _=>rfl))
 | .region id ops draw,_,σ,g,a,w,k,r,Q,hQ,h,hst,hf,hk=>zsx hc hm hQ h hst hf (fun σ' g' a' w' h' hst' hext' hf' hkp=>hk .normal σ' g' a' w' h' hst' hext' hf' (fun s hs=>hkp s (zjw hs)))
 | .seq x y,hlo,σ,g,a,w,k,r,Q,hQ,h,hst,hf,hk=>by
  simp only [z0q] at h;refine wp_seq (z4t hc hm x (fun b hb=>hlo b (by simp [z00,hb])) (Q:=Exit.then (y.wp P Q) Q) hQ h hst hf ?_);intro e σ1 g1 a1 w1 h1 hst1 hext1 hf1 hkp1;have hy:∀ a',Kept y a1 a'->Kept (.seq x y) a a':=fun a' h s hs=>by
   simp only [zaj,Bool.or_eq_false_iff] at hs;rw [h s hs.2,hkp1 s hs.1]
  have hx:Kept (.seq x y) a a1:=fun s hs=>by
   simp only [zaj,Bool.or_eq_false_iff] at hs;exact hkp1 s hs.1
  cases e with
  | normal=>
   simp only [kSeq,kCut] at h1;show y.wp P Q a1 w1;split at h1
   ·obtain ⟨σ2,g2,h2,hst2,hext2,hf2⟩:=zc1 hst1 hf1 h1;exact z4t hc hm y (fun b hb=>hlo b (by simp [z00,hb])) hQ h2 hst2 hf2 (hk.later (hext1.trans hext2) hy)
   ·exact z4t hc hm y (fun b hb=>hlo b (by simp [z00,hb])) hQ h1 hst1 hf1 (hk.later hext1 hy)
  | exit i=>exact hk (.exit i) σ1 g1 a1 w1 h1 hst1 hext1 hf1 hx
  | ret=>exact hk .ret σ1 g1 a1 w1 h1 hst1 hext1 hf1 hx
 | .cond x p q,hlo,σ,g,a,w,k,r,Q,hQ,h,hst,hf,hk=>by
  simp only [z0q] at h;split at h
  ·rename_i t ht;have hv:=z7u (z1t hst ht).1;refine wp_cond hv ?_
   cases t with
   | true=>exact z4t hc hm p (fun b hb=>hlo b (by simp [z00,hb])) hQ h hst hf (hk.later (Ext.refl _ _) fun a' h s hs=>h s (by simp only [zaj,Bool.or_eq_false_iff] at hs;exact hs.1))
   | false=>exact z4t hc hm q (fun b hb=>hlo b (by simp [z00,hb])) hQ h hst hf (hk.later (Ext.refl _ _) fun a' h s hs=>h s (by simp only [zaj,Bool.or_eq_false_iff] at hs;exact hs.2))
  ·simp at h
 | .block id b,hlo,σ,g,a,w,k,r,Q,hQ,h,hst,hf,hk=>by
  simp only [z0q] at h;refine wp_block (z4t hc hm b (fun b' hb=>hlo b' (by simp [z00,hb])) (Q:=Exit.inBlock id Q) hQ h hst hf ?_);intro e σ1 g1 a1 w1 h1 hst1 hext1 hf1 hkp1;have hx:Kept (.block id b) a a1:=hkp1
  cases e with
  | normal=>exact hk .normal σ1 g1 a1 w1 h1 hst1 hext1 hf1 hx
  | exit i=>
   simp only [zz1] at h1;simp only [AExit.to,Exit.inBlock]
   cases hb:Nat.beq i id with
   | true=>
    rw [hb] at h1;rw [if_pos (zE hb)]
    exact hk .normal σ1 g1 a1 w1 h1 hst1 hext1 hf1 hx
   | false=>
    rw [hb] at h1;rw [if_neg (fun he=>by subst he;rw [Nat.beq_refl] at hb;simp at hb)]
    exact hk (.exit i) σ1 g1 a1 w1 h1 hst1 hext1 hf1 hx
  | ret=>exact hk .ret σ1 g1 a1 w1 h1 hst1 hext1 hf1 hx
 | .loop b,hlo,σ,g,a,w,k,r,Q,hQ,h,hst,hf,hk=>by
  simp only [z0q] at h;split at h
  ·rename_i rg hrg;split at h
   ·rename_i lv hlv;split at h
    ·rename_i L hL;obtain ⟨sl0,os0,g0,h,hst0,hext0,hf0⟩:=zdp hst hf h;have h:=hlo b (by simp [z00]) rg lv L hrg hlv hL R sl0 os0 k r h;refine wp_loop_rounds c.fuel ?_;have rounds:∀ (n:Nat) {sl:List (Nat×AVal)} {os:List Obj} {g1:Ghost} {a1:Act} {w1:World},zf0 (z0q c b) lv n sl os (zf4 c rg k)=some r->StOK c.ntmps g1 w1 a1 (St.of sl os)->z13 g1 (St.of sl os)->Ext w g w1 g1->Kept b a a1->Code.rounds P b Q n a1 w1:=by
      intro n
      induction n with
      | zero=>intro sl os g1 a1 w1 h;simp [zf0] at h
      | succ n ih=>
      intro sl os g1 a1 w1 h hst hf hext hkp;simp only [zf0] at h;rw [rounds_succ];refine z4t hc hm b (fun b' hb=>hlo b' (by simp [z00,hb])) (Q:=Exit.then (Code.rounds P b Q n) Q) hQ h hst hf ?_;intro e σ2 g2 a2 w2 h2 hst2 hext2 hf2 hkp2;have hx:Kept (.loop b) a a2:=fun s hs=>(hkp2 s hs).trans (hkp s hs)
      cases e with
      | normal=>
       obtain ⟨sl3,os3,g3,h3,hst3,hext3,hf3⟩:=zdp hst2 hf2 h2
       exact ih h3 hst3 hf3 ((hext.trans hext2).trans hext3) hx
      | exit i=>
       simp only [zf4] at h2;split at h2
       ·obtain ⟨σ3,g3,h3,hst3,hext3,hf3⟩:=zc1 hst2 hf2 h2;exact hk (.exit i) σ3 g3 a2 w2 h3 hst3 ((hext.trans hext2).trans hext3) hf3 hx
       ·simp at h2
      | ret=>
       simp only [zf4] at h2;obtain ⟨σ3,g3,h3,hst3,hext3,hf3⟩:=zc1 hst2 hf2 h2;exact hk .ret σ3 g3 a2 w2 h3 hst3 ((hext.trans hext2).trans hext3) hf3 hx
     exact rounds c.fuel h hst0 hf0 hext0 (fun _ _=>rfl)
    ·simp at h
   ·simp at h
  ·simp at h
 | .exit id,_,σ,g,a,w,k,r,Q,_,h,hst,hf,hk=>wp_exit (hk (.exit id) σ g a w h hst (Ext.refl _ _) hf (fun _ _=>rfl))
 | .ret,_,σ,g,a,w,k,r,Q,_,h,hst,hf,hk=>wp_ret (hk .ret σ g a w h hst (Ext.refl _ _) hf (fun _ _=>rfl))
 | .goto _,_,_,_,_,_,_,_,_,_,h,_,_,_=>by simp [z0q] at h
 | .label _,_,_,_,_,_,_,_,_,_,h,_,_,_=>by simp [z0q] at h
 | .scope _,_,_,_,_,_,_,_,_,_,h,_,_,_=>by simp [z0q] at h
 | .rangeFunc _ _ _ _,_,_,_,_,_,_,_,_,_,h,_,_,_=>by simp [z0q] at h
 | .refuse _,_,_,_,_,_,_,_,_,_,h,_,_,_=>by simp [z0q] at h
end
end Go.Kz
namespace Go.Kz
variable {R:Type}
def Ty.isChain:Ty->Bool
 | .pair _ _ | .unit=>true
 | _=>false
def Ty.exOK:Ty->Bool
 | .sl true t=>t.isRo
 | .pair a b=>a.exOK && b.exOK && b.isChain
 | t=>t.isRo
structure Shr (g:Ghost) (objs0:z1w) (g':Ghost) (objs':z1w) (ml:List (Option Nat)):Prop where
 sv:g'.sv=g.sv
 blk:g'.blk=g.blk
 objs:∀ i,objs' i=objs0 i∨objs' i=none
 tag:∀ b,g'.tag b=g.tag b∨(g'.tag b = .ro∧∃ id,objs0 id≠none∧objs' id=none∧some id∉ml∧((∃ p,g.tag b = .row id p)∨g.tag b = .box id))
 mv:∀ i,some i∈ml->objs0 i≠none∧objs' i=none
 nodup:(ml.filterMap id).Nodup
theorem Shrunk.shr {g g':Ghost} {o o':z1w} (h:Shrunk g o g' o'):Shr g o g' o' []:=by
 refine ⟨h.sv,h.blk,h.objs,fun b=>?_,fun i hi=>by simp at hi,by simp⟩;rcases h.tag b with e | ⟨e,id,h1,h2,h3⟩
 ·exact .inl e
 ·exact .inr ⟨e,id,h1,h2,by simp,h3⟩
theorem Shr.refl (g:Ghost) (objs:z1w):Shr g objs g objs []:=⟨rfl,rfl,fun _=>.inl rfl,fun _=>.inl rfl,fun i h=>by simp at h,by simp⟩
theorem Shr.nil (g:Ghost) (objs:z1w):Shr g objs g objs [none]:=⟨rfl,rfl,fun _=>.inl rfl,fun _=>.inl rfl,fun i h=>by simp at h,by simp⟩
theorem Shr.ro {g g':Ghost} {o o':z1w} {mv:List (Option Nat)} (h:Shr g o g' o' mv) (w:World):RoKept w g w g':=by
 refine ⟨fun b hb=>⟨?_,rfl⟩⟩;rcases h.tag b with e | ⟨e,_⟩
 ·rw [e,hb]
 ·exact e
theorem Shr.stays {g g':Ghost} {o o':z1w} {mv:List (Option Nat)} (h:Shr g o g' o' mv) (w:World) {id:Nat} (hid:o id=none∨o' id≠none∨some id∈mv):Same w g w g' id:=by
 have hno:∀ id',o id'≠none->o' id'=none->some id'∉mv->id'≠id:=by
  intro id' h1 h2 h3 he;subst he;rcases hid with h | h | h
  ·exact h1 h
  ·exact h h2
  ·exact h3 h
 refine ⟨⟨fun q=>by rw [h.sv],fun q b hb=>⟨?_,rfl⟩⟩,by rw [h.blk],fun hb=>⟨?_,rfl⟩⟩
 ·rcases h.tag b with e | ⟨_,id',h1,h2,h3,ht⟩
  ·rw [e,hb]
  ·rw [hb] at ht;rcases ht with ⟨p,ht⟩ | ht
   ·simp only [Tag.row.injEq] at ht;exact absurd ht.1.symm (hno id' h1 h2 h3)
   ·simp at ht
 ·rcases h.tag (g.blk id) with e | ⟨_,id',h1,h2,h3,ht⟩
  ·rw [e,hb]
  ·rw [hb] at ht;rcases ht with ⟨p,ht⟩ | ht
   ·simp at ht
   ·simp only [Tag.box.injEq] at ht;exact absurd ht.symm (hno id' h1 h2 h3)
theorem Shr.trans {g g' g'':Ghost} {o o' o'':z1w} {m1 m2:List (Option Nat)} (h:Shr g o g' o' m1) (k:Shr g' o' g'' o'' m2):Shr g o g'' o'' (m1++m2):=by
 have hback:∀ i,o' i≠Option.none->o i≠Option.none:=by
  intro i hi;rcases h.objs i with e | e
  ·rw [←e];exact hi
  ·exact absurd e hi
 have hfwd:∀ i,o' i=Option.none->o'' i=Option.none:=by
  intro i hi;rcases k.objs i with e | e
  ·rw [e];exact hi
  ·exact e
 refine ⟨k.sv.trans h.sv,k.blk.trans h.blk,fun i=>?_,fun b=>?_,fun i hi=>?_,?_⟩
 ·rcases k.objs i with e | e
  ·rw [e];exact h.objs i
  ·exact .inr e
 ·rcases k.tag b with e | ⟨e,id,h1,h2,h3,ht⟩
  ·rcases h.tag b with e2 | ⟨e2,id,h1,h2,h3,ht⟩
   ·exact .inl (e.trans e2)
   ·refine .inr ⟨e.trans e2,id,h1,hfwd id h2,fun hm=>?_,ht⟩;rcases List.mem_append.1 hm with hm | hm
    ·exact h3 hm
    ·exact absurd h2 (k.mv id hm).1
  ·rcases h.tag b with e2 | ⟨e2,_⟩
   ·rw [e2] at ht;refine .inr ⟨e,id,hback id h1,h2,fun hm=>?_,ht⟩;rcases List.mem_append.1 hm with hm | hm
    ·exact h1 (h.mv id hm).2
    ·exact h3 hm
   ·rw [e2] at ht;rcases ht with ⟨p,ht⟩ | ht <;> simp at ht
 ·rcases List.mem_append.1 hi with hi | hi
  ·exact ⟨(h.mv i hi).1,hfwd i (h.mv i hi).2⟩
  ·exact ⟨hback i (k.mv i hi).1,(k.mv i hi).2⟩
 ·rw [List.filterMap_append,List.nodup_append];refine ⟨h.nodup,k.nodup,fun a ha b hb=>?_⟩;have ha':some a∈m1:=by obtain ⟨x,hx,he⟩:=List.mem_filterMap.1 ha;simp at he;rw [←he];exact hx
  have hb':some b∈m2:=by obtain ⟨x,hx,he⟩:=List.mem_filterMap.1 hb;simp at he;rw [←he];exact hx
  intro he;subst he;exact (k.mv a hb').1 (h.mv a ha').2
theorem Shr.kept {w:World} {g g':Ghost} {o o':z1w} {mv:List (Option Nat)} (h:Shr g o g' o' mv) (id:Nat):z10 g g' id (o id) (o' id):=by
 rcases h.objs id with e | e
 ·rw [e];by_cases hn:o' id=Option.none
  ·left;rw [←e];exact hn
  ·exact z10.same (h.stays w (.inr (.inl hn)))
 ·exact .inl e
theorem Shr.heap {w:World} {g g':Ghost} {o o':z1w} {mv:List (Option Nat)} (h:Shr g o g' o' mv) (hh:HeapOK w g o):HeapOK w g' o':=by
 refine ⟨fun id x hx=>?_,fun b hb=>?_⟩
 ·have hid:o' id≠Option.none:=by rw [hx];simp
  have hx':o id=some x:=by
   rcases h.objs id with e | e
   ·rw [←e];exact hx
   ·exact absurd e hid
  exact z0z.frame (h.ro w) (h.stays w (.inr (.inl hid))) (fun a ha id' _=>h.kept (w:=w) id') (hh.objs id x hx')
 ·refine hh.tags b ?_;rcases h.tag b with e | ⟨e,id',_,_,_,ht⟩
  ·rw [←e];exact hb
  ·rcases ht with ⟨p,ht⟩ | ht <;> rw [ht] <;> simp
theorem Shr.ext {w:World} {g g':Ghost} {o o':z1w} {mv:List (Option Nat)} (h:Shr g o g' o' mv):Ext w g w g':=by
 refine ⟨rfl,rfl,rfl,Nat.le_refl _,Nat.le_refl _,fun b _ ht=>⟨rfl,?_⟩⟩;rcases h.tag b with e | ⟨_,id',_,_,_,h2⟩
 ·exact e
 ·rcases h2 with ⟨p,h2⟩ | h2 <;> rw [h2] at ht <;> simp at ht
theorem zxr {g:Ghost} {σ:St} {id:Nat} (hid:σ.objs id≠none):Shr g σ.objs g (σ.kill id).objs [some id]:=by
 refine ⟨rfl,rfl,(z34 (g:=g) (σ:=σ) id hid).objs,fun b=>.inl rfl,fun i hi=>?_,by simp⟩;simp only [List.mem_singleton,zI] at hi;subst hi;exact ⟨hid,by simp [St.kill,upd]⟩
structure Laid (w:World) (g:Ghost) (mv:List (Option Nat)) (G:Ghost) (base:Nat):Prop where
 ro:RoKept w g w G
 row:∀ j i,z0y mv j=some (some i)->Moved w g w G i [] (base+j) []
 nil:∀ j,z0y mv j=some none->G.sv (base+j) [] = .slice none 0 0
theorem z41 {α:Type}:(l m:List α)->(i:Nat)->z0y (l++m) i=if i < l.length then z0y l i else z0y m (i-l.length)
 | [],m,i=>by simp
 | x :: l,m,0=>by simp [z0y]
 | x :: l,m,i+1=>by simp [z0y,z41 l m i]
theorem Laid.left {w:World} {g g' G:Ghost} {o o':z1w} {m1 m2:List (Option Nat)} {base:Nat} (k:Shr g o g' o' m2) (hm:∀ i,some i∈m1->o i=none) (h:Laid w g' (m1++m2) G base):Laid w g m1 G base:=by
 refine ⟨⟨fun b hb=>h.ro.blk b ((k.ro w).blk b hb).1⟩,fun j i hj=>?_,fun j hj=>?_⟩
 ·have hlt:=z4f hj;have hx:=h.row j i (by rw [z41,if_pos hlt];exact hj);have hs:=k.stays w (.inl (hm i (z2n hj)));refine ⟨fun q=>(hx.sv q).trans (hs.row.sv q),fun q b hb=>?_⟩;exact hx.blk q b (hs.row.blk q b hb).1
 ·exact h.nil j (by rw [z41,if_pos (z4f hj)];exact hj)
theorem Laid.right {w:World} {g G:Ghost} {m1 m2:List (Option Nat)} {base:Nat} (h:Laid w g (m1++m2) G base):Laid w g m2 G (base+m1.length):=by
 refine ⟨h.ro,fun j i hj=>?_,fun j hj=>?_⟩
 ·have:=h.row (m1.length+j) i (by rw [z41,if_neg (by omega)];rw [Nat.add_sub_cancel_left];exact hj);rw [←Nat.add_assoc] at this;exact this
 ·have:=h.nil (m1.length+j) (by rw [z41,if_neg (by omega)];rw [Nat.add_sub_cancel_left];exact hj);rw [←Nat.add_assoc] at this;exact this
theorem zfl:(t:Ty)->(d:t.den)->(n:Nat)->t.isRo=true->z05 t d n=(.data t d,[])
 | .sl true t,l,n,h=>by simp [Ty.isRo] at h
 | .sl false t,l,n,_=>rfl
 | .int _,_,_,_=>rfl
 | .bool,_,_,_=>rfl
 | .str,_,_,_=>rfl
 | .unit,_,_,_=>rfl
 | .arr _ _,_,_,_=>rfl
 | .ptr _,_,_,_=>rfl
 | .fn _ _,_,_,_=>rfl
 | .pair a b,(x,y),n,h=>by simp only [z05,h,cond_true]
theorem z9a {w:World} {g:Ghost} {objs:z1w}:(t:Ty)->(d:t.den)->(n:Nat)->{cs:List Value}->t.isRo=true->t.isChain=true->t.exOK=true->Rep w g none t d cs->
  AOK w g objs (z05.exposeC t d n).1 cs∧(z05.exposeC t d n).2=[]
 | .unit,_,_,cs,_,_,_,h=>⟨h,rfl⟩
 | .pair a b,(x,y),n,cs,h,_,he,hr=>by
  obtain ⟨c1,c2,rfl,h1,h2⟩:=hr;simp only [Ty.isRo,zA] at h;simp only [Ty.exOK,zA] at he;have ha:=zfl a x n h.1;have hb:=fun n=>z9a (objs:=objs) b y n h.2 he.2 he.1.2 h2
  simp only [z05.exposeC,ha,List.length_nil,Nat.add_zero,List.nil_append]
  exact ⟨⟨c1,c2,rfl,⟨h.1,h1⟩,(hb n).1⟩,(hb n).2⟩
 | .int _,_,_,_,_,h,_,_=>by simp [Ty.isChain] at h
 | .bool,_,_,_,_,h,_,_=>by simp [Ty.isChain] at h
 | .str,_,_,_,_,h,_,_=>by simp [Ty.isChain] at h
 | .arr _ _,_,_,_,_,h,_,_=>by simp [Ty.isChain] at h
 | .sl _ _,_,_,_,_,h,_,_=>by simp [Ty.isChain] at h
 | .ptr _,_,_,_,_,h,_,_=>by simp [Ty.isChain] at h
 | .fn _ _,_,_,_,_,h,_,_=>by simp [Ty.isChain] at h
structure Exposed (w:World) (G:Ghost) (x:AVal×List Obj) (base:Nat) (cs:List Value):Prop where
 ok:∀ O,AOK w G O x.1 cs
 objs:∀ O j o,z0y x.2 j=some o->z0z w G O (base+j) o
theorem give_nv {R:Type} {n:Nat} {pt:Bool} {id:Nat} {p:z1d} {ep:Nat} {u:Ty} {σ:St} {k:u.den->St->Option R} {r:R} (h:z4d n (.nv pt id p ep) u σ k=some r):∃ v,u = .sl false v:=by
 cases n with
 | zero=>simp [z4d] at h
 | succ n=>
  cases pt with
  | true=>simp [z4d] at h
  | false=>
   cases p with
   | cons s q=>simp [z4d] at h
   | nil=>
    simp only [z4d] at h;split at h
    ·rename_i t l e i ho
     cases hb:Nat.beq e ep with
     | false=>rw [hb] at h;simp at h
     | true=>
      rw [hb] at h;simp only [cond_true] at h;split at h
      ·exact ⟨_,rfl⟩
      ·simp at h
    ·simp at h
theorem zdt {w:World}:(n:Nat)->{a:AVal}->{u:Ty}->{σ:St}->{g:Ghost}->{k:u.den->St->Option R}->{r:R}->{cs:List Value}->
  HeapOK w g σ.objs->AOK w g σ.objs a cs->u.exOK=true->z4d n a u σ k=some r->
  ∃ d σ' g' mv,k d σ'=some r∧σ'.slots=σ.slots∧σ'.next=σ.next∧Shr g σ.objs g' σ'.objs mv∧(∀ m,(z05 u d m).2.length=mv.length)∧
   (∀ G base,Laid w g' mv G base->Exposed w G (z05 u d base) base cs)∧
   (u.isChain=true->(∀ m,(z05.exposeC u d m).2.length=mv.length)∧∀ G base,Laid w g' mv G base->Exposed w G (z05.exposeC u d base) base cs)
 | 0,_,_,_,_,_,_,_,_,_,_,h=>by simp [z4d] at h
 | n+1,a,u,σ,g,k,r,cs,hh,hok,hu,h=>by
  have ro:∀ d σ' g',u.isRo=true->k d σ'=some r->σ'.slots=σ.slots->σ'.next=σ.next->Shr g σ.objs g' σ'.objs []->Rep w g' none u d cs->
    ∃ d σ' g' mv,k d σ'=some r∧σ'.slots=σ.slots∧σ'.next=σ.next∧Shr g σ.objs g' σ'.objs mv∧(∀ m,(z05 u d m).2.length=mv.length)∧
     (∀ G base,Laid w g' mv G base->Exposed w G (z05 u d base) base cs)∧
     (u.isChain=true->(∀ m,(z05.exposeC u d m).2.length=mv.length)∧∀ G base,Laid w g' mv G base->Exposed w G (z05.exposeC u d base) base cs):=by
   intro d σ' g' hro hk h1 h2 h3 hrep;refine ⟨d,σ',g',[],hk,h1,h2,h3,fun m=>by rw [zfl u d m hro];rfl,fun G base hl=>?_,fun hch=>⟨fun m=>?_,fun G base hl=>?_⟩⟩
   ·rw [zfl u d base hro];exact ⟨fun O=>⟨hro,hrep.kept hl.ro⟩,fun O j o hj=>by cases j <;> simp [z0y] at hj⟩
   ·rw [(z9a (w:=w) (objs:=fun _=>none) u d m hro hch hu hrep).2];rfl
   ·refine ⟨fun O=>(z9a u d base hro hch hu (hrep.kept hl.ro)).1,fun O j o hj=>?_⟩;rw [(z9a (w:=w) (objs:=fun _=>none) u d base hro hch hu hrep).2] at hj;cases j <;> simp [z0y] at hj
  cases hro:u.isRo with
  | true=>
   obtain ⟨d,σ',g',hk,h1,h2,h3,hrep⟩:=z58 (n+1) hh hok hro h
   exact ro d σ' g' hro hk h1 h2 h3.shr hrep
  | false=>
  cases a with
  | data t d=>
   simp only [z4d] at h;obtain ⟨rfl,h⟩:=z0r h
   rw [hok.1] at hro;simp at hro
  | nilS=>
   simp only [z4d] at h;obtain ⟨o,v,rfl,h⟩:=zaz h;have hok':cs=[.slice none 0 0]:=hok;subst hok'
   cases o with
   | false=>rw [show (Ty.sl false v).isRo=true from by simpa [Ty.exOK] using hu] at hro;simp at hro
   | true=>
    refine ⟨_,σ,g,[none],h,rfl,rfl,Shr.nil _ _,fun m=>rfl,fun G base hl=>?_,fun hch=>by simp [Ty.isChain] at hch⟩;have hsv:=hl.nil 0 rfl;refine ⟨fun O=>⟨_,rfl,rfl,fun t l e _=>⟨Nat.zero_le _,fun _=>hsv.symm⟩⟩,fun O j o hj=>?_⟩
    cases j with
    | succ j=>cases j <;> simp [z05,z0y] at hj
    | zero=>
     simp only [z05,z0y,zI] at hj;subst hj;refine ⟨hu,?_⟩;rw [hsv]
     exact ⟨none,0,rfl,hsv,Nat.le_refl _,Nat.zero_le _,.inl ⟨rfl,rfl,rfl⟩⟩
  | ref id p ep=>
   cases p with
   | cons s q=>simp [z4d] at h
   | nil=>
    simp only [z4d] at h;split at h
    ·rename_i t l e ho
     cases hb:Nat.beq e ep with
     | false=>rw [hb] at h;simp at h
     | true=>
      have he:e=ep:=zE hb;subst he;rw [hb] at h;simp only [cond_true] at h;obtain ⟨v,rfl,_,hv⟩:=hok;have hsv:=(hv _ _ _ ho).2 rfl;have hobj:=hh.objs id _ ho;split at h
      ·rename_i v' kk;obtain ⟨he,h⟩:=z0r h;simp only [Ty.sl.injEq,true_and] at he;subst he;refine ⟨_,σ.kill id,g,[some id],h,rfl,rfl,zxr (by rw [ho];simp),fun m=>rfl,fun G base hl=>?_,fun hch=>by simp [Ty.isChain] at hch⟩;have hm:=hl.row 0 id rfl;have hsv':=hm.sv [];simp only [List.append_nil] at hsv';refine ⟨fun O=>⟨_,rfl,?_,fun t l e _=>⟨Nat.zero_le _,fun _=>?_⟩⟩,fun O j o hj=>?_⟩
       ·obtain ⟨_,_,_,_,hx,_⟩:=hobj;rw [hsv,hx];rfl
       ·rw [hsv];exact hsv'.symm
       ·cases j with
        | succ j=>cases j <;> simp [z05,z0y] at hj
        | zero=>
         simp only [z05,z0y,zI] at hj;subst hj;refine ⟨hobj.1,?_⟩;have:=Rep.move hl.ro (o:=some (id,[])) (o':=some (base,[])) hm hobj.2;show Rep w G (some (base,[])) _ _ [G.sv base []];rw [show G.sv base []=g.sv id [] from hsv'];exact this
      ·rename_i v' kk;rw [show (Ty.sl false v').isRo=true from by simpa [Ty.exOK] using hu] at hro;simp at hro
      ·simp at h
    ·simp at h
  | bptr id p=>
   cases u with
   | ptr u=>rw [show (Ty.ptr u).isRo=true from hu] at hro;simp at hro
   | _=>cases p <;> simp [z4d] at h
  | clos f c=>
   cases u with
   | fn f' t=>rw [show (Ty.fn f' t).isRo=true from hu] at hro;simp at hro
   | _=>simp [z4d] at h
  | ifc t c=>simp [z4d] at h
  | agg c=>
   simp only [z4d] at h
   exact zdt n (a:=c) hh hok hu h
  | pr a b=>
   cases u with
   | pair t u=>
    simp only [z4d] at h;simp only [Ty.exOK,zA] at hu;obtain ⟨c1,c2,rfl,ha,hb⟩:=hok;obtain ⟨x,σ1,g1,mv1,hk1,h1,h2,h3,hl1,he1,_⟩:=zdt n hh ha hu.1.1 h;have hb':=AOK.frame (objs':=σ1.objs) (h3.ro w) (fun i _=>h3.kept (w:=w) i) hb;obtain ⟨y,σ2,g2,mv2,hk2,h4,h5,h6,hl2,he2,hc2⟩:=zdt n (h3.heap hh) hb' hu.1.2 hk1;obtain ⟨hcl2,hce2⟩:=hc2 hu.2;have hlenC:∀ m,(z05.exposeC (.pair t u) (x,y) m).2.length=(mv1++mv2).length:=fun m=>by
     simp only [z05.exposeC,List.length_append,hl1,hcl2]
    have hexC:∀ G base,Laid w g2 (mv1++mv2) G base->Exposed w G (z05.exposeC (.pair t u) (x,y) base) base (c1++c2):=fun G base hl=>by
     have e1:=he1 G base (hl.left h6 (fun i hi=>(h3.mv i hi).2));have e2:=hce2 G (base+mv1.length) hl.right;simp only [z05.exposeC];rw [hl1 base];refine ⟨fun O=>⟨c1,c2,rfl,e1.ok O,e2.ok O⟩,fun O j o hj=>?_⟩;rw [z41] at hj;split at hj
     ·exact e1.objs O j o hj
     ·rename_i hge;rw [hl1 base] at hj hge;have:=e2.objs O _ o hj;rw [show base+mv1.length+(j-mv1.length)=base+j from by omega] at this;exact this
    refine ⟨(x,y),σ2,g2,mv1++mv2,hk2,h4.trans h1,h5.trans h2,h3.trans h6,fun m=>?_,fun G base hl=>?_,fun _=>⟨hlenC,hexC⟩⟩
    ·simp only [z05];rw [hro];exact hlenC m
    ·simp only [z05];rw [hro]
     exact ⟨fun O=>(hexC G base hl).ok O,(hexC G base hl).objs⟩
   | _=>simp [z4d] at h
  | un=>
   cases u with
   | unit=>
    simp only [z4d] at h
    simp [Ty.isRo] at hro
   | _=>simp [z4d] at h
  | view id p ep x y=>cases u <;> simp [z4d] at h
  | eptr id p ep=>cases u <;> simp [z4d] at h
  | mref id=>cases u <;> simp [z4d] at h
  | nv pt id p ep=>
   obtain ⟨v',rfl⟩:=give_nv h
   rw [show (Ty.sl false v').isRo=true from by simpa [Ty.exOK] using hu] at hro;simp at hro
  | tup c=>exact hok.elim
end Go.Kz
