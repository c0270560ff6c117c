/-
  A call of a function that turns what it is given: the operation.
-/
import Derived.Test.YtnjfafnflbackaaKzYF
import Derived.Test.YtnjfafnflbackaaKzXD
import Derived.OrdersHeld
set_option linter.unusedVariables false
set_option linter.unusedSimpArgs false
namespace Go.Kz
variable {R:Type}
theorem zk4 {l:List (Nat×SPat)}:{an:List Nat}->zpd l an=true->∀ i∈an,∃ p,z12 l i=some p∧p.2.isVal=false
 | [],_,i,h=>by simp at h
 | j :: an,hk,i,h=>by
  simp only [zpd,zA] at hk;rcases List.mem_cons.1 h with rfl | h
  ·have h1:=hk.1;split at h1
   ·rename_i k p hp;exact ⟨_,hp,by simpa using h1⟩
   ·simp at h1
  ·exact zk4 hk.2 i h
section
variable {P:Program} {o:Oper} {a:Act} {w:World} {K:Act->World->Prop} {Q:Exit->Act->World->Prop} {c:Ctx} {σ:St} {g:Ghost} {k:St->Option R} {r:R} {base:Nat}
theorem zqq {w:World} {R:Type}:(p:APat)->(all:AVal)->{σ:St}->{g:Ghost}->{vals:List Value}->{k:AVal->St->Option R}->{r:R}->HeapOK w g σ.objs->z1o w g σ.objs all vals->z63 p all σ k=some r->
  ∃ all' σ' g',k all' σ'=some r∧σ'.slots=σ.slots∧σ'.next=σ.next∧Shrunk g σ.objs g' σ'.objs∧z1o w g' σ'.objs all' vals:=by
 intro p
 induction p with
 | pr p q _ ihq=>
  intro all σ g vals k r hh hv h
  cases p with
  | val t=>
   cases all with
   | pr a c=>
    simp only [z63] at h;obtain ⟨hb,h⟩:=z1l h;simp only [zA] at hb;obtain ⟨⟨hval,hro⟩,hsk⟩:=hb;simp only [z1o] at hv;obtain ⟨v,vs,rfl,hv1,hv2⟩:=hv;obtain ⟨cs,hcs,hmk,_⟩:=z28 hval hv1;obtain ⟨d,σ1,g1,hk1,h1,h2,h3,hrep⟩:=z5v 20 hh hcs hro h;have hv2':z1o w g1 σ1.objs c vs:=z1o.frame (h3.ro w) (fun id _=>h3.kept hh id) hv2;obtain ⟨all',σ2,g2,hk2,h4,h5,h6,hvs⟩:=ihq c (h3.heap hh) hv2' hk1;refine ⟨_,σ2,g2,hk2,h4.trans h1,h5.trans h2,h3.trans h6,?_⟩;simp only [z1o];refine ⟨v,vs,rfl,?_,hvs⟩;have hag:=(z2t hval).1;rw [hag,Sk.same_eq hsk] at hmk;simp only [VOK]
    exact ⟨cs,⟨hro,Rep.kept (h6.ro w) hrep⟩,hmk⟩
   | _=>simp [z63] at h
  | _=>simp [z63] at h
 | un=>
  intro all σ g vals k r hh hv h
  cases all with
  | un=>exact ⟨.un,σ,g,by simpa [z63] using h,rfl,rfl,.refl _ _,hv⟩
  | _=>simp [z63] at h
 | _=>intro all σ g vals k r hh hv h;simp [z63] at h
theorem callM_fn {σ:St} {n fid:Nat} {all:AVal} {f:AVal->St->Option R} {r:R} (h:zut c σ n (.clos fid .un) all f=some r) (hu:z4x all .un=all):(match zbv all (c.env fid) with
   | some (.pure p res F)=>zez σ n all p res F f
   | some (.mut fin anch fout F)=>mutK σ n all fin anch fout F f
   | none=>none)=some r:=by
 unfold zut at h;simp only [z5k,z6t,cond_true,hu] at h;split at h <;> simp_all
theorem zy1 {n:Nat} {σ:St} {i:Nat} {x:AVal} (hst:StOK n g w a σ) (ho:σ.objs i=some (.cell x)) (hcon:(AVal.tup x).isCon=true) :
  ∃ g',StOK n g' w a (σ.setObj i (.cell (.tup x)))∧Ext w g w g'∧RoKept w g w g'∧(∀ m,Fresh g σ m->Fresh g' (σ.setObj i (.cell (.tup x))) m)∧
   ∀ j,z15 g g' j (σ.objs j) ((σ.setObj i (.cell (.tup x))).objs j):=by
 obtain ⟨c,e,h1,h2,h3⟩:=(hst.heap.objs i _ ho).out (zqp hcon);let g':Ghost:={ g with tag:=fun b=>if b=g.blk i then .ro else g.tag b };have hro:RoKept w g w g':=⟨fun b hb=>⟨by simp only [g'];split <;> first | rfl | exact hb,rfl⟩⟩;have hsame:∀ j,j≠i->Same w g w g' j:=fun j hj=>by
  refine ⟨⟨fun q=>rfl,fun q b hb=>⟨?_,rfl⟩⟩,rfl,fun hb=>⟨?_,rfl⟩⟩
  ·simp only [g'];rw [if_neg (fun he=>by subst he;rw [h2] at hb;simp at hb)];exact hb
  ·simp only [g'];rw [if_neg (fun he=>by rw [he,h2] at hb;simp only [Tag.box.injEq] at hb;exact hj hb.symm)];exact hb
 have hki:z15 g g' i (σ.objs i) (some (.cell (.tup x))):=.inr (.inr (.inl ⟨_,_,ho,rfl,rfl,rfl⟩));have hk:∀ j,z15 g g' j (σ.objs j) ((σ.setObj i (.cell (.tup x))).objs j):=by
  intro j;by_cases hj:j=i
  ·subst hj;simp only [St.setObj,z0j];exact hki
  ·simp only [St.setObj];rw [z0k _ _ hj];exact z15.same (hsame j hj)
 refine ⟨g',hst.turn hro hsame (.inl hki) ((z14.con hcon).2 ⟨c,e,h1,by simp [g'],AOK.frame hro (fun j _=>hk j) h3⟩) (fun b hb=>?_),?_,hro,fun m hm=>?_,hk⟩
 ·simp only [g'] at hb;split at hb
  ·rename_i he;subst he;exact hst.heap.tags _ (by rw [h2];simp)
  ·exact hst.heap.tags b hb
 ·refine ⟨rfl,rfl,rfl,Nat.le_refl _,Nat.le_refl _,fun b _ hb=>⟨rfl,?_⟩⟩;simp only [g'];rw [if_neg (fun he=>by subst he;rw [h2] at hb;simp at hb)]
 ·have hmi:m≠i:=fun he=>by subst he;have:=hm.objs;rw [ho] at this;simp at this
  refine ⟨by simp only [St.setObj];rw [z0k _ _ hmi];exact hm.objs,fun b p hb=>?_,fun b hb=>?_,hm.slots,fun j av hj=>?_⟩
  ·simp only [g'] at hb;split at hb
   ·simp at hb
   ·exact hm.row b p hb
  ·simp only [g'] at hb;split at hb
   ·simp at hb
   ·exact hm.box b hb
  ·by_cases hji:j=i
   ·subst hji;simp only [St.setObj,z0j,zI,Obj.cell.injEq] at hj;subst hj;have:=hm.cells j _ ho;simpa [AVal.ids] using this
   ·simp only [St.setObj] at hj;rw [z0k _ _ hji] at hj;exact hm.cells j av hj
theorem zqy {n:Nat}:(os:List SObj)->(is:List Nat)->{σ:St}->{g:Ghost}->{k:St->Option R}->{r:R}->StOK n g w a σ->zyt os is σ k=some r->
  ∃ σ' g',k σ'=some r∧StOK n g' w a σ'∧Ext w g w g'∧RoKept w g w g'∧(∀ m,Fresh g σ m->Fresh g' σ' m)∧σ'.next=σ.next∧∀ al vs,z1o w g σ.objs al vs->z1o w g' σ'.objs al vs
 | [],is,σ,g,k,r,hst,h=>⟨σ,g,by cases is <;> simpa [zyt] using h,hst,Ext.refl w g,⟨fun b hb=>⟨hb,rfl⟩⟩,fun m hm=>hm,rfl,fun _ _ h=>h⟩
 | o :: os,[],σ,g,k,r,hst,h=>⟨σ,g,by cases o <;> simpa [zyt] using h,hst,Ext.refl w g,⟨fun b hb=>⟨hb,rfl⟩⟩,fun m hm=>hm,rfl,fun _ _ h=>h⟩
 | o :: os,i :: is,σ,g,k,r,hst,h=>by
  have plain:zyt os is σ k=some r->∃ σ' g',k σ'=some r∧StOK n g' w a σ'∧Ext w g w g'∧RoKept w g w g'∧(∀ m,Fresh g σ m->Fresh g' σ' m)∧σ'.next=σ.next∧∀ al vs,z1o w g σ.objs al vs->z1o w g' σ'.objs al vs:=fun h=>zqy os is hst h
  cases o with
  | con p=>
   simp only [zyt] at h;split at h
   ·rename_i x ho
    cases hcon:(AVal.tup x).isCon with
    | false=>rw [hcon] at h;exact plain h
    | true=>
    rw [hcon] at h;simp only [cond_true] at h;obtain ⟨g1,h1,h2,h2r,h3,h4⟩:=zy1 hst ho hcon;obtain ⟨σ',g',k1,k2,k3,k3r,k4,k5,k6⟩:=zqy os is h1 h;exact ⟨σ',g',k1,k2,h2.trans k3,⟨fun b hb=>let z:=k3r.blk b (h2r.blk b hb).1;⟨z.1,rfl⟩⟩,fun m hm=>k4 m (h3 m hm),k5,fun al vs hv=>k6 al vs (z1o.frame h2r (fun j _=>h4 j) hv)⟩
   ·exact plain h
  | row _=>exact plain h
  | cell _=>exact plain h
  | map _ _=>exact plain h
  | nest _=>exact plain h
  | iter _=>exact plain h
theorem zry:(l:List SObj)->(d:zhv l)->{j:Nat}->{o:SObj}->z12 l j=some o->∃ e:o.den,z12 (z96 l d) j=some (o.mk e)
 | o :: l,d,0,o',h=>by
  simp only [z12,zI] at h;subst h
  exact ⟨d.1,rfl⟩
 | o :: l,d,j+1,o',h=>zry l d.2 h
 | [],_,j,o',h=>by cases j <;> simp [z12] at h
theorem zh6 {so:z2c} {ids:List Nat} {g gc:Ghost} {w w':World} {xx:Bool} {fo:List SObj} {fd:zhv fo} (hh:HeapOK w g so) (hext:Ext w (z30 xx g ids) w' gc) (hheap:HeapOK w' gc (z12 (z96 fo fd)))
  (hren:∀ id o,id∈ids->so id=some o->∃ o',o.ren so (fun i=>z1e i ids 0)=some o') :
  (l:Bnd)->{b b':Bnd}->conB so ids fo l b=some b'->(∀ j id,z1v b j=some id->zej g gc (z12 (z96 fo fd)) so j id)->∀ j id,z1v b' j=some id->zej g gc (z12 (z96 fo fd)) so j id
 | [],b,b',h,hI=>by
  simp only [conB,zI] at h
  subst h;exact hI
 | (j,_) :: l,b,b',h,hI=>by
  simp only [conB] at h;split at h
  ·rename_i id hj;split at h
   ·rename_i q x hq ho;have hm:=(z1l h).1;replace h:=(z1l h).2;simp only [zA] at hm;obtain ⟨hm,hcon⟩:=hm;split at h
    ·rename_i b1 hb1;obtain ⟨d,hd⟩:=zry fo fd hq;have hcon':(AVal.tup (q.mk d)).isCon=true:=by
      unfold anchV at hb1;split at hb1
      ·rfl
      ·rfl
      ·simp at hb1
     obtain ⟨c,e,h1,h2,h3⟩:=(z14.con hcon).1 (hh.objs id _ ho);obtain ⟨c',e',k1,k2,k3⟩:=(z14.con hcon').1 (hheap.objs j _ hd);have hblk:=(hI j id hj).2.1 _ hd _ ho;rw [hblk] at k1;have hlt:=hh.tags (g.blk id) (by rw [h2];simp);have hkeep:=(hext.keep (g.blk id) hlt (.inr ((zes (w:=w) (x:=xx)).blk _ ((z94 (w:=w) (ids:=ids)).blk _ h2).1).1)).1;rw [hkeep,h1] at k1;simp only [zI,Go.Obj.cells.injEq] at k1;obtain ⟨rfl,_⟩:=k1;obtain ⟨o',hr⟩:=hren id _ (z27.1 hm) ho;simp only [Obj.ren,z9k,Option.map_eq_some_iff] at hr;obtain ⟨y1,⟨y2,hr,_⟩,_⟩:=hr;unfold anchV at hb1;split at hb1
     ·simp only [AVal.ren,Option.map_eq_some_iff] at hr;obtain ⟨y3,hr,_⟩:=hr;exact zh6 hh hext hheap hren l h (zte hb1 h3 hr k3 hI)
     ·exact zh6 hh hext hheap hren l h (zf2 hb1 (z19 h3 rfl (by simp) (by simp)) hr (z19 k3 rfl (by simp [SPat.mk]) (by simp [SPat.mk])) hI)
     ·simp at hb1
    ·simp at h
   ·exact zh6 hh hext hheap hren l h hI
  ·exact zh6 hh hext hheap hren l h hI
theorem op_mutG {fid:Nat} {all:AVal} {vals:List Value} {fin:SForm} {anch:List Nat} {fout:SForm} {F:fin.den->Option fout.den} (hco:z03 P fid (.mut fin anch fout F))
  (hrun:(execOp a.eval o).run P w=(callFunc fid vals.toArray).run P w) (hall:z1o w g σ.objs all vals) (hst:StOK c.ntmps g w a σ) (hfr:∀ m,base≤m->m < base+8->Fresh g σ m)
  (h:(cond (z4b all && znj fin.slots 0 && zpd fin.slots anch && (zc4 fin.slots all || (z8u fout.slots && zcc fout.objs)) && Nat.ble fout.objs.length 8)
  (match (zr8 σ.objs all anch fout.slots []).bind fun b=>conB σ.objs (z52 σ.objs 100 (z7f fin.slots all) []) fout.objs b b with
   | some b=>mutIn σ all fin (z52 σ.objs 100 (z7f fin.slots all) []) fun d=>(F d).bind fun r=>zwf σ base (z52 σ.objs 100 (z7f fin.slots all) []) b anch fout r fun v σ=>σ.putK c o.dst v k
   | none=>none) none)=some r) (hK:z79 c.ntmps k r g w σ base true K):o.wp P a w K Q:=by
 replace h:=z1l h;obtain ⟨hb,h⟩:=h;simp only [zA,Bool.or_eq_true] at hb;obtain ⟨⟨⟨⟨hval,hkeys⟩,hanch⟩,hflat⟩,hlen⟩:=hb;have hlen:=zL hlen;split at h
 ·rename_i b hbnd;obtain ⟨b0,hb0,hb1⟩:=Option.bind_eq_some_iff.1 hbnd;generalize hids:z52 σ.objs 100 (z7f fin.slots all) []=ids at h hb1;have hnd:ids.Nodup:=by rw [←hids];exact z6z _ _ _ (by simp)
  unfold mutIn at h;split at h
  ·rename_i os hos;obtain ⟨hol,hog⟩:=z93 hos;have hro:RenObjs σ.objs ids os:=⟨hol,hog⟩;obtain ⟨xx,hxx,hxf⟩:∃ xx:Bool,(xx=true∨zc4 fin.slots all=true)∧(xx=false∨(z8u fout.slots=true∧zcc fout.objs=true)):=by
    rcases hflat with hf | hf
    ·exact ⟨false,.inr hf,.inl rfl⟩
    ·exact ⟨true,.inl rfl,.inr hf⟩
   obtain ⟨d,h,hsl,hren,hvl⟩:=zj0 (x:=xx) hnd hro hst.heap fin.slots hkeys hval hxx hall h;obtain ⟨e,he,h9⟩:=z89 fin.objs h;subst he;simp only [Option.bind_eq_some_iff] at h9;obtain ⟨rv,hF,h8⟩:=h9;replace h:=h8;have hobj:∀ j o',z12 (z96 fin.objs e) j=some o'->z14 w (z95 g ids) (z12 (z96 fin.objs e)) j o'∧∀ y,o' = .cell y->∀ m∈y.ids,m < ids.length:=by
    intro j o' hj;obtain ⟨i,hi⟩:=z7s (l:=ids) (i:=j) (by rw [←hol];exact z4o hj);obtain ⟨o,o2,h1,h2,h3⟩:=hog j i hi;rw [hj] at h3;simp only [zI] at h3;subst h3;exact zvp hnd hro hi h2 (hst.heap.objs i o h1)
   have hol':fin.objs.length=ids.length:=by rw [←hol,zen]
   have hent:StOK vals.length (z30 xx g ids) w ⟨vals.toArray,[]⟩ (St.of (z84 fin.slots d) (z96 fin.objs e)):=by
    refine ⟨fun i av hi=>?_,⟨fun j o' hj=>?_,fun bb hbb=>hst.heap.tags bb (zqj hbb)⟩,by simp,rfl,(hst.known.kept z94).kept zes⟩
    ·obtain ⟨_,v,h2,h3,_⟩:=hsl i av hi;exact ⟨v,by simpa using h2,h3⟩
    ·exact z14.frame zes (zj5 j) (fun _ _ id' _=>zj6 id' _) (hobj j o' hj).1
   have hfree:∀ m,fin.objs.length≤m->Fresh (z30 xx g ids) (St.of (z84 fin.slots d) (z96 fin.objs e)) m:=by
    intro m hm;rw [hol'] at hm;refine ⟨?_,fun bb p hbb=>?_,fun bb hbb=>?_,fun i av hi hmem=>?_,fun j y hj hmem=>?_⟩
    ·exact znb (by rw [zen,hol'];exact hm)
    ·have:=zsf (.inl ⟨p,hbb⟩);omega
    ·have:=zsf (.inr hbb);omega
    ·obtain ⟨_,v,_,_,h4⟩:=hsl i av hi;have:=h4 m hmem;omega
    ·have:=(hobj j _ hj).2 y rfl m hmem;omega
   have hout:∀ v w',(∃ g',Ext w (z30 xx g ids) w' g'∧HeapOK w' g' (z12 (z96 fout.objs rv.2))∧
     (∀ k i av,z12 anch k=some i->z12 ((z84 fout.slots rv.1).map Prod.snd) k=some av->∃ u,vals[i]? = some u∧VOK w' g' (z12 (z96 fout.objs rv.2)) av u)∧
     VOK w' g' (z12 (z96 fout.objs rv.2)) (z6g (z81 anch.length ((z84 fout.slots rv.1).map Prod.snd))) v)->K (a.put o.dst v) w':=by
    intro v w' ⟨gc,hext,hheap,hex,hres⟩;unfold zwf at h;split at h
    ·rename_i os' vs hos' hvs;replace h:=z1l h;obtain ⟨hb2,h⟩:=h;simp only [zA] at hb2;have hid0:=ztd (so:=σ.objs) (g:=g) (gc:=gc) (w:=w) (w':=w') (oc:=z12 (z96 fout.objs rv.2)) (ρ:=fun i=>z1e i ids 0) (vs:=vals) rfl anch fout.slots rv.1 hb0 (fun i hi av hav=>by
      obtain ⟨p,hp1,hp2⟩:=zk4 hanch i hi;obtain ⟨u,hu1,hu2,_⟩:=zcr hall hav;refine ⟨hren i av p hav hp1 hp2,fun u' hu'=>?_⟩;rw [hu1] at hu';simp only [zI] at hu';subst hu';exact hu2) hex (fun j id hj=>by simp [z1v] at hj)
     have hid:=zh6 (fd:=rv.2) hst.heap hext hheap (fun id o hid ho=>by
      obtain ⟨j,hj,he⟩:=List.mem_iff_getElem.1 hid;obtain ⟨o1,o2,h1,h2,_⟩:=hog j id (by rw [z8c,List.getElem?_eq_getElem hj,he]);rw [ho] at h1;simp only [zI] at h1;subst h1;exact ⟨o2,h2⟩) b0 hb1 hid0
     have H:Behind w g σ base xx ids b fout rv os' w' gc:=⟨hext,hheap,hid,hos',hb2.1,hb2.2,hfr,hlen,hxf,fun i hi=>by
      obtain ⟨j,hj,he⟩:=List.mem_iff_getElem.1 hi;obtain ⟨o1,_,h1,_⟩:=hog j i (by rw [z8c,List.getElem?_eq_getElem hj,he]);rw [h1];simp⟩
     refine done_K (w:=w) (g:=g) (H.ok hst) (ztb hext) (fun m hm hf=>⟨H.free hm hf,fun hmem=>?_⟩) rfl ?_ h (fun hh=>by simp at hh) hK
     ·exact H.notM hm hf (zil _ _ hvs m (zjy _ _ m (ztz _ m hmem)))
     ·exact zik H.bk anch.length fout.slots rv.1 (H.carry.imp _root_.id fun h=>h.1) hvs hres
    ·simp at h
   rcases hco w (z30 xx g ids) (d,e) vals rv hvl hent hfree hF with ⟨hr1,hr2⟩ | ⟨v,w',hr1,hr2⟩
   ·unfold Oper.wp;rw [hrun,hr1,Oper.upon_enter];refine Calls.mono hr2 (fun e' w' he=>?_);obtain ⟨v,rfl,hv⟩:=he;exact hout v w' hv
   ·unfold Oper.wp;rw [hrun,hr1,Oper.upon_value];exact hout v w' hr2
  ·simp at h
 ·simp at h
theorem zn3 (henv:zpm P c.env) {fid:Nat} {all:AVal} {vals:List Value} (hrun:(execOp a.eval o).run P w=(callFunc fid vals.toArray).run P w) (hall:z1o w g σ.objs all vals)
  (hst:StOK c.ntmps g w a σ) (hfr:∀ m,base≤m->m < base+8->Fresh g σ m)
  (h:(match zbv all (c.env fid) with
   | some (.pure p res F)=>zez σ base all p res F fun v σ=>σ.putK c o.dst v k
   | some (.mut fin anch fout F)=>mutK σ base all fin anch fout F fun v σ=>σ.putK c o.dst v k
   | none=>none)=some r) (hK:z79 c.ntmps k r g w σ base true K):o.wp P a w K Q:=by
 split at h
 ·rename_i p res F hpick;have hco:=henv fid _ (zbu hpick);unfold zez at h
  cases hb:(zb8 res || z6k all) with
  | true=>
   rw [hb] at h
   exact zkw hco hrun hall hst hfr h hK
  | false=>
   rw [hb] at h;obtain ⟨all',σ1,g1,hk1,h1,h2,h3,hvs⟩:=zqq p all hst.heap hall h;refine zkw (mo:=true) hco hrun hvs (h3.st h1 hst) (fun m hm1 hm2=>h3.fresh h1 (hfr m hm1 hm2)) hk1 ?_;intro σ' g' a' w' hk' hst' hext hfr' hn' hag;exact hK σ' g' a' w' hk' hst' (h3.ext.trans hext) (fun m hm hf=>hfr' m hm (h3.fresh h1 hf)) (hn'.trans h2) hag
 ·rename_i fin anch fout F hpick;have hco:=henv fid _ (zbu hpick);unfold mutK at h;obtain ⟨σ0,g0,h0,hst0,hext0,_,hfr0,hnx0,hvs0⟩:=zqy _ _ hst h;clear h;have hK0:z79 c.ntmps k r g0 w σ0 base true K:=by
   intro σ' g' a' w' hk' hst' hext' hfr' hn' hag;exact hK σ' g' a' w' hk' hst' (hext0.trans hext') (fun m hm hf=>hfr' m hm (hfr0 m hf)) (hn'.trans hnx0) hag
  exact op_mutG hco hrun (hvs0 _ _ hall) hst0 (fun m h1 h2=>hfr0 m (hfr m h1 h2)) h0 hK0
 ·simp at h
theorem zzv (henv:zpm P c.env) {cl:Call} {x:Operand} (ho:o.op = .call cl) (hcl:cl.callee = .value x)
  (hst:StOK c.ntmps g w a σ) (hfr:∀ m,base≤m->m < base+8->Fresh g σ m) {gv args:AVal} (hx:ev σ x=some gv) (hargs:evs σ cl.args.toList=some args)
  (h:(zut c σ base gv args fun v σ=>σ.putK c o.dst v k)=some r) (hK:z79 c.ntmps k r g w σ base true K):o.wp P a w K Q:=by
 obtain ⟨eg,_⟩:=z24 hst hx;obtain ⟨ea,_⟩:=ze5 hst hargs;unfold zut at h;split at h
 ·rename_i fid all hcallee;obtain ⟨us,hfv,hall⟩:=zp2 eg ea hcallee;refine zn3 henv (fid:=fid) (all:=all) (vals:=(cl.args.toList.map a.eval)++us) ?_ hall hst hfr h hK;have e1:cl.args.map a.eval=(cl.args.toList.map a.eval).toArray:=by apply Array.toList_inj.1;rw [Array.toList_map]
  simp [execOp,ho,resolve,hcl,hfv,Deferred.ofValue,invoke,e1]
 ·simp at h
theorem opM_Y {q:Bool} {n:Nat} (hy:isY o=true):opM q c σ n o k=opK c σ n o k:=by
 unfold opM;split
 ·rename_i ho;simp [isY,zb3,ho] at hy
 ·rename_i ho;simp [isY,zb3,ho] at hy
 ·rename_i ho;simp [isY,zb3,ho] at hy
 ·rename_i ho;simp [isY,zb3,ho] at hy
 ·rename_i ho;simp [isY,zb3,ho] at hy
 ·rfl
theorem opM_ok {q:Bool} (hc:CtxOK P c) (hst:StOK c.ntmps g w a σ) (hfr:∀ m,base≤m->m < base+8->Fresh g σ m) (h:opM q c σ base o k=some r) (hK:z79 c.ntmps k r g w σ base (zlz q o) K):o.wp P a w K Q:=by
 have hK':z79 c.ntmps k r g w σ base (isM o) K:=by
  intro σ' g' a' w' h1 h2 h3 h4 h5 h6;refine hK σ' g' a' w' h1 h2 h3 h4 h5 fun hm=>h6 ?_
  cases q with
  | false=>exact hm
  | true=>
   simp only [zlz,cond_true,Bool.or_eq_false_iff] at hm;exact hm.1
 unfold opM at h;split at h
 ·rename_i x args ts ho
  cases q with
  | false=>exact zqb hc hst hfr h hK'
  | true=>
   simp only [cond_true] at h;split at h
   ·rename_i gv av hx ha;refine zzv hc.env ho rfl hst hfr hx ha h ?_;intro σ' g' a' w' h1 h2 h3 h4 h5 _;exact hK σ' g' a' w' h1 h2 h3 h4 h5 (fun hh=>by simp [zlz,znm,ho] at hh)
   ·simp at h
 ·rename_i x nm args ts ho
  cases q with
  | false=>exact zqb hc hst hfr h hK'
  | true=>
   simp only [cond_true] at h;split at h
   ·rename_i xv av hx ha;obtain ⟨fid,all,vals,hrun,hall,hu,h⟩:=zwy hc.tt hc.ms (nm:=nm) (ts:=ts) ho hst hx ha h;refine zn3 hc.env hrun hall hst hfr (callM_fn h hu) ?_;intro σ' g' a' w' h1 h2 h3 h4 h5 _;exact hK σ' g' a' w' h1 h2 h3 h4 h5 (fun hh=>by simp [zlz,znm,ho] at hh)
   ·simp at h
 ·rename_i t x ho
  cases q with
  | false=>exact zqb hc hst hfr h hK'
  | true=>
   simp only [cond_true] at h;split at h
   ·rename_i av hx;exact zzq hc.mt ho hst (hfr base (Nat.le_refl _) (by omega)) hx h hK
   ·simp at h
 ·rename_i x ho
  cases q with
  | false=>exact zqb hc hst hfr h hK'
  | true=>
   simp only [cond_true] at h;split at h
   ·rename_i av hx;refine op_next (base:=base) ho hst hx h ?_;intro σ' g' a' w' h1 h2 h3 h4 h5 _;exact hK σ' g' a' w' h1 h2 h3 h4 h5 (fun hh=>by simp [zlz,znm,ho] at hh)
   ·simp at h
 ·rename_i x ho
  cases q with
  | false=>exact zqb hc hst hfr h hK'
  | true=>
   simp only [cond_true] at h;split at h
   ·rename_i av hx;refine zzt (base:=base) ho hst hx h ?_;intro σ' g' a' w' h1 h2 h3 h4 h5 _;exact hK σ' g' a' w' h1 h2 h3 h4 h5 (fun hh=>by simp [zlz,znm,ho] at hh)
   ·simp at h
 ·exact zqb hc hst hfr h hK'
end
end Go.Kz
namespace Go.Kz
variable {R:Type}
section
variable {P:Program} {ops:Array Oper} {Q:Exit->Act->World->Prop} {q:Bool}
theorem zuf {q:Bool} {o:Oper} (h:zlz q o=false):zlz false o=false:=by
 cases q with
 | false=>exact h
 | true=>
  simp only [zlz,cond_true,Bool.or_eq_false_iff] at h;exact h.1
def z2b (q:Bool) (P:Program) (ops:Array Oper) (Q:Exit->Act->World->Prop) (o:Oper) (K:Act->World->Prop) (a:Act) (w:World):Prop:=
 if Region.wanted o (yielded ops a.tmps)=true then
  (isY o=true∧∃ v,(∀ w',AgP o w w'->(execOp a.eval o).run P w' = .ok (.value v) w')∧K (a.put o.dst v) w)∨
  (isY o=false∧o.wp P a w (fun a' w'=>(zlz q o=false->z44 w w')∧K a' w') Q)
 else K (a.put o.dst undef) w
def wpL (q:Bool) (P:Program) (ops:Array Oper) (Q:Exit->Act->World->Prop) (K:Act->World->Prop):List (Nat×Oper)->Act->World->Prop
 | [],a,w=>K a w
 | (_,o) :: l,a,w=>z2b q P ops Q o (wpL q P ops Q K l) a w
theorem zi7 {K:Act->World->Prop}:(l m:List (Nat×Oper))->wpL q P ops Q K (l++m)=wpL q P ops Q (wpL q P ops Q K m) l
 | [],m=>rfl
 | (i,o) :: l,m=>by
  funext a w;simp only [List.cons_append,wpL,zi7 l m]
def zpi (l:List (Nat×Oper)) (a a':Act):Prop:=∀ i,(∀ x∈l,x.2.dst≠some i)->a'.tmps[i]? = a.tmps[i]?
theorem Oper.wp_put {o:Oper} {a:Act} {w:World} {K:Act->World->Prop} (h:o.wp P a w K Q) :
  o.wp P a w (fun a' w'=>(∀ i,o.dst≠some i->a'.tmps[i]? = a.tmps[i]?)∧K a' w') Q:=by
 have hput:∀ (b:Act) (v:Value),b.tmps=a.tmps->∀ i,o.dst≠some i->(b.put o.dst v).tmps[i]? = a.tmps[i]? := by
  intro b v hb i hi;rw [zd0,if_neg (fun h=>hi h.1),hb]
 unfold Oper.wp at *;generalize (execOp a.eval o).run P w=x at *
 cases x with
 | ok n w'=>
  cases n <;> simp only [Oper.upon] at h ⊢
  case value v=>exact ⟨hput a v rfl,h⟩
  case skip=>exact ⟨hput a _ rfl,h⟩
  case defer d=>exact ⟨hput _ _ rfl,h⟩
  case enter f args=>
   refine Calls.mono h fun e w'' he=>?_
   cases e with
   | returned v=>exact ⟨hput a v rfl,he⟩
   | panicked c=>exact he
   | outgrown=>exact he
  case row row args=>exact Rows.mono h fun v w'' he=>⟨hput a v rfl,he⟩
 | halt x w'=>cases x <;> simp only [Oper.upon] at h ⊢ <;> exact h
theorem z2b.frame {o:Oper} {K:Act->World->Prop} {a:Act} {w:World} (h:z2b q P ops Q o K a w) :
  z2b q P ops Q o (fun a' w'=>((zlz q o=false->z44 w w')∧∀ i,o.dst≠some i->a'.tmps[i]? = a.tmps[i]?)∧K a' w') a w:=by
 have hput:∀ v,∀ i,o.dst≠some i->(a.put o.dst v).tmps[i]? = a.tmps[i]? := by
  intro v i hi;rw [zd0,if_neg (fun h=>hi h.1)]
 unfold z2b at *;split
 ·rename_i hw;rw [if_pos hw] at h;rcases h with ⟨hy,v,h1,h2⟩ | ⟨hy,h1⟩
  ·exact .inl ⟨hy,v,h1,⟨fun _=>z44.refl w,hput v⟩,h2⟩
  ·exact .inr ⟨hy,Oper.wp_mono (fun a' w' hh=>⟨hh.2.1,⟨hh.2.1,hh.1⟩,hh.2.2⟩) (Oper.wp_put h1)⟩
 ·rename_i hw;rw [if_neg hw] at h;exact ⟨⟨fun _=>z44.refl w,hput _⟩,h⟩
theorem z2b.mono {o:Oper} {K K':Act->World->Prop} {a:Act} {w:World} (hk:∀ a w,K a w->K' a w) (h:z2b q P ops Q o K a w):z2b q P ops Q o K' a w:=by
 unfold z2b at *;split
 ·rename_i hw;rw [if_pos hw] at h;rcases h with ⟨hy,v,h1,h2⟩ | ⟨hy,h1⟩
  ·exact .inl ⟨hy,v,h1,hk _ _ h2⟩
  ·exact .inr ⟨hy,Oper.wp_mono (fun a' w' hh=>⟨hh.1,hk _ _ hh.2⟩) h1⟩
 ·rename_i hw;rw [if_neg hw] at h;exact hk _ _ h
theorem z44.size {w w':World} (h:z44 w w'):w.heap.size≤w'.heap.size:=by
 rcases Nat.eq_zero_or_pos w.heap.size with h0 | h0
 ·omega
 ·have:=h (w.heap.size-1) (by omega);have h2:w.heap[w.heap.size-1]?≠none:=by simp;omega
  rw [←this] at h2;simp at h2;omega
theorem z44.trans {w w' w'':World} (h:z44 w w') (k:z44 w' w''):z44 w w'':=fun b hb=>(k b (by have:=h.size;omega)).trans (h b hb)
theorem zm3 {K:Act->World->Prop}:(l:List (Nat×Oper))->noM l=true->(a:Act)->(w:World)->wpL false P ops Q K l a w->
  wpL false P ops Q (fun a' w'=>(z44 w w'∧zpi l a a')∧K a' w') l a w
 | [],_,a,w,h=>⟨⟨z44.refl w,fun _ _=>rfl⟩,h⟩
 | (i,o) :: l,hm,a,w,h=>by
  simp only [noM,zA,Bool.not_eq_true'] at hm;have h1:=z2b.frame (show z2b false P ops Q o (wpL false P ops Q K l) a w from h);refine z2b.mono (fun a1 w1 hh=>?_) h1;obtain ⟨⟨hag,hsl⟩,hrest⟩:=hh;have h2:=zm3 l hm.2 a1 w1 hrest;have mono:∀ (l:List (Nat×Oper)) (K K':Act->World->Prop),(∀ a w,K a w->K' a w)->∀ a w,wpL false P ops Q K l a w->wpL false P ops Q K' l a w:=by
   intro l
   induction l with
   | nil=>exact fun K K' hk a w h=>hk a w h
   | cons x l ih=>exact fun K K' hk a w h=>z2b.mono (fun a w h=>ih K K' hk a w h) h
  refine mono l _ _ (fun a2 w2 hh=>?_) a1 w1 h2;obtain ⟨⟨hag2,hsl2⟩,hk⟩:=hh;refine ⟨⟨(hag hm.1).trans hag2,fun j hj=>?_⟩,hk⟩;rw [hsl2 j (fun x hx=>hj x (by simp [hx])),hsl j (hj (i,o) (by simp))]
theorem z2b.weak {o:Oper} {K:Act->World->Prop} {a:Act} {w:World} (h:z2b false P ops Q o K a w):z2b q P ops Q o K a w:=by
 unfold z2b at *;split
 ·rename_i hw;rw [if_pos hw] at h;rcases h with h1 | ⟨hy,h1⟩
  ·exact .inl h1
  ·exact .inr ⟨hy,Oper.wp_mono (fun a' w' hh=>⟨fun hm=>hh.1 (zuf hm),hh.2⟩) h1⟩
 ·rename_i hw;rw [if_neg hw] at h;exact h
theorem zre {K:Act->World->Prop}:(l:List (Nat×Oper))->(a:Act)->(w:World)->wpL false P ops Q K l a w->wpL q P ops Q K l a w
 | [],a,w,h=>h
 | (_,_) :: l,a,w,h=>z2b.weak (z2b.mono (fun a w h=>zre l a w h) h)
theorem zm2 {K:Act->World->Prop}:(l:List (Nat×Oper))->(a:Act)->(w:World)->wpL q P ops Q K l a w->wpL q P ops Q (fun a' w'=>zpi l a a'∧K a' w') l a w
 | [],a,w,h=>⟨fun _ _=>rfl,h⟩
 | (i,o) :: l,a,w,h=>by
  refine z2b.mono (fun a1 w1 hh=>?_) (z2b.frame (show z2b q P ops Q o (wpL q P ops Q K l) a w from h));obtain ⟨⟨_,hsl⟩,hrest⟩:=hh;have mono:∀ (l:List (Nat×Oper)) (K K':Act->World->Prop),(∀ a w,K a w->K' a w)->∀ a w,wpL q P ops Q K l a w->wpL q P ops Q K' l a w:=by
   intro l
   induction l with
   | nil=>exact fun K K' hk a w h=>hk a w h
   | cons x l ih=>exact fun K K' hk a w h=>z2b.mono (fun a w h=>ih K K' hk a w h) h
  refine mono l _ _ (fun a2 w2 hh=>⟨fun j hj=>?_,hh.2⟩) a1 w1 (zm2 l a1 w1 hrest);rw [hh.1 j (fun x hx=>hj x (by simp [hx])),hsl j (hj (i,o) (by simp))]
theorem zk9 {K K':Act->World->Prop} (hk:∀ a w,K a w->K' a w):(l:List (Nat×Oper))->(a:Act)->(w:World)->wpL q P ops Q K l a w->wpL q P ops Q K' l a w
 | [],a,w,h=>hk a w h
 | (_,_) :: l,_,_,h=>z2b.mono (fun a w h=>zk9 hk l a w h) h
end
theorem zih {p:Oper->Bool}:{l acc:List (Nat×Oper)}->{grp rest:List (Nat×Oper)}->{d:Option Nat}->zfg p l acc=some (grp,d,rest)->acc++l=grp++rest
 | [],_,_,_,_,h=>by simp [zfg] at h
 | (i,o) :: l,acc,grp,rest,d,h=>by
  simp only [zfg] at h
  cases hp:p o with
  | true=>
   rw [hp] at h;simp only [cond_true,zI,Prod.mk.injEq] at h;obtain ⟨rfl,_,rfl⟩:=h
   simp
  | false=>
   rw [hp] at h;have:=zih (l:=l) h;rw [←this];simp
theorem z5h:{l:List (Nat×Oper)}->{σ:St}->{i:Nat}->{av:AVal}->(z49 l σ).slots i=some av->σ.slots i=some av∧∀ x∈l,x.2.dst≠some i
 | [],σ,i,av,h=>⟨h,by simp⟩
 | (j,o) :: l,σ,i,av,h=>by
  simp only [z49] at h;obtain ⟨h1,h2⟩:=z5h (l:=l) h
  cases hd:o.dst with
  | none=>
   rw [hd] at h1
   exact ⟨h1,fun x hx=>(List.mem_cons.1 hx).elim (fun e=>by subst e;simp [hd]) (fun hx=>h2 x hx)⟩
  | some d=>
   rw [hd] at h1;simp only [St.unset,upd] at h1
   cases hb:Nat.beq i d with
   | true=>rw [hb] at h1;simp at h1
   | false=>
    rw [hb] at h1;refine ⟨h1,fun x hx=>?_⟩;rcases List.mem_cons.1 hx with rfl | hx
    ·rw [hd];intro he;simp only [zI] at he;subst he;rw [Nat.beq_refl] at hb;simp at hb
    ·exact h2 x hx
theorem zbg:(l:List (Nat×Oper))->(σ:St)->(z49 l σ).objs=σ.objs∧(z49 l σ).next=σ.next
 | [],_=>⟨rfl,rfl⟩
 | (_,o) :: l,σ=>by
  simp only [z49];obtain ⟨h1,h2⟩:=zbg l (σ.unset o.dst);cases hd:o.dst <;> rw [hd] at h1 h2 <;> exact ⟨h1,h2⟩
end Go.Kz
namespace Go.Kz
def FreshL (g:Ghost) (σ:St) (base:Nat) (l:List (Nat×Oper)):Prop:=∀ x∈l,∀ m,base+8*x.1≤m->m < base+8*x.1+8->Fresh g σ m
def Out (base:Nat) (l:List (Nat×Oper)) (m:Nat):Prop:=∀ x∈l,m < base+8*x.1∨base+8*x.1+8≤m
theorem zx6 {n:Nat} {g:Ghost} {w w':World} {a a':Act} {σ:St} (hst:StOK n g w a σ) (hag:z44 w w') (hd:a'.defers=[]) (hs:a'.tmps.size=n)
  (slots:∀ i av,σ.slots i=some av->a'.tmps[i]? = a.tmps[i]?):StOK n g w' a' σ:=by
 have ht:=hst.heap.tags;have hr:RoKept w g w' g:=⟨fun b hb=>⟨hb,hag b (ht b (by rw [hb];simp))⟩⟩;have hsame:∀ id,Same w g w' g id:=fun id=>⟨⟨fun _=>rfl,fun _ b hb=>⟨hb,hag b (ht b (by rw [hb];simp))⟩⟩,rfl,fun hb=>⟨hb,hag _ (ht _ (by rw [hb];simp))⟩⟩
 have hk:∀ id,z15 g g id (σ.objs id) (σ.objs id):=fun id=>z15.refl g id _
 refine ⟨fun i av hi=>?_,⟨fun id x hx=>?_,fun b hb=>?_⟩,hs,hd,hst.known.kept hr⟩
 ·obtain ⟨u,hu,hok⟩:=hst.slots i av hi;exact ⟨u,by rw [slots i av hi];exact hu,VOK.frame hr (fun id _=>hk id) hok⟩
 ·exact z14.frame hr (hsame id) (fun _ _ id' _=>hk id') (hst.heap.objs id x hx)
 ·have:=ht b hb;have:=hag.size;omega
theorem zr3 {σ:St} {d:Nat} {b:Bool} (h:zp4 σ d=some b):σ.slots d=some (.data .bool b):=by
 unfold zp4 at h;split at h
 ·rename_i x hx;simp only [zI] at h;subst h;exact hx
 ·simp at h
section
variable {P:Program} {ops:Array Oper} {Q:Exit->Act->World->Prop} {c:Ctx} {base:Nat} {dst:Nat->Option Nat}
theorem z69 {o:Oper} {f:Nat->Option Bool} (h:o.guard=none):Region.wanted o f=true:=by simp [Region.wanted,h]
theorem zdp {o:Oper} {a:Act} {j t:Nat} {want b:Bool} (h:o.guard=some (j,want)) (hd:(ops[j]?).bind (·.dst)=some t) (hv:a.tmps[t]? = some (.bool b)) :
  Region.wanted o (yielded ops a.tmps)=(b == want):=by
 simp [Region.wanted,h,yielded,hd,hv]
theorem zpw {n:Nat} {g:Ghost} {w:World} {a:Act} {σ:St} (hst:StOK n g w a σ) {t:Nat} {b:Bool} (h:σ.slots t=some (.data .bool b)):a.tmps[t]? = some (.bool b):=by
 obtain ⟨v,hv,hok⟩:=hst.slots t _ h;rw [hv,z8s hok]
theorem zkf {n:Nat} {g:Ghost} {w:World} {a:Act} {σ:St} (hst:StOK n g w a σ) {t:Nat} {av:AVal} (h:σ.slots t=some av):StOK n g w a (σ.set t av):=by
 refine ⟨fun i x hi=>?_,hst.heap,hst.size,hst.defers,hst.known⟩;simp only [St.set,upd] at hi
 cases hb:Nat.beq i t with
 | true=>
  rw [hb] at hi;simp only [cond_true,zI] at hi;subst hi;have:=zE hb;subst this
  exact hst.slots _ _ h
 | false=>rw [hb] at hi;exact hst.slots i x hi
theorem zg0 {x:Nat}:{l:List Nat}->(z2q x l=true↔x∈l)
 | []=>by simp [z2q]
 | y :: l=>by
  simp only [z2q,List.mem_cons]
  cases h:Nat.beq y x with
  | true=>simp [zE h]
  | false=>
   have hne:x≠y:=by intro he;subst he;rw [Nat.beq_refl] at h;simp at h
   simp [hne,zg0 (l:=l)]
def Und (a:Act) (und:List Nat):Prop:=∀ s∈und,∀ b,a.tmps[s]?≠some (.bool b)
theorem zi9 {o:Oper} {a:Act} {j t:Nat} {want:Bool} (h:o.guard=some (j,want)) (hd:(ops[j]?).bind (·.dst)=some t) (hv:∀ b,a.tmps[t]?≠some (.bool b)) :
  Region.wanted o (yielded ops a.tmps)=false:=by
 have hy:yielded ops a.tmps j=none:=by
  cases hx:a.tmps[t]? with
  | none=>simp [yielded,hd,hx]
  | some v=>
   cases v with
   | bool b=>exact absurd hx (hv b)
   | _=>simp [yielded,hd,hx]
 simp [Region.wanted,h,hy]
theorem zq3 {d s:Nat}:{l:List Nat}->s∈rmN d l->s∈l∧s≠d
 | [],h=>by simp [rmN] at h
 | x :: l,h=>by
  simp only [rmN] at h
  cases hb:Nat.beq x d with
  | true=>
   rw [hb] at h;have:=zq3 (l:=l) h
   exact ⟨by simp [this.1],this.2⟩
  | false=>
   rw [hb] at h;rcases List.mem_cons.1 h with rfl | h
   ·exact ⟨by simp,fun he=>by subst he;rw [Nat.beq_refl] at hb;simp at hb⟩
   ·have:=zq3 (l:=l) h;exact ⟨by simp [this.1],this.2⟩
theorem zop {d:Option Nat} {s:Nat} {l:List Nat} (h:s∈zef d l):s∈l∧d≠some s:=by
 cases d with
 | none=>exact ⟨h,by simp⟩
 | some d=>
  have:=zq3 h;exact ⟨this.1,by simp;exact fun he=>this.2 he.symm⟩
theorem ze6 {s:Nat}:{l:List (Nat×Oper)}->{u:List Nat}->s∈zlk l u->s∈u∧∀ x∈l,x.2.dst≠some s
 | [],u,h=>⟨h,by simp⟩
 | (i,o) :: l,u,h=>by
  obtain ⟨h1,h2⟩:=ze6 (l:=l) h;obtain ⟨h3,h4⟩:=zop h1;refine ⟨h3,fun x hx=>?_⟩;rcases List.mem_cons.1 hx with rfl | hx
  ·exact h4
  ·exact h2 x hx
theorem Und.keep {a a':Act} {u:List Nat} {d:Option Nat} (h:Und a u) (hs:∀ i,d≠some i->a'.tmps[i]? = a.tmps[i]?):Und a' (zef d u):=by
 intro s hm b;obtain ⟨h1,h2⟩:=zop hm;rw [hs s h2];exact h s h1 b
theorem Und.skip {a:Act} {u:List Nat} {d:Option Nat} (h:Und a u):Und (a.put d undef) (addU d u):=by
 intro s hm b;rw [zd0];split
 ·intro he;cases he
 ·rename_i hne
  cases d with
  | none=>exact h s hm b
  | some d=>
   rcases List.mem_cons.1 hm with rfl | hm
   ·have hge:a.tmps.size≤s:=by
     by_cases hlt:s < a.tmps.size
     ·exact absurd ⟨rfl,hlt⟩ hne
     ·omega
    rw [Array.getElem?_eq_none hge];simp
   ·exact h s hm b
theorem zav (hc:CtxOK P c) (hdst:∀ j,dst j=(ops[j]?).bind (·.dst)):(q:Bool)->(n:Nat)->{R:Type}->{opened und:List Nat}->{l:List (Nat×Oper)}->{σ:St}->{g:Ghost}->{a:Act}->{w:World}->{k:St->Option R}->{r:R}->
  {K:Act->World->Prop}->zhw c base dst q n R opened und l σ k=some r->StOK c.ntmps g w a σ->Und a und->(l.map Prod.fst).Nodup->FreshL g σ base l->
  (∀ σ' g' a' w',k σ'=some r->StOK c.ntmps g' w' a' σ'->Ext w g w' g'->(∀ m,Out base l m->Fresh g σ m->Fresh g' σ' m)->σ'.next=σ.next->K a' w')->
  wpL q P ops Q K l a w
 | _,0,_,_,_,_,_,_,_,_,_,_,_,h,_,_,_,_,_=>by simp [zhw] at h
 | q,n+1,R,opened,und,[],σ,g,a,w,k,r,K,h,hst,_,_,_,hK=>by
  simp only [zhw] at h
  exact hK σ g a w h hst (Ext.refl _ _) (fun m _ hf=>hf) rfl
 | q,n+1,R,opened,und,(i,o) :: l,σ,g,a,w,k,r,K,h,hst,hun,hnd,hfr,hK=>by
  simp only [List.map_cons,List.nodup_cons] at hnd;have one:opM q c σ (base+8*i) o (fun σ=>zhw c base dst q n R opened (zef o.dst und) l σ k)=some r->Region.wanted o (yielded ops a.tmps)=true->wpL q P ops Q K ((i,o) :: l) a w:=by
   intro h hw;have hpost:∀ σ1 g1 a1 w1,zhw c base dst q n R opened (zef o.dst und) l σ1 k=some r->StOK c.ntmps g1 w1 a1 σ1->Ext w g w1 g1->
     (∀ m,(m < base+8*i∨base+8*i+8≤m)->Fresh g σ m->Fresh g1 σ1 m)->σ1.next=σ.next->(∀ s,o.dst≠some s->a1.tmps[s]? = a.tmps[s]?)->wpL q P ops Q K l a1 w1:=by
    intro σ1 g1 a1 w1 h1 hst1 hext1 hf1 hn1 hfrm;refine zav hc hdst q n h1 hst1 (hun.keep hfrm) hnd.2 (fun x hx m h1 h2=>hf1 m ?_ (hfr x (by simp [hx]) m h1 h2)) (fun σ2 g2 a2 w2 h2 hst2 hext2 hf2 hn2=>?_)
    ·have hne:x.1≠i:=fun he=>hnd.1 (by rw [←he];exact List.mem_map.2 ⟨x,hx,rfl⟩)
     omega
    ·exact hK σ2 g2 a2 w2 h2 hst2 (hext1.trans hext2) (fun m hm hf=>hf2 m (fun x hx=>hm x (by simp [hx])) (hf1 m (hm (i,o) (by simp)) hf)) (hn2.trans hn1)
   show z2b q P ops Q o (wpL q P ops Q K l) a w;refine z2b.mono (fun a1 w1 hh=>hh.2 hh.1.2) (z2b.frame (K:=fun a1 w1=>(∀ s,o.dst≠some s->a1.tmps[s]? = a.tmps[s]?)->wpL q P ops Q K l a1 w1) ?_);unfold z2b;rw [if_pos hw]
   cases hy:isY o with
   | true=>
    left;obtain ⟨av,v,h1,h2,h3,h4⟩:=(zkr hc hy hst (by rw [←opM_Y hy];exact h)).out;refine ⟨rfl,v,h1,fun hfrm=>?_⟩;rcases z6h h4 with ⟨hd,hk⟩ | ⟨d,hd,hlt,hk⟩
    ·rw [hd] at hfrm ⊢;exact hpost σ g a w hk hst (Ext.refl _ _) (fun _ _ hm=>hm) rfl (by rw [hd];exact hfrm)
    ·rw [hd] at hfrm ⊢;exact hpost _ g _ w hk (hst.put hlt h2) (Ext.refl _ _) (fun m _ hm=>hm.set d (h3 m hm)) rfl (by rw [hd];exact hfrm)
   | false=>
    right;refine ⟨rfl,opM_ok (base:=base+8*i) hc hst (fun m h1 h2=>hfr (i,o) (by simp) m h1 h2) h ?_⟩;intro σ1 g1 a1 w1 h1 hst1 hext1 hf1 hn1 hag;exact ⟨fun h1=>hag h1,fun hfrm=>hpost σ1 g1 a1 w1 h1 hst1 hext1 hf1 hn1 hfrm⟩
  have skip:zhw c base dst q n R opened (addU o.dst und) l (σ.unset o.dst) k=some r->Region.wanted o (yielded ops a.tmps)=false->wpL q P ops Q K ((i,o) :: l) a w:=by
   intro h hw;show z2b q P ops Q o (wpL q P ops Q K l) a w;unfold z2b;rw [hw];simp only [Bool.false_eq_true,if_false];refine zav hc hdst q n h (hst.putU o.dst undef) hun.skip hnd.2 (fun x hx m h1 h2=>(hfr x (by simp [hx]) m h1 h2).unset o.dst) (fun σ2 g2 a2 w2 h2 hst2 hext2 hf2 hn2=>?_);refine hK σ2 g2 a2 w2 h2 hst2 hext2 (fun m hm hf=>hf2 m (fun x hx=>hm x (by simp [hx])) (hf.unset o.dst)) (hn2.trans ?_);cases o.dst <;> rfl
  simp only [zhw] at h;split at h
  ·rename_i hg;exact one h (z69 hg)
  ·rename_i j want hg;split at h
   ·simp at h
   ·rename_i t hdt;rw [hdst] at hdt;split at h
    ·rename_i b hb;have hw:=zdp (o:=o) (a:=a) hg hdt (zpw hst hb)
     cases hm:z2q j opened with
     | true=>
      rw [hm] at h;simp only [cond_true] at h
      cases hbw:(b == want) with
      | true=>
       rw [hbw] at h hw
       exact one h hw
      | false=>
       rw [hbw] at h hw
       exact skip h hw
     | false=>
      rw [hm] at h;simp only [cond_false] at h;split at h
      ·rename_i grp d rest hsp;have hl:=zih hsp;rw [List.nil_append] at hl
       cases hmt:(q && zgi c σ grp) with
       | true=>
        rw [hmt] at h;simp only [cond_true] at h;have h':zhw c base dst q n R (j :: opened) und ((i,o) :: l) (σ.set t (.data .bool b)) k=some r:=by
         cases b <;> exact h
        exact zav hc hdst q n h' (zkf hst hb) hun (by simp only [List.map_cons,List.nodup_cons];exact hnd) (fun x hx m h1 h2=>(hfr x hx m h1 h2).set t (by simp [AVal.ids])) (fun σ2 g2 a2 w2 h2 hst2 hext2 hf2 hn2=>hK σ2 g2 a2 w2 h2 hst2 hext2 (fun m hm hf=>hf2 m hm (hf.set t (by simp [AVal.ids]))) hn2)
       | false=>
       rw [hmt] at h;simp only [cond_false] at h
       cases hno:noM grp with
       | false=>rw [hno] at h;simp at h
       | true=>
        rw [hno] at h;simp only [cond_true,Option.bind_eq_some_iff] at h;obtain ⟨v,hv,h⟩:=h;have hv':zhw c base dst false n Bool (j :: opened) und grp (σ.set t (.data .bool b)) (fun σ=>zp4 σ d)=some v:=by
         cases b <;> exact hv
        cases hlt:Nat.blt d c.ntmps with
        | false=>rw [hlt] at h;simp at h
        | true=>
         rw [hlt] at h;simp only [cond_true] at h;rw [hl,zi7];have hnd2:(grp.map Prod.fst).Nodup∧(rest.map Prod.fst).Nodup∧∀ x∈grp.map Prod.fst,x∉rest.map Prod.fst:=by
          have:(((i,o) :: l).map Prod.fst).Nodup:=by simp only [List.map_cons,List.nodup_cons];exact hnd
          rw [hl,List.map_append,List.nodup_append] at this;exact ⟨this.1,this.2.1,fun x hx hy=>this.2.2 x hx x hy rfl⟩
         have hmem:∀ x,x∈grp∨x∈rest->x∈(i,o) :: l:=by
          intro x hx;rw [hl];exact List.mem_append.2 hx
         have hst0:=zkf hst hb;have hgrp:=zav (K:=fun a' w'=>a'.tmps[d]? = some (.bool v)∧a'.defers=[]∧a'.tmps.size=c.ntmps∧w'.os=w.os∧w'.tape=w.tape∧w'.output=w.output∧w.drawn≤w'.drawn) hc hdst false n hv' hst0 hun hnd2.1
          (fun x hx m h1 h2=>(hfr x (hmem x (.inl hx)) m h1 h2).set t (by simp [AVal.ids]))
          (fun σ' g' a' w' h' hst' hext' _ _=>⟨zpw hst' (zr3 h'),hst'.defers,hst'.size,hext'.os,hext'.tape,hext'.output,hext'.drawn⟩)
         refine zk9 (fun a1 w1 hh=>?_) grp a w (zre grp a w (zm3 grp hno a w hgrp));obtain ⟨⟨hag,hsl⟩,h1,h2,h3,h4,h5,h6,h7⟩:=hh;have hobjs:=zbg grp σ;have hstU:StOK c.ntmps g w a (z49 grp σ):=by
          refine ⟨fun i av hi=>?_,?_,hst.size,hst.defers,hst.known⟩
          ·rw [hobjs.1];exact hst.slots i av (z5h hi).1
          ·rw [hobjs.1];exact hst.heap
         have hst1:StOK c.ntmps g w1 a1 (z49 grp σ):=zx6 hstU hag h2 h3 (fun i av hi=>hsl i (z5h hi).2);have hst2:StOK c.ntmps g w1 a1 ((z49 grp σ).set d (.data .bool v)):=by
          refine ⟨fun i x hi=>?_,hst1.heap,hst1.size,hst1.defers,hst1.known⟩;simp only [St.set,upd] at hi
          cases hbq:Nat.beq i d with
          | true=>
           rw [hbq] at hi;simp only [cond_true,zI] at hi;subst hi;have:=zE hbq;subst this
           exact ⟨_,h1,z3v v⟩
          | false=>rw [hbq] at hi;exact hst1.slots i x hi
         have hfrU:∀ m,Fresh g σ m->Fresh g ((z49 grp σ).set d (.data .bool v)) m:=by
          intro m hf;have:Fresh g (z49 grp σ) m:=⟨by rw [hobjs.1];exact hf.objs,hf.row,hf.box,fun i av hi=>hf.slots i av (z5h hi).1,fun id av hi=>hf.cells id av (by rw [←hobjs.1];exact hi)⟩;exact this.set d (by simp [AVal.ids])
         have hext1:Ext w g w1 g:=⟨h4,h5,h6,h7,hag.size,fun b hb _=>⟨hag b hb,rfl⟩⟩;refine zav hc hdst q n h hst2 (fun s hs b=>by
          obtain ⟨q1,q2⟩:=ze6 hs;rw [hsl s q2];exact hun s q1 b) hnd2.2.1 (fun x hx m q1 q2=>hfrU m (hfr x (hmem x (.inr hx)) m q1 q2)) (fun σ2 g2 a2 w2 q2 hst2 hext2 hf2 hn2=>?_)
         refine hK σ2 g2 a2 w2 q2 hst2 (hext1.trans hext2) (fun m hm hf=>hf2 m (fun x hx=>hm x (hmem x (.inr hx))) (hfrU m hf)) (hn2.trans hobjs.2)
      ·simp at h
    ·cases hmu:z2q t und with
     | false=>rw [hmu] at h;simp at h
     | true=>
      rw [hmu] at h;simp only [cond_true] at h;exact skip h (zi9 hg hdt (hun t (zg0.1 hmu)))
    ·simp at h
end
end Go.Kz
namespace Go.Kz
variable {R:Type}
theorem z72 {α:Type}:(l:List α)->(i:Nat)->(z09 i l).map Prod.fst=List.range' i l.length
 | [],_=>rfl
 | x :: l,i=>by simp only [z09,List.map_cons,z72 l,List.length_cons,List.range'_succ]
theorem z97 {α:Type}:{l:List α}->{i:Nat}->{x:Nat×α}->x∈z09 i l->i≤x.1∧l[x.1-i]? = some x.2
 | [],_,_,h=>by simp [z09] at h
 | y :: l,i,x,h=>by
  simp only [z09,List.mem_cons] at h;rcases h with rfl | h
  ·simp
  ·obtain ⟨h1,h2⟩:=z97 h;refine ⟨by omega,?_⟩;have e:x.1-i=(x.1-(i+1))+1:=by omega
   rw [e];simpa using h2
theorem zah {α:Type} (l:List α) (i:Nat):((z09 i l).map Prod.fst).Nodup:=by
 rw [z72];exact List.nodup_range'
theorem zs5 {α:Type}:(l:List α)->(i:Nat)->z12 l i=l[i]?
 | [],i=>by cases i <;> rfl
 | x :: l,0=>rfl
 | x :: l,i+1=>by simp only [z12,zs5 l i];simp
section
variable {P:Program} {ops:Array Oper} {Q:Exit->Act->World->Prop} {q:Bool}
theorem zex (j:Nat):z6p ops.toList j=(ops[j]?).bind (·.dst):=by
 simp only [z6p,zs5,Array.getElem?_toList]
theorem zf3 {o:Oper} {a:Act} {w:World} {v:Value} {K:Act->World->Prop} (h:(execOp a.eval o).run P w = .ok (.value v) w) (hk:K (a.put o.dst v) w):o.wp P a w K Q:=by
 unfold Oper.wp;rw [h,Oper.upon_value];exact hk
theorem zv5:(L:List (Nat×Oper))->(∀ x∈L,ops[x.1]? = some x.2)->(a:Act)->(w:World)->wpL q P ops Q (Q .normal) L a w->wpOps P ops Q (L.map Prod.fst) a w
 | [],_,a,w,h=>h
 | (i,o) :: L,hL,a,w,h=>by
  have ih:=zv5 L (fun x hx=>hL x (by simp [hx]));have ho:ops[i]? = some o:=hL (i,o) (by simp);simp only [List.map_cons,wpOps,ho];have h':z2b q P ops Q o (wpL q P ops Q (Q .normal) L) a w:=h;unfold z2b at h';split
  ·rename_i hw;rw [if_pos hw] at h';left;rcases h' with ⟨_,v,h1,h2⟩ | ⟨_,h1⟩
   ·exact zf3 (h1 w (AgP.refl _ w)) (ih _ _ h2)
   ·exact Oper.wp_mono (fun a' w' hh=>ih _ _ hh.2) h1
  ·rename_i hw;rw [if_neg hw] at h';exact ih _ _ h'
theorem z1w (x:Nat×Oper) (h:x∈z09 0 ops.toList):ops[x.1]? = some x.2:=by
 have:=(z97 h).2;rw [←Array.getElem?_toList];simpa using this
theorem z6j {x:Nat×Oper} (h:x∈z09 0 ops.toList):x.1 < ops.toList.length:=by
 have:=(z97 h).2;rw [Nat.sub_zero] at this;exact (List.getElem?_eq_some_iff.1 this).1
theorem wp_text {id:Nat} {a:Act} {w:World} (h:wpL q P ops Q (Q .normal) (z09 0 ops.toList) a w):(Code.region id ops false).wp P Q a w:=by
 refine wp_region ?_;have:=zv5 _ z1w a w h;rw [z72,←List.range_eq_range'] at this;simpa using this
end
section
variable {P:Program} {ops:Array Oper} {c:Ctx}
theorem zwp {q:Bool} {fuel:Nat} {L:List (Nat×Oper)} (hc:CtxOK P c) {Q:Exit->Act->World->Prop} {σ:St} {g:Ghost} {a:Act} {w:World} {k:St->Option R} {r:R} {K:Act->World->Prop}
  (hL:∀ x∈L,x.1 < ops.toList.length) (hnd:(L.map Prod.fst).Nodup)
  (h:zhw c σ.next (z6p ops.toList) q fuel R [] [] L σ (fun σ'=>k { σ' with next:=σ.next+8*ops.toList.length })=some r) (hst:StOK c.ntmps g w a σ) (hf:z18 g σ)
  (hK:∀ σ' g' a' w',k σ'=some r->StOK c.ntmps g' w' a' σ'->Ext w g w' g'->z18 g' σ'->K a' w'):wpL q P ops Q K L a w:=by
 refine zav hc zex q fuel h hst (by intro s hs;simp at hs) hnd (fun x _ m h1 _=>hf m (by omega)) (fun σ' g' a' w' hk hst' hext hf' hn=>?_);refine hK _ g' a' w' hk ⟨hst'.slots,hst'.heap,hst'.size,hst'.defers,hst'.known⟩ hext (fun m hm=>?_);have hm':σ.next+8*ops.toList.length≤m:=hm;have:=hf' m (fun x hx=>.inr (by have:=hL x hx;omega)) (hf m (by omega));exact ⟨this.objs,this.row,this.box,this.slots,this.cells⟩
end
end Go.Kz
namespace Go.Kz
section
variable {P:Program} {ops:Array Oper} {Q:Exit->Act->World->Prop} {md:Region.Mode} {w0:World} {q:Bool}
def zi6 (q:Bool) (P:Program) (md:Region.Mode) (ops:Array Oper) (Q:Exit->Act->World->Prop):Nat->Array Bool->Act->World->Prop
 | 0,listed,a,w=>Region.ready md ops listed=[]∧Q .normal a w
 | fuel+1,listed,a,w=>
  (Region.ready md ops listed=[]->Q .normal a w)∧
  ∀ i∈Region.ready md ops listed,wpOp P ops Q i (fun a' w'=>((∀ o,ops[i]? = some o->zlz q o=false->z44 w w'))∧zi6 q P md ops Q fuel (listed.setIfInBounds i true) a' w') a w
theorem z9t:∀ (fuel:Nat) (listed:Array Bool) (a:Act) (w:World),zi6 q P md ops Q fuel listed a w->wpAny P md ops Q fuel listed a w
 | 0,_,_,_,h=>h
 | fuel+1,_,_,_,h=>⟨h.1,fun i hi=>wpOp_mono (fun a' w' h'=>z9t fuel _ a' w' h'.2) (h.2 i hi)⟩
def keptQ (ops:Array Oper) (a0:Act) (Q:Exit->Act->World->Prop):Exit->Act->World->Prop:=
 fun e a w=>(e = .normal->∀ s,(∀ o∈ops.toList,o.dst≠some s)->a.tmps[s]? = a0.tmps[s]?)->Q e a w
theorem Oper.wp_Q {o:Oper} {a:Act} {w:World} {K:Act->World->Prop} {Q1 Q2:Exit->Act->World->Prop} (h1:∀ c a w,Q1 (.panic c) a w->Q2 (.panic c) a w) (h2:∀ a w,Q1 .outgrown a w->Q2 .outgrown a w)
  (hh:o.wp P a w K Q1):o.wp P a w K Q2:=by
 unfold Oper.wp at *;generalize (execOp a.eval o).run P w=r at *
 cases r with
 | ok n w'=>
  cases n <;> simp only [Oper.upon] at hh ⊢ <;>
   first
    | exact hh
    | exact Calls.mono hh (fun e w'' he=>by
      cases e with
      | returned v=>exact he
      | panicked c=>exact h1 _ _ _ he
      | outgrown=>exact he.imp fun a h=>h.imp fun w h=>h2 a w h)
 | halt x w'=>cases x <;> simp only [Oper.upon] at hh ⊢ <;> first | exact hh | exact h1 _ _ _ hh
theorem z65 {a0:Act}:(fuel:Nat)->(listed:Array Bool)->(a:Act)->(w:World)->(∀ s,(∀ o∈ops.toList,o.dst≠some s)->a.tmps[s]? = a0.tmps[s]?)->
  wpAny P md ops (keptQ ops a0 Q) fuel listed a w->wpAny P md ops Q fuel listed a w
 | 0,listed,a,w,hk,h=>⟨h.1,h.2 fun _=>hk⟩
 | fuel+1,listed,a,w,hk,h=>by
  refine ⟨fun hr=>h.1 hr fun _=>hk,fun i hi=>?_⟩;have hh:=h.2 i hi;unfold wpOp at *;split
  ·rename_i ho;simp only [ho] at hh;exact z65 fuel _ a w hk hh
  ·rename_i o ho;simp only [ho] at hh;have hmem:o∈ops.toList:=by
    obtain ⟨hlt,rfl⟩:=Array.getElem?_eq_some_iff.1 ho;simp
   split
   ·rename_i hw;simp only [hw,if_true] at hh;rcases hh with hh | ⟨hh,a1,w1,h1⟩
    ·left;refine Oper.wp_Q (Q1:=keptQ ops a0 Q) (fun c a w h=>h (by simp)) (fun a w h=>h (by simp)) ?_;refine Oper.wp_mono (fun a' w' hh=>?_) (Oper.wp_put hh);exact z65 fuel _ a' w' (fun s hs=>(hh.1 s (hs o hmem)).trans (hk s hs)) hh.2
    ·exact .inr ⟨hh,a1,w1,h1 (by simp)⟩
   ·rename_i hw;simp only [hw] at hh;refine z65 fuel _ _ w (fun s hs=>?_) hh;rw [zd0,if_neg (fun h=>hs o hmem h.1)];exact hk s hs
def Waits (md:Region.Mode) (ops:Array Oper) (i:Nat) (Lt:List Nat):Prop:=
 ∀ x∈Lt,∀ ox,ops[x]? = some ox->∃ e∈ox.after,Region.binds md e=true∧(e.on=i∨e.on∈Lt)
theorem zf8 {i:Nat} {Lt:List Nat} {listed:Array Bool} (hw:Waits md ops i Lt) (hl:∀ x∈Lt,listed.getD x true=false) (hi:listed.getD i true=false) {j:Nat} (hj:j∈Region.ready md ops listed):j∉Lt:=by
 intro hjl;obtain ⟨_,oj,hoj,hall⟩:=mem_ready.1 hj;obtain ⟨e,he,hb,hon⟩:=hw j hjl oj hoj;have h1:=hall e he hb;have h0:listed.getD e.on true=false:=by
  rcases hon with h | h
  ·rw [h];exact hi
  ·exact hl _ h
 rcases Nat.lt_or_ge e.on listed.size with h' | h'
 ·simp [h'] at h0 h1;rw [h0] at h1;cases h1
 ·simp [Array.getElem?_eq_none h'] at h1
theorem zdl {i:Nat} {oi:Oper} {v:Value} {Lt:List Nat} (hi:ops[i]? = some oi) (hsel:∀ (j:Nat) (o:Oper) cs b,ops[j]? = some o->o.op≠.select cs b)
  (hQ:∀ c a w,¬ Q (.panic c) a w) (hwt:Waits md ops i Lt) :
  ∀ (fuel:Nat) (listed:Array Bool) (a:Act) (w:World),
   (∀ j oj,ops[j]? = some oj->j≠i->listed.getD j true=false->(∀ e∈oj.after,Region.binds md e=true->e.on≠i)->oi.apart ops oj=true)->
   (∀ x∈Lt,listed.getD x true=false)->(∀ j oj,ops[j]? = some oj->j≠i->listed.getD j true=false->zlz q oj=true->j∈Lt∨isP oi=true)->
   i∈Region.ready md ops listed->YieldsIf P ops (AgP oi w0) oi v a->AgP oi w0 w->
   zi6 q P md ops Q fuel (listed.setIfInBounds i true) (a.put oi.dst v) w->zi6 q P md ops Q (fuel+1) listed a w:=by
 intro fuel
 induction fuel with
 | zero=>
  intro listed a w _ _ _ hr hy hS H;refine ⟨fun h=>(by rw [h] at hr;cases hr),fun j hj=>?_⟩;by_cases hji:j=i
  ·subst hji;exact hy.wpOp hi hS ⟨fun _ _ _=>z44.refl w,H⟩
  ·have:=ready_mono hj hji;rw [H.1] at this
   cases this
 | succ fuel ih=>
  intro listed a w hfree hlt hM hr hy hS H;refine ⟨fun h=>(by rw [h] at hr;cases hr),fun j hj=>?_⟩;by_cases hji:j=i
  ·subst hji;exact hy.wpOp hi hS ⟨fun _ _ _=>z44.refl w,H⟩
  ·have h1:=H.2 j (ready_mono hj hji);have hi0:=(mem_ready.1 hr).1;have hjl:=zf8 hwt hlt hi0 hj;obtain ⟨hjun,oj,hoj,hall⟩:=mem_ready.1 hj;have hnM:isP oi=false->zlz q oj=false:=by
    intro hP
    cases hm:zlz q oj with
    | false=>rfl
    | true=>
     rcases hM j oj hoj hji hjun hm with h | h
     ·exact absurd h hjl
     ·rw [hP] at h;simp at h
   have hnot:∀ e∈oj.after,Region.binds md e=true->e.on≠i:=fun e he hb heq=>by
    have h1:=hall e he hb;have h0:=hi0;rw [heq] at h1;rcases Nat.lt_or_ge i listed.size with h' | h'
    ·simp [h'] at h0 h1;rw [h0] at h1;cases h1
    ·simp [Array.getElem?_eq_none h'] at h1
   have h2:=wpOp_putIf hoj (hfree j oj hoj hji hjun hnot) (fun cs b=>hsel i oi cs b hi) (fun cs b=>hsel j oj cs b hoj) (fun c a w h=>absurd h (hQ _ _ _)) hy h1;have hsub:∀ k,(listed.setIfInBounds j true).getD k true=false->listed.getD k true=false:=fun k hun=>by
    by_cases hjk:j=k
    ·subst hjk;exact hjun
    ·rw [getD_set_ne true hjk] at hun;exact hun
   refine wpOp_mono (fun a' w' h3=>⟨h3.2.1,ih (listed.setIfInBounds j true) a' w' (fun k ok hk hki hun hno=>hfree k ok hk hki (hsub k hun) hno) (fun x hx=>?_) (fun k ok hk hki hun hm=>hM k ok hk hki (hsub k hun) hm)
    (ready_mono hr (Ne.symm hji)) h3.1 (fun hP=>(hS hP).trans (h3.2.1 oj hoj (hnM hP))) ?_⟩) h2
   ·have hne:j≠x:=fun he=>hjl (he ▸ hx)
    rw [getD_set_ne true hne];exact hlt x hx
   ·rw [Array.setIfInBounds_comm _ _ hji];exact h3.2.2
end
end Go.Kz
namespace Go.Kz
variable {R:Type}
theorem zcm {d:List Nat}:{l:List Nat}->(zyd l d=true↔∀ x∈l,x∈d)
 | []=>by simp [zyd]
 | y :: l=>by simp [zyd,z27,zcm (l:=l)]
theorem zpb {d:List Nat}:{l:List Nat}->(zr7 l d=true↔∃ x∈l,x∈d)
 | []=>by simp [zr7]
 | y :: l=>by simp [zr7,z27,zpb (l:=l)]
theorem z5d {d:List Nat}:{l:List Nat}->(zfs l d=true↔∀ x∈l,x∉d)
 | []=>by simp [zfs]
 | y :: l=>by
  have:=z27 (x:=y) (l:=d);simp only [zfs,zA,z5d (l:=l),List.mem_cons,forall_eq_or_imp];constructor
  ·rintro ⟨h1,h2⟩;refine ⟨fun h=>?_,h2⟩;rw [this.2 h] at h1;simp at h1
  ·rintro ⟨h1,h2⟩;refine ⟨?_,h2⟩
   cases hm:z2q y d with
   | true=>exact absurd (this.1 hm) h1
   | false=>rfl
theorem z2o {x:Nat}:{l:List Edge}->(x∈z43 l↔∃ e∈l,Region.binds .any e=true∧e.on=x)
 | []=>by simp [z43]
 | e :: l=>by
  simp only [z43]
  cases hb:Region.binds .any e with
  | true=>
   simp only [cond_true,List.mem_cons,z2o (l:=l),exists_eq_or_imp,hb,true_and]
   exact or_congr ⟨Eq.symm,Eq.symm⟩ Iff.rfl
  | false=>
   simp only [cond_false,List.mem_cons,z2o (l:=l),exists_eq_or_imp,hb];simp
theorem zbi {t:Nat}:{l:List Operand}->(t∈zts l↔.tmp t∈l)
 | []=>by simp [zts]
 | x :: l=>by cases x <;> simp [zts,zbi (l:=l)]
section
variable {P:Program} {ops:Array Oper} {Q:Exit->Act->World->Prop}
theorem zwn {o:Oper} {t:Nat} (h:t∈o.looksAt ops):zg4 (z6p ops.toList) o t=true:=by
 simp only [Oper.looksAt,List.mem_append,List.mem_filterMap] at h;simp only [zg4,Bool.or_eq_true,z27,zbi];rcases h with ⟨x,hx,h⟩ | h
 ·left;cases x <;> simp at h;subst h;exact hx
 ·right;unfold guardL
  cases hg:o.guard with
  | none=>rw [hg] at h;simp at h
  | some gw=>
   obtain ⟨j,want⟩:=gw;rw [hg] at h;simp only at h;have e:=zex (ops:=ops) j
   cases hd:(ops[j]?).bind (·.dst) with
   | none=>rw [hd] at h;simp at h
   | some d=>
    rw [hd] at h e;simp only [e];simpa using h
theorem zhj {x y:Oper} (h:ze7 (z6p ops.toList) x y=true):x.apart ops y=true:=by
 unfold ze7 at h;simp only [zA] at h;unfold Oper.apart;simp only [zA];have hno:∀ (o:Oper) (d:Nat),(!zg4 (z6p ops.toList) o d)=true->(!(o.looksAt ops).contains d)=true:=by
  intro o d hd
  cases hc:(o.looksAt ops).contains d with
  | false=>rfl
  | true=>
   have:=zwn (ops:=ops) (List.contains_iff_mem.1 hc);rw [this] at hd;simp at hd
 constructor
 ·have h1:=h.1
  cases hx:x.dst with
  | none=>rfl
  | some d=>
   rw [hx] at h1;simp only [zA] at h1 ⊢;refine ⟨hno y d h1.1,?_⟩;have h2:=h1.2
   cases hy:y.dst with
   | none=>simp
   | some e=>
    rw [hy] at h2;simp only [bne_iff_ne,ne_eq,zI];intro he;subst he;simp [Nat.beq_refl] at h2
 ·have h2:=h.2
  cases hy:y.dst with
  | none=>rfl
  | some d=>rw [hy] at h2;exact hno x d h2
structure Rel (ops:Array Oper) (listed:Array Bool) (done:List Nat):Prop where
 size:listed.size=ops.size
 get:∀ j,j < ops.size->listed[j]? = some (z2q j done)
theorem Rel.getD {listed:Array Bool} {done:List Nat} (h:Rel ops listed done) {j:Nat} (hj:j < ops.size) (d:Bool):listed.getD j d=z2q j done:=by
 simp [Array.getD_eq_getD_getElem?,h.get j hj]
theorem Rel.start:Rel ops (Array.replicate ops.size false) []:=⟨by simp,fun j hj=>by simp [hj,z2q]⟩
theorem Rel.add {listed:Array Bool} {done:List Nat} (h:Rel ops listed done) {i:Nat}:Rel ops (listed.setIfInBounds i true) (i :: done):=by
 refine ⟨by simp [h.size],fun j hj=>?_⟩;rw [Array.getElem?_setIfInBounds];have hlt:j < listed.size:=by rw [h.size];exact hj
 by_cases hij:i=j
 ·subst hij;simp [hlt,z2q,Nat.beq_refl]
 ·rw [if_neg hij,h.get j hj];have:Nat.beq i j=false:=by
   cases hb:Nat.beq i j with
   | true=>exact absurd (zE hb) hij
   | false=>rfl
  simp [z2q,this]
structure Plain' (ops:Array Oper):Prop where
 sel:∀ (j:Nat) (o:Oper) cs b,ops[j]? = some o->o.op≠.select cs b
theorem z1n {j:Nat} {o:Oper} (h:ops[j]? = some o):(j,o)∈z09 0 ops.toList:=by
 have key:∀ (l:List Oper) (i j:Nat),l[j]? = some o->(i+j,o)∈z09 i l:=by
  intro l
  induction l with
  | nil=>intro i j h;simp at h
  | cons x l ih=>
   intro i j h
   cases j with
   | zero=>simp only [List.getElem?_cons_zero,zI] at h;subst h;simp [z09]
   | succ j=>
    have:=ih (i+1) j (by simpa using h);simp only [z09,List.mem_cons];right;have e:i+(j+1)=i+1+j:=by omega
    rw [e];exact this
 have:=key ops.toList 0 j (by rw [Array.getElem?_toList];exact h);simpa using this
theorem z2l {j:Nat} {o:Oper} (h:ops[j]? = some o):j < ops.size:=(Array.getElem?_eq_some_iff.1 h).1
theorem zmw:(l:List (Nat×Oper))->zfo l=true->∀ x∈l,∀ cs b,x.2.op≠.select cs b
 | [],_,_,hx=>by simp at hx
 | (i,o) :: l,h,x,hx=>by
  simp only [zfo,zA] at h;rcases List.mem_cons.1 hx with rfl | hx
  ·intro cs b hs;have:=h.1;rw [hs] at this;simp at this
  ·exact zmw l h.2 x hx
theorem zkp (h:zfo (z09 0 ops.toList)=true):Plain' ops:=
 ⟨fun j o cs b ho=>zmw _ h _ (z1n ho) cs b⟩
theorem zvr {listed:Array Bool} {done:List Nat} (hr:Rel ops listed done) {j:Nat} {o:Oper} (ho:ops[j]? = some o) :
  j∈Region.ready .any ops listed↔j∉done∧∀ e∈o.after,Region.binds .any e=true->e.on∈done∧e.on < ops.size:=by
 rw [mem_ready];have hj:=z2l ho;rw [hr.getD hj];have hb:∀ x,z2q x done=false↔x∉done:=fun x=>by
  rw [←z27];simp
 rw [hb];refine and_congr Iff.rfl ⟨?_,?_⟩
 ·rintro ⟨o',ho',hall⟩ e he hbe;rw [ho] at ho';simp only [zI] at ho';subst ho';have:=hall e he hbe;by_cases hlt:e.on < ops.size
  ·rw [hr.getD hlt,z27] at this;exact ⟨this,hlt⟩
  ·have hn:listed[e.on]? = none:=by rw [Array.getElem?_eq_none_iff,hr.size];omega
   simp [Array.getD_eq_getD_getElem?,hn] at this
 ·intro hall;refine ⟨o,ho,fun e he hbe=>?_⟩;obtain ⟨h1,h2⟩:=hall e he hbe;rw [hr.getD h2,z27];exact h1
theorem zj8 {i x:Nat}:{l:List (Nat×Oper)}->{acc:List Nat}->x∈acc->x∈z3b i l acc
 | [],_,h=>h
 | (j,o) :: l,acc,h=>by
  simp only [z3b];refine zj8 (l:=l) ?_
  cases (z2q i (z43 o.after.toList) || zr7 (z43 o.after.toList) acc) with
  | true=>simp [h]
  | false=>exact h
theorem z7v {i:Nat}:{l:List (Nat×Oper)}->{acc:List Nat}->{G:Nat->Prop}->
  (∀ x∈acc,G x)->(∀ j o,(j,o)∈l->(∃ y∈z43 o.after.toList,y=i∨y∈z3b i l acc)->G j)->∀ x∈z3b i l acc,G x
 | [],_,_,h,_,x,hx=>h x hx
 | (j,o) :: l,acc,G,h,hG,x,hx=>by
  simp only [z3b] at hx hG;refine z7v (l:=l) ?_ (fun j' o' hm hy=>hG j' o' (by simp [hm]) hy) x hx;intro y hy
  cases hc:(z2q i (z43 o.after.toList) || zr7 (z43 o.after.toList) acc) with
  | false=>rw [hc] at hy;exact h y hy
  | true=>
   rw [hc] at hy hG;simp only [cond_true,List.mem_cons] at hy hG;rcases hy with rfl | hy
   ·refine hG y o (by simp) ?_;simp only [Bool.or_eq_true,z27,zpb] at hc;rcases hc with hc | ⟨z,hz,hza⟩
    ·exact ⟨i,hc,.inl rfl⟩
    ·exact ⟨z,hz,.inr (zj8 (by simp [hza]))⟩
   ·exact h y hy
theorem z8l {q:Bool} {dst:Nat->Option Nat} {done later:List Nat} {i:Nat} {o:Oper}:{l:List (Nat×Oper)}->freeL q dst done later i o l=true->∀ x∈l,
  x.1=i∨x.1∈done∨((i∈z43 x.2.after.toList∨ze7 dst o x.2=true)∧(isP o=true∨zlz q x.2=false∨x.1∈later))
 | [],_,x,hx=>by simp at hx
 | (j,oj) :: l,h,x,hx=>by
  simp only [freeL,zA] at h;rcases List.mem_cons.1 hx with rfl | hx
  ·have h1:=h.1;simp only [Bool.or_eq_true,zA,z27,Bool.not_eq_true'] at h1;rcases h1 with (h1 | h1) | h1
   ·exact .inl (zE h1)
   ·exact .inr (.inl h1)
   ·exact .inr (.inr ⟨h1.1,or_assoc.1 h1.2⟩)
  ·exact z8l h.2 x hx
theorem z9o {done:List Nat} {i:Nat}:{l:List (Nat×Oper)}->zpe done i l=true->∀ x∈l,x.1=i∨x.1∈done∨zag done x.2=false
 | [],_,x,hx=>by simp at hx
 | (j,oj) :: l,h,x,hx=>by
  simp only [zpe,zA] at h;rcases List.mem_cons.1 hx with rfl | hx
  ·have h1:=h.1;simp only [Bool.or_eq_true,z27,Bool.not_eq_true'] at h1;rcases h1 with (h1 | h1) | h1
   ·exact .inl (zE h1)
   ·exact .inr (.inl h1)
   ·exact .inr (.inr h1)
  ·exact z9o h.2 x hx
theorem z2i {listed:Array Bool} {done:List Nat} (hr:Rel ops listed done) (hd:∀ x∈done,x < ops.size) {j:Nat} {o:Oper} (ho:ops[j]? = some o) :
  j∈Region.ready .any ops listed↔j∉done∧zag done o=true:=by
 rw [zvr hr ho];refine and_congr Iff.rfl ?_;unfold zag;rw [zcm];constructor
 ·intro h x hx;obtain ⟨e,he,hbe,rfl⟩:=z2o.1 hx;exact (h e (by simpa using he) hbe).1
 ·intro h e he hbe;have:=h e.on (z2o.2 ⟨e,by simpa using he,hbe,rfl⟩);exact ⟨this,hd _ this⟩
theorem z2b.wpOp {q:Bool} {i:Nat} {o:Oper} {K:Act->World->Prop} {a:Act} {w:World} (hi:ops[i]? = some o) (h:z2b q P ops Q o K a w) :
  wpOp P ops Q i (fun a' w'=>(∀ o,ops[i]? = some o->zlz q o=false->z44 w w')∧K a' w') a w:=by
 unfold z2b at h;unfold Go.wpOp;simp only [hi,zI];split
 ·rename_i hw;rw [if_pos hw] at h;left;rcases h with ⟨_,v,h1,h2⟩ | ⟨_,h1⟩
  ·exact zf3 (h1 w (AgP.refl _ w)) ⟨fun _ _ _=>z44.refl w,h2⟩
  ·exact Oper.wp_mono (fun a' w' hh=>⟨fun o' ho' hm=>hh.1 (by rw [ho'];exact hm),hh.2⟩) h1
 ·rename_i hw;rw [if_neg hw] at h;exact ⟨fun _ _ _=>z44.refl w,h⟩
theorem step_ok {q:Bool} (hp:Plain' ops) (hQ:∀ c a w,¬ Q (.panic c) a w) {i:Nat} {o:Oper} {listed:Array Bool} {done:List Nat} {a:Act} {w:World} {f:Nat} {K':Act->World->Prop} (hi:ops[i]? = some o) (hr:Rel ops listed done) (hd:∀ x∈done,x < ops.size)
  (hni:i∉done) (hat:zys q (z6p ops.toList) (z09 0 ops.toList) done i o=true) (h:z2b q P ops Q o K' a w) (ih:∀ a' w',K' a' w'->zi6 q P .any ops Q f (listed.setIfInBounds i true) a' w'):zi6 q P .any ops Q (f+1) listed a w:=by
 simp only [zys,zA,Bool.or_eq_true] at hat;have hir:i∈Region.ready .any ops listed:=(z2i hr hd hi).2 ⟨hni,hat.1⟩;have h':z2b q P ops Q o K' a w:=h;rcases hat.2 with ⟨⟨hy,hfree⟩,hnone⟩ | hal
 ·have later_ok:∀ x∈z3b i (z09 0 ops.toList) [],x < ops.size∧∀ ox,ops[x]? = some ox->∃ e∈ox.after,Region.binds .any e=true∧(e.on=i∨e.on∈z3b i (z09 0 ops.toList) []):=by
   refine z7v (by simp) (fun j oj hm hy=>?_);have hoj:=z1w _ hm;refine ⟨z2l hoj,fun ox hox=>?_⟩;simp only at hoj;rw [hoj] at hox;simp only [zI] at hox;subst hox;obtain ⟨y,hy1,hy2⟩:=hy;obtain ⟨e,he,hbe,rfl⟩:=z2o.1 hy1;exact ⟨e,by simpa using he,hbe,hy2⟩
  have hyi:∃ v,YieldsIf P ops (AgP o w) o v a∧K' (a.put o.dst v) w:=by
   unfold z2b at h';split at h'
   ·rename_i hw;rcases h' with ⟨_,v,h1,h2⟩ | ⟨h1,_⟩
    ·exact ⟨v,.inl ⟨hw,h1⟩,h2⟩
    ·rw [hy] at h1;simp at h1
   ·rename_i hw;exact ⟨undef,.inr ⟨by simpa using hw,rfl⟩,h'⟩
  obtain ⟨v,hyv,hk⟩:=hyi;have hun:∀ j,j < ops.size->listed.getD j true=false->j∉done:=fun j hj hu=>by
   rw [hr.getD hj] at hu;exact z10.1 hu
  refine zdl (w0:=w) (Lt:=z3b i (z09 0 ops.toList) []) hi hp.sel hQ (fun x hx=>(later_ok x hx).2) f listed a w ?_ ?_ ?_ hir hyv (AgP.refl o w) (ih _ _ hk)
  ·intro j oj hoj hji hu hno;rcases z8l hfree _ (z1n hoj) with h1 | h1 | ⟨h1 | h1,_⟩
   ·exact absurd h1 hji
   ·exact absurd h1 (hun j (z2l hoj) hu)
   ·obtain ⟨e,he,hbe,hei⟩:=z2o.1 h1;exact absurd hei (hno e (by simpa using he) hbe)
   ·exact zhj h1
  ·intro x hx;rw [hr.getD (later_ok x hx).1];exact z10.2 ((z5d.1 hnone) x hx)
  ·intro j oj hoj hji hu hM;rcases z8l hfree _ (z1n hoj) with h1 | h1 | ⟨_,h1 | h1 | h1⟩
   ·exact absurd h1 hji
   ·exact absurd h1 (hun j (z2l hoj) hu)
   ·exact .inr h1
   ·rw [hM] at h1;simp at h1
   ·exact .inl h1
 ·refine ⟨fun h0=>(by rw [h0] at hir;cases hir),fun j hj=>?_⟩;obtain ⟨_,oj,hoj,_⟩:=mem_ready.1 hj;have h1:=(z2i hr hd hoj).1 hj;have hji:j=i:=by
   rcases z9o hal _ (z1n hoj) with h2 | h2 | h2
   ·exact h2
   ·exact absurd h2 h1.1
   ·rw [h1.2] at h2;simp at h2
  subst hji;exact wpOp_mono (fun a' w' hh=>⟨hh.1,ih _ _ hh.2⟩) (h'.wpOp hi)
theorem zrz {q:Bool} (hp:Plain' ops) (hQ:∀ c a w,¬ Q (.panic c) a w):(L:List (Nat×Oper))->(∀ x∈L,ops[x.1]? = some x.2)->{listed:Array Bool}->{done:List Nat}->{a:Act}->{w:World}->{fuel:Nat}->
  L.length≤fuel->Rel ops listed done->(∀ x∈done,x < ops.size)->zaw q (z6p ops.toList) (z09 0 ops.toList) L done=true->wpL q P ops Q (Q .normal) L a w->zi6 q P .any ops Q fuel listed a w
 | [],_,listed,done,a,w,fuel,_,hr,hd,ho,h=>by
  simp only [zaw] at ho;have hnone:Region.ready .any ops listed=[]:=by
   rw [List.eq_nil_iff_forall_not_mem];intro j hj;obtain ⟨_,o,hoj,_⟩:=mem_ready.1 hj;have h1:=(z2i hr hd hoj).1 hj;rcases z9o ho _ (z1n hoj) with h2 | h2 | h2
   ·have h3:=z6j (z1n hoj);have h4:(z09 0 ops.toList).length=ops.toList.length:=by
     have:=congrArg List.length (z72 ops.toList 0);simpa using this
    simp only at h2 h3;omega
   ·exact h1.1 h2
   ·rw [h1.2] at h2;simp at h2
  cases fuel with
  | zero=>exact ⟨hnone,h⟩
  | succ f=>exact ⟨fun _=>h,fun i hi=>by rw [hnone] at hi;simp at hi⟩
 | (i,o) :: L,hL,listed,done,a,w,fuel,hf,hr,hd,ho,h=>by
  simp only [zaw,zA,Bool.not_eq_true'] at ho;obtain ⟨⟨hni,hat⟩,hrest⟩:=ho;have hi:ops[i]? = some o:=hL (i,o) (by simp);have hlt:=z2l hi;obtain ⟨f,rfl⟩:∃ f,fuel=f+1:=⟨fuel-1,by simp only [List.length_cons] at hf;omega⟩;have hf':L.length≤f:=by simp only [List.length_cons] at hf;omega
  have hd':∀ x∈i :: done,x < ops.size:=by
   intro x hx;rcases List.mem_cons.1 hx with rfl | hx
   ·exact hlt
   ·exact hd x hx
  have ih:∀ {a' w'},wpL q P ops Q (Q .normal) L a' w'->zi6 q P .any ops Q f (listed.setIfInBounds i true) a' w':=fun {a' w'} h'=>
   zrz hp hQ L (fun x hx=>hL x (by simp [hx])) hf' hr.add hd' hrest h'
  simp only [zys,zA,Bool.or_eq_true] at hat;have hir:i∈Region.ready .any ops listed:=(z2i hr hd hi).2 ⟨z10.1 hni,hat.1⟩;have h':z2b q P ops Q o (wpL q P ops Q (Q .normal) L) a w:=h;rcases hat.2 with ⟨⟨hy,hfree⟩,hnone⟩ | hal
  ·have later_ok:∀ x∈z3b i (z09 0 ops.toList) [],x < ops.size∧∀ ox,ops[x]? = some ox->∃ e∈ox.after,Region.binds .any e=true∧(e.on=i∨e.on∈z3b i (z09 0 ops.toList) []):=by
    refine z7v (by simp) (fun j oj hm hy=>?_);have hoj:=z1w _ hm;refine ⟨z2l hoj,fun ox hox=>?_⟩;simp only at hoj;rw [hoj] at hox;simp only [zI] at hox;subst hox;obtain ⟨y,hy1,hy2⟩:=hy;obtain ⟨e,he,hbe,rfl⟩:=z2o.1 hy1;exact ⟨e,by simpa using he,hbe,hy2⟩
   have hyi:∃ v,YieldsIf P ops (AgP o w) o v a∧wpL q P ops Q (Q .normal) L (a.put o.dst v) w:=by
    unfold z2b at h';split at h'
    ·rename_i hw;rcases h' with ⟨_,v,h1,h2⟩ | ⟨h1,_⟩
     ·exact ⟨v,.inl ⟨hw,h1⟩,h2⟩
     ·rw [hy] at h1;simp at h1
    ·rename_i hw;exact ⟨undef,.inr ⟨by simpa using hw,rfl⟩,h'⟩
   obtain ⟨v,hyv,hk⟩:=hyi;have hun:∀ j,j < ops.size->listed.getD j true=false->j∉done:=fun j hj hu=>by
    rw [hr.getD hj] at hu;exact z10.1 hu
   refine zdl (w0:=w) (Lt:=z3b i (z09 0 ops.toList) []) hi hp.sel hQ (fun x hx=>(later_ok x hx).2) f listed a w ?_ ?_ ?_ hir hyv (AgP.refl o w) (ih hk)
   ·intro j oj hoj hji hu hno;rcases z8l hfree _ (z1n hoj) with h1 | h1 | ⟨h1 | h1,_⟩
    ·exact absurd h1 hji
    ·exact absurd h1 (hun j (z2l hoj) hu)
    ·obtain ⟨e,he,hbe,hei⟩:=z2o.1 h1;exact absurd hei (hno e (by simpa using he) hbe)
    ·exact zhj h1
   ·intro x hx;rw [hr.getD (later_ok x hx).1];exact z10.2 ((z5d.1 hnone) x hx)
   ·intro j oj hoj hji hu hM;rcases z8l hfree _ (z1n hoj) with h1 | h1 | ⟨_,h1 | h1 | h1⟩
    ·exact absurd h1 hji
    ·exact absurd h1 (hun j (z2l hoj) hu)
    ·exact .inr h1
    ·rw [hM] at h1;simp at h1
    ·exact .inl h1
  ·refine ⟨fun h0=>(by rw [h0] at hir;cases hir),fun j hj=>?_⟩;obtain ⟨_,oj,hoj,_⟩:=mem_ready.1 hj;have h1:=(z2i hr hd hoj).1 hj;have hji:j=i:=by
    rcases z9o hal _ (z1n hoj) with h2 | h2 | h2
    ·exact h2
    ·exact absurd h2 h1.1
    ·rw [h1.2] at h2;simp at h2
   subst hji;exact wpOp_mono (fun a' w' hh=>⟨hh.1,ih hh.2⟩) (h'.wpOp hi)
theorem zd1 {q:Bool} {dst:Nat->Option Nat} {all:List (Nat×Oper)}:{n:Nat}->{done:List Nat}->∀ x∈zdz q dst all n done,x∈all
 | 0,_,x,hx=>by simp [zdz] at hx
 | n+1,done,x,hx=>by
  simp only [zdz] at hx;split at hx
  ·rename_i i o hn;have hmem:(i,o)∈all:=by
    have key:∀ (l:List (Nat×Oper)),zl2 q dst all done l=some (i,o)->(i,o)∈l:=by
     intro l
     induction l with
     | nil=>intro h;simp [zl2] at h
     | cons y l ih=>
      obtain ⟨j,oj⟩:=y;intro h;simp only [zl2] at h
      cases hc:(!z2q j done && zys q dst all done j oj) with
      | true=>rw [hc] at h;simp at h;simp [h.1,h.2]
      | false=>rw [hc] at h;simp only [cond_false] at h;simp [ih h]
    exact key all hn
   rcases List.mem_cons.1 hx with rfl | hx
   ·exact hmem
   ·exact zd1 x hx
  ·simp at hx
theorem ziv {q:Bool} {dst:Nat->Option Nat} {all:List (Nat×Oper)}:(n:Nat)->(done:List Nat)->(zdz q dst all n done).length≤n
 | 0,_=>by simp [zdz]
 | n+1,done=>by
  simp only [zdz];split
  ·simp only [List.length_cons];exact Nat.succ_le_succ (ziv n _)
  ·simp
theorem zbx {q:Bool} {dst:Nat->Option Nat} {all:List (Nat×Oper)}:{L:List (Nat×Oper)}->{done:List Nat}->zaw q dst all L done=true->(L.map Prod.fst).Nodup∧∀ x∈L,x.1∉done
 | [],_,_=>⟨by simp,by simp⟩
 | (i,o) :: L,done,h=>by
  simp only [zaw,zA,Bool.not_eq_true'] at h;obtain ⟨h1,h2⟩:=zbx h.2;refine ⟨?_,fun x hx=>?_⟩
  ·simp only [List.map_cons,List.nodup_cons];refine ⟨fun hm=>?_,h1⟩;obtain ⟨x,hx,he⟩:=List.mem_map.1 hm;exact h2 x hx (by simp [he])
  ·rcases List.mem_cons.1 hx with rfl | hx
   ·exact z10.1 h.1.1
   ·exact fun hd=>h2 x hx (by simp [hd])
end
end Go.Kz
namespace Go.Kz
variable {R:Type}
theorem zk0 {a b:Ty} {d:a.den} {k:b.den->Option R}:z5q a b d k=(z5q a b d some).bind k:=by
 unfold z5q;split <;> rfl
theorem zne {t:Ty} {k:t.den->Option R}:nilK t k=(nilK t some).bind k:=by
 cases t <;> rfl
def z8v (l:List Operand) (σ σ':St):Prop:=∀ t,.tmp t∈l->σ'.slots t=σ.slots t
theorem z0t {l:List Operand} {σ σ':St} (h:z8v l σ σ') {x:Operand} (hx:x∈l):ev σ' x=ev σ x:=by
 cases x with
 | tmp t=>exact h t hx
 | const v=>
  unfold ev
  cases v with
  | slice a l c=>cases a <;> cases l <;> cases c <;> rfl
  | _=>rfl
 | _=>rfl
theorem za9 {l:List Operand} {σ σ':St} (h:z8v l σ σ'):{m:List Operand}->(∀ x∈m,x∈l)->evs σ' m=evs σ m
 | [],_=>rfl
 | x :: m,hm=>by simp only [evs,z0t h (hm x (by simp)),za9 h (m:=m) (fun y hy=>hm y (by simp [hy]))]
theorem zis {a:AVal}:{l:List Callee}->{x:Callee}->zmr l=true->zbv a l=some x->∃ p res F,x = .pure p res F
 | [],_,_,h=>by simp [zbv] at h
 | .pure p res F :: l,x,hp,h=>by
  simp only [zbv] at h
  cases hf:(Callee.pure p res F).fits a with
  | true=>rw [hf] at h;simp only [cond_true,zI] at h;exact ⟨p,res,F,h.symm⟩
  | false=>rw [hf] at h;exact zis (by simpa [zmr] using hp) h
 | .mut _ _ _ _ :: l,x,hp,h=>by simp [zmr] at hp
theorem zr2 {σ:St} {x:Operand} {g a all:AVal} {f:Nat} (hx:ev σ x=some g) (h:z5k g a=some (f,all)):z8p σ x=some f:=by
 unfold z5k at h;unfold z8p;rw [hx];split at h
 ·rename_i fid cap
  cases hl:z6t cap with
  | false=>rw [hl] at h;simp at h
  | true=>
   rw [hl] at h;simp only [cond_true,zI,Prod.mk.injEq] at h;rw [←h.1]
 ·rename_i fid t d
  cases hl:(z6t (z2r t d) && (z2r t d).sk.same t.sk) with
  | false=>rw [hl] at h;simp at h
  | true=>
   rw [hl] at h;simp only [cond_true,zI,Prod.mk.injEq] at h;rw [←h.1]
 ·simp at h
theorem z7x:(t:Ty)->(d:t.den)->(p:z1a)->{R:Type}->{k:(u:Ty)->u.den->Option R}->z13 t d p k=(z13 t d p fun u e=>some (AVal.data u e)).bind fun v=>match v with
  | .data u e=>k u e
  | _=>none
 | .pair a _,(x,_),.fst :: p,_,k=>by simp only [z13];exact z7x a x p
 | .pair _ b,(_,y),.snd :: p,_,k=>by simp only [z13];exact z7x b y p
 | .arr _ t,l,.idx i :: p,_,k=>by
  simp only [z13]
  cases idx l i with
  | none=>rfl
  | some x=>exact z7x t x p
 | .sl true t,l,.idx i :: p,_,k=>by
  simp only [z13]
  cases idx l i with
  | none=>rfl
  | some x=>exact z7x t x p
 | .int _,d,[],_,k=>rfl
 | .bool,d,[],_,k=>rfl
 | .str,d,[],_,k=>rfl
 | .unit,d,[],_,k=>rfl
 | .pair _ _,(_,_),[],_,k=>rfl
 | .arr _ _,d,[],_,k=>rfl
 | .sl true _,d,[],_,k=>rfl
 | .sl false _,d,[],_,k=>rfl
 | .ptr _,d,[],_,k=>rfl
 | .fn _ _,d,[],_,k=>rfl
 | .int _,d,s :: p,_,k=>by cases s <;> rfl
 | .bool,d,s :: p,_,k=>by cases s <;> rfl
 | .str,d,s :: p,_,k=>by cases s <;> rfl
 | .unit,d,s :: p,_,k=>by cases s <;> rfl
 | .sl false _,d,s :: p,_,k=>by cases s <;> rfl
 | .ptr _,d,s :: p,_,k=>by cases s <;> rfl
 | .fn _ _,d,s :: p,_,k=>by cases s <;> rfl
 | .pair _ _,(_,_),.idx _ :: p,_,k=>rfl
 | .arr _ _,d,.fst :: p,_,k=>rfl
 | .arr _ _,d,.snd :: p,_,k=>rfl
 | .sl true _,d,.fst :: p,_,k=>rfl
 | .sl true _,d,.snd :: p,_,k=>rfl
theorem z9f:(a:AVal)->(p:z1a)->{R:Type}->{k:AVal->Option R}->zak a p k=(zak a p some).bind k
 | a,[],_,k=>by cases a <;> rfl
 | .agg c,s :: p,_,k=>by simp only [zak];exact z9f c (s :: p)
 | .pr a _,.fst :: p,_,k=>by simp only [zak];exact z9f a p
 | .pr _ b,.snd :: p,_,k=>by simp only [zak];exact z9f b p
 | .pr _ _,.idx _ :: p,_,k=>rfl
 | .data t d,s :: p,_,k=>by
  simp only [zak];rw [z7x t d (s :: p),z7x t d (s :: p) (k:=fun u e=>some (AVal.data u e))]
  cases z13 t d (s :: p) (fun u e=>some (AVal.data u e)) with
  | none=>rfl
  | some v=>cases v <;> rfl
 | .nilS,s :: p,_,k=>by cases s <;> rfl
 | .ref _ _ _,s :: p,_,k=>by cases s <;> rfl
 | .view _ _ _ _ _,s :: p,_,k=>by cases s <;> rfl
 | .bptr _ _,s :: p,_,k=>by cases s <;> rfl
 | .eptr _ _ _,s :: p,_,k=>by cases s <;> rfl
 | .mref _,s :: p,_,k=>by cases s <;> rfl
 | .nv _ _ _ _,s :: p,_,k=>by cases s <;> rfl
 | .clos _ _,s :: p,_,k=>by cases s <;> rfl
 | .ifc _ _,s :: p,_,k=>by cases s <;> rfl
 | .tup _,s :: p,_,k=>by cases s <;> rfl
 | .un,s :: p,_,k=>by cases s <;> rfl
theorem St.ext' {a b:St} (h1:a.slots=b.slots) (h2:a.objs=b.objs) (h3:a.next=b.next):a=b:=by
 cases a;cases b;simp only at h1 h2 h3;subst h1;subst h2;subst h3;rfl
end Go.Kz
namespace Go.Kz
variable {R:Type}
section
variable {P:Program} {ops:Array Oper} {Q:Exit->Act->World->Prop}
theorem zhm {x:Nat}:{l:List (Nat×Oper)}->{d:List Nat}->(x∈z37 l d↔x∈d∨x∈l.map Prod.fst)
 | [],d=>by simp [z37]
 | (i,o) :: l,d=>by
  simp only [z37,List.map_cons,List.mem_cons];rw [zhm (l:=l)];simp only [List.mem_cons];constructor
  ·rintro ((h | h) | h)
   ·exact .inr (.inl h)
   ·exact .inl h
   ·exact .inr (.inr h)
  ·rintro (h | h | h)
   ·exact .inl (.inr h)
   ·exact .inl (.inl h)
   ·exact .inr h
theorem Rel.same {listed:Array Bool} {d d':List Nat} (h:Rel ops listed d) (he:∀ x,x∈d↔x∈d'):Rel ops listed d':=by
 refine ⟨h.size,fun j hj=>?_⟩;rw [h.get j hj];congr 1;rw [Bool.eq_iff_iff,z27,z27];exact he j
theorem zn0 (hp:Plain' ops) (hQ:∀ c a w,¬ Q (.panic c) a w) {f:Nat}:(L:List (Nat×Oper))->(∀ x∈L,ops[x.1]? = some x.2)->{listed:Array Bool}->{done:List Nat}->{a:Act}->{w:World}->
  Rel ops listed done->(∀ x∈done,x < ops.size)->zu9 (z6p ops.toList) (z09 0 ops.toList) L done=true->
  wpL false P ops Q (fun a w=>∀ listed',Rel ops listed' (z37 L done)->zi6 false P .any ops Q f listed' a w) L a w->zi6 false P .any ops Q (L.length+f) listed a w
 | [],_,listed,done,a,w,hr,hd,ho,h=>by
  rw [List.length_nil,Nat.zero_add]
  exact h listed hr
 | (i,o) :: L,hL,listed,done,a,w,hr,hd,ho,h=>by
  simp only [zu9,zA,Bool.not_eq_true'] at ho;obtain ⟨⟨hni,hat⟩,hrest⟩:=ho;have hi:ops[i]? = some o:=hL (i,o) (by simp);have hlt:=z2l hi;have hd':∀ x∈i :: done,x < ops.size:=by
   intro x hx;rcases List.mem_cons.1 hx with rfl | hx
   ·exact hlt
   ·exact hd x hx
  have e0:((i,o) :: L).length+f=(L.length+f)+1:=by simp only [List.length_cons];omega
  rw [e0];have ih:∀ {a' w'},wpL false P ops Q (fun a w=>∀ listed',Rel ops listed' (z37 ((i,o) :: L) done)->zi6 false P .any ops Q f listed' a w) L a' w'->zi6 false P .any ops Q (L.length+f) (listed.setIfInBounds i true) a' w':=fun {a' w'} h'=>
   zn0 hp hQ L (fun x hx=>hL x (by simp [hx])) hr.add hd' hrest h'
  simp only [zys,zA,Bool.or_eq_true] at hat;have hir:i∈Region.ready .any ops listed:=(z2i hr hd hi).2 ⟨z10.1 hni,hat.1⟩;have h':z2b false P ops Q o (wpL false P ops Q (fun a w=>∀ listed',Rel ops listed' (z37 ((i,o) :: L) done)->zi6 false P .any ops Q f listed' a w) L) a w:=h;rcases hat.2 with ⟨⟨hy,hfree⟩,hnone⟩ | hal
  ·have later_ok:∀ x∈z3b i (z09 0 ops.toList) [],x < ops.size∧∀ ox,ops[x]? = some ox->∃ e∈ox.after,Region.binds .any e=true∧(e.on=i∨e.on∈z3b i (z09 0 ops.toList) []):=by
    refine z7v (by simp) (fun j oj hm hy=>?_);have hoj:=z1w _ hm;refine ⟨z2l hoj,fun ox hox=>?_⟩;simp only at hoj;rw [hoj] at hox;simp only [zI] at hox;subst hox;obtain ⟨y,hy1,hy2⟩:=hy;obtain ⟨e,he,hbe,rfl⟩:=z2o.1 hy1;exact ⟨e,by simpa using he,hbe,hy2⟩
   have hyi:∃ v,YieldsIf P ops (AgP o w) o v a∧wpL false P ops Q (fun a w=>∀ listed',Rel ops listed' (z37 ((i,o) :: L) done)->zi6 false P .any ops Q f listed' a w) L (a.put o.dst v) w:=by
    unfold z2b at h';split at h'
    ·rename_i hw;rcases h' with ⟨_,v,h1,h2⟩ | ⟨h1,_⟩
     ·exact ⟨v,.inl ⟨hw,h1⟩,h2⟩
     ·rw [hy] at h1;simp at h1
    ·rename_i hw;exact ⟨undef,.inr ⟨by simpa using hw,rfl⟩,h'⟩
   obtain ⟨v,hyv,hk⟩:=hyi;have hun:∀ j,j < ops.size->listed.getD j true=false->j∉done:=fun j hj hu=>by
    rw [hr.getD hj] at hu;exact z10.1 hu
   refine zdl (w0:=w) (Lt:=z3b i (z09 0 ops.toList) []) hi hp.sel hQ (fun x hx=>(later_ok x hx).2) _ listed a w ?_ ?_ ?_ hir hyv (AgP.refl o w) (ih hk)
   ·intro j oj hoj hji hu hno;rcases z8l hfree _ (z1n hoj) with h1 | h1 | ⟨h1 | h1,_⟩
    ·exact absurd h1 hji
    ·exact absurd h1 (hun j (z2l hoj) hu)
    ·obtain ⟨e,he,hbe,hei⟩:=z2o.1 h1;exact absurd hei (hno e (by simpa using he) hbe)
    ·exact zhj h1
   ·intro x hx;rw [hr.getD (later_ok x hx).1];exact z10.2 ((z5d.1 hnone) x hx)
   ·intro j oj hoj hji hu hM;rcases z8l hfree _ (z1n hoj) with h1 | h1 | ⟨_,h1 | h1 | h1⟩
    ·exact absurd h1 hji
    ·exact absurd h1 (hun j (z2l hoj) hu)
    ·exact .inr h1
    ·rw [hM] at h1;simp at h1
    ·exact .inl h1
  ·refine ⟨fun h0=>(by rw [h0] at hir;cases hir),fun j hj=>?_⟩;obtain ⟨_,oj,hoj,_⟩:=mem_ready.1 hj;have h1:=(z2i hr hd hoj).1 hj;have hji:j=i:=by
    rcases z9o hal _ (z1n hoj) with h2 | h2 | h2
    ·exact h2
    ·exact absurd h2 h1.1
    ·rw [h1.2] at h2;simp at h2
   subst hji;exact wpOp_mono (fun a' w' hh=>⟨hh.1,ih hh.2⟩) (h'.wpOp hi)
theorem zn6 {dst:Nat->Option Nat} {all:List (Nat×Oper)}:{L:List (Nat×Oper)}->{done:List Nat}->zu9 dst all L done=true->(L.map Prod.fst).Nodup∧∀ x∈L,x.1∉done
 | [],_,_=>⟨by simp,by simp⟩
 | (i,o) :: L,done,h=>by
  simp only [zu9,zA,Bool.not_eq_true'] at h;obtain ⟨h1,h2⟩:=zn6 h.2;refine ⟨?_,fun x hx=>?_⟩
  ·simp only [List.map_cons,List.nodup_cons];refine ⟨fun hm=>?_,h1⟩;obtain ⟨x,hx,he⟩:=List.mem_map.1 hm;exact h2 x hx (by simp [he])
  ·rcases List.mem_cons.1 hx with rfl | hx
   ·exact z10.1 h.1.1
   ·exact fun hd=>h2 x hx (by simp [hd])
theorem zpc {n m:Nat} (h:n=m) {md:Region.Mode} {l:Array Bool} {a:Act} {w:World} (hg:zi6 false P md ops Q n l a w):zi6 false P md ops Q m l a w:=h ▸ hg
end
end Go.Kz
namespace Go.Kz
variable {R:Type}
def OLe (σ τ:St):Prop:=∀ id x,σ.objs id=some x->τ.objs id=some x
theorem OLe.refl (σ:St):OLe σ σ:=fun _ _ h=>h
def putO:List (Nat×Option Obj)->St->St
 | [],σ=>σ
 | (i,o) :: l,σ=>putO l { σ with objs:=upd σ.objs i o }
theorem z1k (l m:List (Nat×Option Obj)) (σ:St):putO (l++m) σ=putO m (putO l σ):=by
 induction l generalizing σ with
 | nil=>rfl
 | cons x l ih=>obtain ⟨i,o⟩:=x;exact ih _
theorem OLe.upd {σ τ:St} (h:OLe σ τ) (i:Nat) (o:Option Obj):OLe { σ with objs:=upd σ.objs i o } { τ with objs:=Go.Kz.upd τ.objs i o }:=by
 intro id x hx;simp only [Go.Kz.upd] at hx ⊢
 cases hb:Nat.beq id i with
 | true=>rw [hb] at hx;exact hx
 | false=>rw [hb] at hx;exact h id x hx
theorem OLe.putO {σ τ:St} (h:OLe σ τ):(l:List (Nat×Option Obj))->OLe (Go.Kz.putO l σ) (Go.Kz.putO l τ)
 | []=>h
 | (i,o) :: l=>OLe.putO (h.upd i o) l
theorem za0:(l:List (Nat×Option Obj))->(σ:St)->(putO l σ).slots=σ.slots
 | [],_=>rfl
 | (_,_) :: l,σ=>za0 l _
theorem zmq:(l:List (Nat×Option Obj))->(σ:St)->(putO l σ).next=σ.next
 | [],_=>rfl
 | (_,_) :: l,σ=>zmq l _
theorem zbs {i:Nat}:(l:List (Nat×Option Obj))->(σ:St)->i∉l.map Prod.fst->(putO l σ).objs i=σ.objs i
 | [],_,_=>rfl
 | (j,o) :: l,σ,h=>by
  simp only [List.map_cons,List.mem_cons,not_or] at h;simp only [putO];rw [zbs l _ h.2];have hb:Nat.beq i j=false:=by
   cases hb:Nat.beq i j with
   | true=>exact absurd (zE hb) h.1
   | false=>rfl
  simp only [upd,hb,cond_false]
theorem zkl {i:Nat}:(l:List (Nat×Option Obj))->(σ τ:St)->i∈l.map Prod.fst->(putO l σ).objs i=(putO l τ).objs i
 | [],_,_,h=>by simp at h
 | (j,o) :: l,σ,τ,h=>by
  simp only [putO];by_cases hm:i∈l.map Prod.fst
  ·exact zkl l _ _ hm
  ·rw [zbs l _ hm,zbs l _ hm];simp only [List.map_cons,List.mem_cons] at h;rcases h with rfl | h
   ·simp only [upd,Nat.beq_refl,cond_true]
   ·exact absurd h hm
def Dom (n:Nat) (σ:St) (ob:List (Nat×Option Obj)):Prop:=∀ x∈ob,(∃ y,σ.objs x.1=some y)∨(n≤x.1∧x.1 < n+8)
theorem Dom.nil {n:Nat} {σ:St}:Dom n σ []:=by intro x hx;simp at hx
theorem Dom.append {n:Nat} {σ:St} {l m:List (Nat×Option Obj)} (h:Dom n σ l) (h':Dom n (putO l σ) m):Dom n σ (l++m):=by
 intro x hx;rcases List.mem_append.1 hx with hx | hx
 ·exact h x hx
 ·rcases h' x hx with ⟨y,hy⟩ | h2
  ·by_cases hm:x.1∈l.map Prod.fst
   ·obtain ⟨z,hz,he⟩:=List.mem_map.1 hm;rw [←he];exact h z hz
   ·rw [zbs l σ hm] at hy;exact .inl ⟨y,hy⟩
  ·exact .inr h2
theorem Dom.old {n:Nat} {σ:St} {i:Nat} {y:Obj} {o:Option Obj} (h:σ.objs i=some y):Dom n σ [(i,o)]:=by
 intro x hx;simp only [List.mem_singleton] at hx;subst hx;exact .inl ⟨y,h⟩
theorem Dom.new {n:Nat} {σ:St} {o:Option Obj}:Dom n σ [(n,o)]:=by
 intro x hx;simp only [List.mem_singleton] at hx;subst hx;exact .inr ⟨Nat.le_refl _,by omega⟩
theorem z36 {a b:Ty} {d:a.den} {k:b.den->Option R} {r:R} (h:z5q a b d k=some r):∃ e,k e=some r∧∀ (R':Type) (k':b.den->Option R'),z5q a b d k'=k' e:=by
 rw [zk0] at h;obtain ⟨e,he,hk⟩:=Option.bind_eq_some_iff.1 h;exact ⟨e,hk,fun R' k'=>by rw [zk0,he];rfl⟩
theorem zs7 {t:Ty} {k:t.den->Option R} {r:R} (h:nilK t k=some r):∃ e,k e=some r∧∀ (R':Type) (k':t.den->Option R'),nilK t k'=k' e:=by
 rw [zne] at h;obtain ⟨e,he,hk⟩:=Option.bind_eq_some_iff.1 h;exact ⟨e,hk,fun R' k'=>by rw [zne,he];rfl⟩
theorem zl9 {a:AVal} {p:z1a} {k:AVal->Option R} {r:R} (h:zak a p k=some r):∃ e,k e=some r∧∀ (R':Type) (k':AVal->Option R'),zak a p k'=k' e:=by
 rw [z9f] at h;obtain ⟨e,he,hk⟩:=Option.bind_eq_some_iff.1 h;exact ⟨e,hk,fun R' k'=>by rw [z9f,he];rfl⟩
theorem z4r:(t:Ty)->(d:t.den)->(p:z1a)->{k:(u:Ty)->u.den->Option R}->{r:R}->z13 t d p k=some r->
  ∃ (u:Ty) (e:u.den),k u e=some r∧∀ (R':Type) (k':(u:Ty)->u.den->Option R'),z13 t d p k'=k' u e
 | t,d,[],k,r,h=>⟨t,d,by cases t <;> simpa [z13] using h,fun R' k'=>by cases t <;> simp [z13]⟩
 | .pair a _,(x,_),.fst :: p,k,r,h=>by simp only [z13] at h ⊢;exact z4r a x p h
 | .pair _ b,(_,y),.snd :: p,k,r,h=>by simp only [z13] at h ⊢;exact z4r b y p h
 | .arr _ t,l,.idx i :: p,k,r,h=>by
  simp only [z13] at h ⊢;obtain ⟨x,hx,h⟩:=Option.bind_eq_some_iff.1 h;obtain ⟨u,e,hk,ha⟩:=z4r t x p h
  exact ⟨u,e,hk,fun R' k'=>by rw [hx,Option.bind_some];exact ha _ _⟩
 | .sl true t,l,.idx i :: p,k,r,h=>by
  simp only [z13] at h ⊢;obtain ⟨x,hx,h⟩:=Option.bind_eq_some_iff.1 h;obtain ⟨u,e,hk,ha⟩:=z4r t x p h
  exact ⟨u,e,hk,fun R' k'=>by rw [hx,Option.bind_some];exact ha _ _⟩
 | .int _,d,s :: p,k,r,h=>by cases s <;> simp [z13] at h
 | .bool,d,s :: p,k,r,h=>by cases s <;> simp [z13] at h
 | .str,d,s :: p,k,r,h=>by cases s <;> simp [z13] at h
 | .unit,d,s :: p,k,r,h=>by cases s <;> simp [z13] at h
 | .sl false _,d,s :: p,k,r,h=>by cases s <;> simp [z13] at h
 | .ptr _,d,s :: p,k,r,h=>by cases s <;> simp [z13] at h
 | .fn _ _,d,s :: p,k,r,h=>by cases s <;> simp [z13] at h
 | .pair _ _,(_,_),.idx _ :: p,k,r,h=>by simp [z13] at h
 | .arr _ _,d,.fst :: p,k,r,h=>by simp [z13] at h
 | .arr _ _,d,.snd :: p,k,r,h=>by simp [z13] at h
 | .sl true _,d,.fst :: p,k,r,h=>by simp [z13] at h
 | .sl true _,d,.snd :: p,k,r,h=>by simp [z13] at h
theorem z5z {u:Ty} {e:u.den}:(t:Ty)->(d:t.den)->(p:z1a)->{k:t.den->Option R}->{r:R}->z3z t d p u e k=some r->
  ∃ d',k d'=some r∧∀ (R':Type) (k':t.den->Option R'),z3z t d p u e k'=k' d'
 | t,d,[],k,r,h=>by
  have h':z5q u t e k=some r:=by cases t <;> simpa [z3z] using h
  obtain ⟨d',hk,ha⟩:=z36 h'
  exact ⟨d',hk,fun R' k'=>by rw [←ha R' k'];cases t <;> simp [z3z]⟩
 | .pair a _,(x,y),.fst :: p,k,r,h=>by
  simp only [z3z] at h ⊢;obtain ⟨x',hk,ha⟩:=z5z a x p h
  exact ⟨(x',y),hk,fun R' k'=>ha R' _⟩
 | .pair _ b,(x,y),.snd :: p,k,r,h=>by
  simp only [z3z] at h ⊢;obtain ⟨y',hk,ha⟩:=z5z b y p h
  exact ⟨(x,y'),hk,fun R' k'=>ha R' _⟩
 | .arr _ t,l,.idx i :: p,k,r,h=>by
  simp only [z3z] at h ⊢;obtain ⟨x,hx,h⟩:=Option.bind_eq_some_iff.1 h;obtain ⟨x',hk,ha⟩:=z5z t x p h
  exact ⟨_,hk,fun R' k'=>by rw [hx,Option.bind_some];exact ha _ _⟩
 | .sl true t,l,.idx i :: p,k,r,h=>by
  simp only [z3z] at h ⊢;obtain ⟨x,hx,h⟩:=Option.bind_eq_some_iff.1 h;obtain ⟨x',hk,ha⟩:=z5z t x p h
  exact ⟨_,hk,fun R' k'=>by rw [hx,Option.bind_some];exact ha _ _⟩
 | .int _,d,s :: p,k,r,h=>by cases s <;> simp [z3z] at h
 | .bool,d,s :: p,k,r,h=>by cases s <;> simp [z3z] at h
 | .str,d,s :: p,k,r,h=>by cases s <;> simp [z3z] at h
 | .unit,d,s :: p,k,r,h=>by cases s <;> simp [z3z] at h
 | .sl false _,d,s :: p,k,r,h=>by cases s <;> simp [z3z] at h
 | .ptr _,d,s :: p,k,r,h=>by cases s <;> simp [z3z] at h
 | .fn _ _,d,s :: p,k,r,h=>by cases s <;> simp [z3z] at h
 | .pair _ _,(_,_),.idx _ :: p,k,r,h=>by simp [z3z] at h
 | .arr _ _,d,.fst :: p,k,r,h=>by simp [z3z] at h
 | .arr _ _,d,.snd :: p,k,r,h=>by simp [z3z] at h
 | .sl true _,d,.fst :: p,k,r,h=>by simp [z3z] at h
 | .sl true _,d,.snd :: p,k,r,h=>by simp [z3z] at h
theorem z8x {new:AVal}:(t:Ty)->(d:t.den)->(p:z1a)->{k:AVal->Option R}->{r:R}->z0x new t d p k=some r->
  ∃ u,k u=some r∧∀ (R':Type) (k':AVal->Option R'),z0x new t d p k'=k' u
 | .pair a b,(x,y),[.fst],k,r,h=>⟨_,h,fun _ _=>rfl⟩
 | .pair a b,(x,y),.fst :: s :: p,k,r,h=>by
  simp only [z0x] at h ⊢;obtain ⟨u,hk,ha⟩:=z8x a x (s :: p) h
  exact ⟨_,hk,fun R' k'=>ha R' _⟩
 | .pair a b,(x,y),.snd :: p,k,r,h=>by
  have e:∀ (R':Type) (k':AVal->Option R'),z0x new (.pair a b) (x,y) (.snd :: p) k'=z0x new b y p fun u=>k' (.pr (.data a x) u):=fun R' k'=>by simp [z0x]
  rw [e] at h;obtain ⟨u,hk,ha⟩:=z8x b y p h
  exact ⟨_,hk,fun R' k'=>by rw [e];exact ha R' _⟩
 | .pair _ _,_,[],_,_,hk=>by simp [z0x] at hk
 | .pair _ _,_,.idx _ :: _,_,_,hk=>by simp [z0x] at hk
 | .int _,_,_,_,_,hk=>by simp [z0x] at hk
 | .bool,_,_,_,_,hk=>by simp [z0x] at hk
 | .str,_,_,_,_,hk=>by simp [z0x] at hk
 | .unit,_,_,_,_,hk=>by simp [z0x] at hk
 | .arr _ _,_,_,_,_,hk=>by simp [z0x] at hk
 | .sl _ _,_,_,_,_,hk=>by simp [z0x] at hk
 | .ptr _,_,_,_,_,hk=>by simp [z0x] at hk
 | .fn _ _,_,_,_,_,hk=>by simp [z0x] at hk
theorem zem {new:AVal}:(a:AVal)->(p:z1a)->{k:AVal->Option R}->{r:R}->z7n new a p k=some r->
  ∃ u,k u=some r∧∀ (R':Type) (k':AVal->Option R'),z7n new a p k'=k' u
 | a,[],k,r,h=>⟨new,by cases a <;> simpa [z7n] using h,fun R' k'=>by cases a <;> rfl⟩
 | .agg c,s :: p,k,r,h=>by
  simp only [z7n] at h ⊢;obtain ⟨u,hk,ha⟩:=zem c (s :: p) h
  exact ⟨_,hk,fun R' k'=>ha R' _⟩
 | .pr a b,.fst :: p,k,r,h=>by
  simp only [z7n] at h ⊢;obtain ⟨u,hk,ha⟩:=zem a p h
  exact ⟨_,hk,fun R' k'=>ha R' _⟩
 | .pr a b,.snd :: p,k,r,h=>by
  simp only [z7n] at h ⊢;obtain ⟨u,hk,ha⟩:=zem b p h
  exact ⟨_,hk,fun R' k'=>ha R' _⟩
 | .data t d,s :: p,k,r,h=>by
  have e:∀ (R':Type) (k':AVal->Option R'),z7n new (.data t d) (s :: p) k'=cond (znq t (s :: p) new) (zim new t d (s :: p) k')
   (z0x new t d (s :: p) fun u=>cond (u.sk.same t.sk) (k' (.agg u)) none):=fun R' k'=>by cases s <;> rfl
  rw [e] at h
  cases hf:znq t (s :: p) new with
  | true=>
   rw [hf,cond_true] at h;unfold zim at h;split at h
   ·rename_i u e';obtain ⟨d',hk,ha⟩:=z5z _ _ _ h;exact ⟨_,hk,fun R' k'=>by rw [e,hf,cond_true];simp only [zim];exact ha R' _⟩
   ·simp at h
  | false=>
   rw [hf,cond_false] at h;obtain ⟨u,hk,ha⟩:=z8x _ _ _ h
   cases hs:u.sk.same t.sk with
   | false=>rw [hs] at hk;simp at hk
   | true=>
    rw [hs,cond_true] at hk
    exact ⟨_,hk,fun R' k'=>by rw [e,hf,cond_false,ha,hs,cond_true]⟩
 | .nilS,s :: _,_,_,h=>by cases s <;> simp [z7n] at h
 | .ref _ _ _,s :: _,_,_,h=>by cases s <;> simp [z7n] at h
 | .view _ _ _ _ _,s :: _,_,_,h=>by cases s <;> simp [z7n] at h
 | .bptr _ _,s :: _,_,_,h=>by cases s <;> simp [z7n] at h
 | .eptr _ _ _,s :: _,_,_,h=>by cases s <;> simp [z7n] at h
 | .mref _,s :: _,_,_,h=>by cases s <;> simp [z7n] at h
 | .nv _ _ _ _,s :: _,_,_,h=>by cases s <;> simp [z7n] at h
 | .clos _ _,s :: _,_,_,h=>by cases s <;> simp [z7n] at h
 | .ifc _ _,s :: _,_,_,h=>by cases s <;> simp [z7n] at h
 | .tup _,s :: _,_,_,h=>by cases s <;> simp [z7n] at h
 | .un,s :: _,_,_,h=>by cases s <;> simp [z7n] at h
 | .pr _ _,.idx _ :: _,_,_,h=>by simp [z7n] at h
theorem z3x {σ:St} {id:Nat} {p:z1a} {ep:Nat} {k:(u:Ty)->List u.den->Option R} {r:R} (h:z6m σ id p ep k=some r) :
  ∃ u l,k u l=some r∧∀ τ,OLe σ τ->∀ (R':Type) (k':(u:Ty)->List u.den->Option R'),z6m τ id p ep k'=k' u l:=by
 unfold z6m at h;split at h
 ·rename_i t l e ho
  cases hb:Nat.beq e ep with
  | false=>rw [hb] at h;simp at h
  | true=>
   rw [hb,cond_true] at h;unfold zvi at h;obtain ⟨u,d,hk,ha⟩:=z4r _ _ _ h;split at hk
   ·rename_i v l';refine ⟨v,l',hk,fun τ hle R' k'=>?_⟩;unfold z6m;rw [hle _ _ ho];simp only [hb,cond_true,zvi];rw [ha]
   ·simp at hk
 ·simp at h
theorem z6o {σ:St} {id:Nat} {p:z1a} {ep:Nat} {k:(u:Ty)->u.den->Option R} {r:R} (h:z4u σ id p ep k=some r) :
  ∃ u d,k u d=some r∧∀ τ,OLe σ τ->∀ (R':Type) (k':(u:Ty)->u.den->Option R'),z4u τ id p ep k'=k' u d:=by
 unfold z4u at h;split at h
 ·rename_i t l e ho
  cases hb:Nat.beq e ep with
  | false=>rw [hb] at h;simp at h
  | true=>
   rw [hb,cond_true] at h;unfold zvi at h;obtain ⟨u,d,hk,ha⟩:=z4r _ _ _ h;refine ⟨u,d,hk,fun τ hle R' k'=>?_⟩;unfold z4u;rw [hle _ _ ho];simp only [hb,cond_true,zvi];exact ha R' k'
 ·simp at h
theorem z8q {σ:St} {id:Nat} {p:z1a} {k:AVal->Option R} {r:R} (h:z7k σ id p k=some r) :
  ∃ a,k a=some r∧∀ τ,OLe σ τ->∀ (R':Type) (k':AVal->Option R'),z7k τ id p k'=k' a:=by
 unfold z7k at h;split at h
 ·rename_i a ho;split at h
  ·rename_i x hx;obtain ⟨u,hk,ha⟩:=zl9 h;refine ⟨u,hk,fun τ hle R' k'=>?_⟩;unfold z7k;rw [hle _ _ ho];simp only [hx];exact ha R' k'
  ·simp at h
 ·simp at h
theorem zax {σ:St} {pt:Bool} {id:Nat} {p:z1a} {ep:Nat} {k:(u:Ty)->u.den->Option R} {r:R} (h:z6l σ pt id p ep k=some r) :
  ∃ u d,k u d=some r∧∀ τ,OLe σ τ->z8i τ id=z8i σ id∧∀ (R':Type) (k':(u:Ty)->u.den->Option R'),z6l τ pt id p ep k'=k' u d:=by
 unfold z6l at h;split at h
 ·rename_i t l e i ho
  cases hb:Nat.beq (nep pt p e i) ep with
  | false=>rw [hb] at h;simp at h
  | true=>
   rw [hb,cond_true] at h;unfold zvi at h;obtain ⟨u,d,hk,ha⟩:=z4r _ _ _ h;refine ⟨u,d,hk,fun τ hle=>⟨?_,fun R' k'=>?_⟩⟩
   ·unfold z8i;rw [hle _ _ ho,ho]
   ·unfold z6l;rw [hle _ _ ho];simp only [hb,cond_true,zvi];exact ha R' k'
 ·simp at h
theorem zby {σ:St} {id:Nat} {p:z1a} {ep:Nat} {k:(v:Ty)->List v.den->Option R} {r:R} (h:zd3 σ id p ep k=some r) :
  ∃ v l,k v l=some r∧∀ τ,OLe σ τ->z8i τ id=z8i σ id∧∀ (R':Type) (k':(v:Ty)->List v.den->Option R'),zd3 τ id p ep k'=k' v l:=by
 unfold zd3 at h;obtain ⟨u,d,hk,ha⟩:=zax h;split at hk
 ·rename_i v l;refine ⟨v,l,hk,fun τ hle=>⟨(ha τ hle).1,fun R' k'=>?_⟩⟩;unfold zd3;rw [(ha τ hle).2]
 ·simp at hk
theorem z3h {σ:St}:(m:Nat)->{R:Type}->(a:AVal)->(t:Ty)->{k:t.den->Option R}->{r:R}->z0d σ m a t k=some r->
  ∃ d,k d=some r∧∀ τ,OLe σ τ->∀ (R':Type) (k':t.den->Option R'),z0d τ m a t k'=k' d
 | 0,_,_,_,_,_,h=>by simp [z0d] at h
 | m+1,_,.data t' d,t,k,r,h=>by
  simp only [z0d] at h ⊢;obtain ⟨e,hk,ha⟩:=z36 h
  exact ⟨e,hk,fun _ _ R' k'=>ha R' k'⟩
 | m+1,_,.nilS,t,k,r,h=>by
  simp only [z0d] at h ⊢
  cases hr:t.isRo with
  | false=>rw [hr] at h;simp at h
  | true=>
   rw [hr,cond_true] at h;obtain ⟨e,hk,ha⟩:=zs7 h
   exact ⟨e,hk,fun _ _ R' k'=>by rw [cond_true];exact ha R' k'⟩
 | m+1,_,.ref id p ep,t,k,r,h=>by
  simp only [z0d] at h ⊢;obtain ⟨u,l,hk,ha⟩:=z3x h;obtain ⟨e,hk,hb⟩:=z36 hk
  exact ⟨e,hk,fun τ hle R' k'=>by rw [ha τ hle];exact hb R' k'⟩
 | m+1,_,.view id p ep a b,t,k,r,h=>by
  simp only [z0d] at h ⊢;obtain ⟨u,l,hk,ha⟩:=z3x h;obtain ⟨e,hk,hb⟩:=z36 hk
  exact ⟨e,hk,fun τ hle R' k'=>by rw [ha τ hle];exact hb R' k'⟩
 | m+1,_,.bptr id p,.ptr t,k,r,h=>by
  simp only [z0d] at h ⊢;obtain ⟨a,hk,ha⟩:=z8q h;obtain ⟨e,hk,hb⟩:=z3h m a t hk
  exact ⟨e,hk,fun τ hle R' k'=>by rw [ha τ hle];exact hb τ hle R' k'⟩
 | m+1,_,.eptr id p ep,.ptr t,k,r,h=>by
  simp only [z0d] at h ⊢;obtain ⟨u,d,hk,ha⟩:=z6o h;obtain ⟨e,hk,hb⟩:=z36 hk
  exact ⟨e,hk,fun τ hle R' k'=>by rw [ha τ hle];exact hb R' k'⟩
 | m+1,_,.clos f c,.fn g t,k,r,h=>by
  simp only [z0d] at h ⊢
  cases hb:Nat.beq f g with
  | false=>rw [hb] at h;simp at h
  | true=>
   rw [hb,cond_true] at h;obtain ⟨e,hk,ha⟩:=z3h m c t h
   exact ⟨e,hk,fun τ hle R' k'=>by rw [cond_true];exact ha τ hle R' k'⟩
 | m+1,_,.agg c,t,k,r,h=>by
  simp only [z0d] at h ⊢
  exact z3h m c t h
 | m+1,_,.pr a b,.pair t u,k,r,h=>by
  simp only [z0d] at h ⊢;obtain ⟨x,hk,ha⟩:=z3h m a t h;obtain ⟨y,hk,hb⟩:=z3h m b u hk
  exact ⟨(x,y),hk,fun τ hle R' k'=>by rw [ha τ hle];exact hb τ hle R' _⟩
 | m+1,_,.un,.unit,k,r,h=>by
  simp only [z0d] at h ⊢
  exact ⟨(),h,fun _ _ _ _=>trivial⟩
 | m+1,_,.tup _,t,k,r,h=>by simp [z0d] at h
 | m+1,_,.mref _,t,k,r,h=>by simp [z0d] at h
 | m+1,_,.nv true _ _ _,t,k,r,h=>by simp [z0d] at h
 | m+1,_,.nv false id p ep,t,k,r,h=>by
  simp only [z0d] at h ⊢;obtain ⟨u,l,hk,ha⟩:=zby h;obtain ⟨e,hk,hb⟩:=z36 hk
  exact ⟨e,hk,fun τ hle R' k'=>by rw [(ha τ hle).2];exact hb R' k'⟩
 | m+1,_,.bptr _ _,.int _,_,_,h | m+1,_,.bptr _ _,.bool,_,_,h | m+1,_,.bptr _ _,.str,_,_,h | m+1,_,.bptr _ _,.unit,_,_,h | m+1,_,.bptr _ _,.pair _ _,_,_,h | m+1,_,.bptr _ _,.arr _ _,_,_,h | m+1,_,.bptr _ _,.sl _ _,_,_,h | m+1,_,.bptr _ _,.fn _ _,_,_,h=>by simp [z0d] at h
 | m+1,_,.eptr _ _ _,.int _,_,_,h | m+1,_,.eptr _ _ _,.bool,_,_,h | m+1,_,.eptr _ _ _,.str,_,_,h | m+1,_,.eptr _ _ _,.unit,_,_,h | m+1,_,.eptr _ _ _,.pair _ _,_,_,h | m+1,_,.eptr _ _ _,.arr _ _,_,_,h | m+1,_,.eptr _ _ _,.sl _ _,_,_,h | m+1,_,.eptr _ _ _,.fn _ _,_,_,h=>by simp [z0d] at h
 | m+1,_,.clos _ _,.int _,_,_,h | m+1,_,.clos _ _,.bool,_,_,h | m+1,_,.clos _ _,.str,_,_,h | m+1,_,.clos _ _,.unit,_,_,h | m+1,_,.clos _ _,.pair _ _,_,_,h | m+1,_,.clos _ _,.arr _ _,_,_,h | m+1,_,.clos _ _,.sl _ _,_,_,h | m+1,_,.clos _ _,.ptr _,_,_,h=>by simp [z0d] at h
 | m+1,_,.pr _ _,.int _,_,_,h | m+1,_,.pr _ _,.bool,_,_,h | m+1,_,.pr _ _,.str,_,_,h | m+1,_,.pr _ _,.unit,_,_,h | m+1,_,.pr _ _,.ptr _,_,_,h | m+1,_,.pr _ _,.arr _ _,_,_,h | m+1,_,.pr _ _,.sl _ _,_,_,h | m+1,_,.pr _ _,.fn _ _,_,_,h=>by simp [z0d] at h
 | m+1,_,.un,.int _,_,_,h | m+1,_,.un,.bool,_,_,h | m+1,_,.un,.str,_,_,h | m+1,_,.un,.pair _ _,_,_,h | m+1,_,.un,.ptr _,_,_,h | m+1,_,.un,.arr _ _,_,_,h | m+1,_,.un,.sl _ _,_,_,h | m+1,_,.un,.fn _ _,_,_,h=>by simp [z0d] at h
theorem z62 {n:Nat}:(m:Nat)->{R:Type}->{σ:St}->(a:AVal)->(u:Ty)->{k:u.den->St->Option R}->{r:R}->z2y m a u σ k=some r->
  ∃ d ob,k d (putO ob σ)=some r∧Dom n σ ob∧∀ τ,OLe σ τ->∀ (R':Type) (k':u.den->St->Option R'),z2y m a u τ k'=k' d (putO ob τ)
 | 0,_,_,_,_,_,_,h=>by simp [z2y] at h
 | m+1,_,σ,.data t' d,t,k,r,h=>by
  simp only [z2y] at h ⊢;obtain ⟨e,hk,ha⟩:=z36 h
  exact ⟨e,[],hk,Dom.nil,fun τ _ R' k'=>ha R' (fun d=>k' d τ)⟩
 | m+1,_,σ,.nilS,t,k,r,h=>by
  simp only [z2y] at h ⊢;obtain ⟨e,hk,ha⟩:=zs7 h
  exact ⟨e,[],hk,Dom.nil,fun τ _ R' k'=>ha R' (fun d=>k' d τ)⟩
 | m+1,_,σ,.ref id [] ep,u,k,r,h=>by
  simp only [z2y] at h;split at h
  ·rename_i t l e ho
   cases hb:Nat.beq e ep with
   | false=>rw [hb] at h;simp at h
   | true=>
    rw [hb,cond_true] at h
    cases u with
    | sl ow v=>
     cases ow with
     | true=>
      obtain ⟨d,hk,ha⟩:=z36 h;refine ⟨d,[(id,none)],hk,Dom.old ho,fun τ hle R' k'=>?_⟩;simp only [z2y];rw [hle _ _ ho];simp only [hb,cond_true]
      exact ha R' _
     | false=>
      obtain ⟨d,hk,ha⟩:=z36 h;refine ⟨d,[(id,none)],hk,Dom.old ho,fun τ hle R' k'=>?_⟩;simp only [z2y];rw [hle _ _ ho];simp only [hb,cond_true]
      exact ha R' _
    | _=>simp at h
  ·simp at h
 | m+1,_,σ,.bptr id [],.ptr u,k,r,h=>by
  simp only [z2y] at h;split at h
  ·rename_i a ho;obtain ⟨hnt,h⟩:=z7t h;obtain ⟨d,ob,hk,hd,ha⟩:=z62 (n:=n) m a u h;refine ⟨d,(id,none) :: ob,hk,Dom.append (l:=[(id,none)]) (Dom.old ho) hd,fun τ hle R' k'=>?_⟩;simp only [z2y];rw [hle _ _ ho];simp only [hnt,cond_false];exact ha (τ.kill id) (hle.upd id none) R' k'
  ·simp at h
 | m+1,_,σ,.clos f c,.fn g t,k,r,h=>by
  simp only [z2y] at h ⊢
  cases hb:Nat.beq f g with
  | false=>rw [hb] at h;simp at h
  | true=>
   rw [hb,cond_true] at h;obtain ⟨d,ob,hk,hd,ha⟩:=z62 (n:=n) m c t h
   exact ⟨d,ob,hk,hd,fun τ hle R' k'=>by rw [cond_true];exact ha τ hle R' k'⟩
 | m+1,_,σ,.agg c,t,k,r,h=>by
  simp only [z2y] at h ⊢
  exact z62 (n:=n) m c t h
 | m+1,_,σ,.pr a b,.pair t u,k,r,h=>by
  simp only [z2y] at h ⊢;obtain ⟨x,ob,hk,hd,ha⟩:=z62 (n:=n) m a t h;obtain ⟨y,oc,hk,hd',hb⟩:=z62 (n:=n) m b u hk;refine ⟨(x,y),ob++oc,by rw [z1k];exact hk,hd.append hd',fun τ hle R' k'=>?_⟩;rw [ha τ hle,z1k]
  exact hb _ (hle.putO ob) R' _
 | m+1,_,σ,.un,.unit,k,r,h=>by
  simp only [z2y] at h ⊢
  exact ⟨(),[],h,Dom.nil,fun _ _ _ _=>rfl⟩
 | m+1,_,_,.tup _,t,k,r,h=>by simp [z2y] at h
 | m+1,_,_,.mref _,t,k,r,h=>by simp [z2y] at h
 | m+1,_,_,.nv true _ _ _,t,k,r,h=>by simp [z2y] at h
 | m+1,_,_,.nv false _ (_ :: _) _,t,k,r,h=>by simp [z2y] at h
 | m+1,_,σ,.nv false id [] ep,u,k,r,h=>by
  simp only [z2y] at h;split at h
  ·rename_i t l e i ho
   cases hb:Nat.beq e ep with
   | false=>rw [hb] at h;simp at h
   | true=>
    rw [hb,cond_true] at h
    cases u with
    | sl ow v=>
     cases ow with
     | true=>simp at h
     | false=>
      obtain ⟨d,hk,ha⟩:=z36 h;refine ⟨d,[(id,none)],hk,Dom.old ho,fun τ hle R' k'=>?_⟩;simp only [z2y];rw [hle _ _ ho];simp only [hb,cond_true]
      exact ha R' _
    | _=>simp at h
  ·simp at h
 | m+1,_,_,.view _ _ _ _ _,t,k,r,h=>by simp [z2y] at h
 | m+1,_,_,.eptr _ _ _,t,k,r,h=>by simp [z2y] at h
 | m+1,_,_,.ref _ (_ :: _) _,t,k,r,h=>by simp [z2y] at h
 | m+1,_,_,.bptr _ (_ :: _),t,k,r,h=>by cases t <;> simp [z2y] at h
 | m+1,_,_,.bptr _ [],.int _,_,_,h | m+1,_,_,.bptr _ [],.bool,_,_,h | m+1,_,_,.bptr _ [],.str,_,_,h | m+1,_,_,.bptr _ [],.unit,_,_,h | m+1,_,_,.bptr _ [],.pair _ _,_,_,h | m+1,_,_,.bptr _ [],.arr _ _,_,_,h | m+1,_,_,.bptr _ [],.sl _ _,_,_,h | m+1,_,_,.bptr _ [],.fn _ _,_,_,h=>by simp [z2y] at h
 | m+1,_,_,.clos _ _,.int _,_,_,h | m+1,_,_,.clos _ _,.bool,_,_,h | m+1,_,_,.clos _ _,.str,_,_,h | m+1,_,_,.clos _ _,.unit,_,_,h | m+1,_,_,.clos _ _,.pair _ _,_,_,h | m+1,_,_,.clos _ _,.arr _ _,_,_,h | m+1,_,_,.clos _ _,.sl _ _,_,_,h | m+1,_,_,.clos _ _,.ptr _,_,_,h=>by simp [z2y] at h
 | m+1,_,_,.pr _ _,.int _,_,_,h | m+1,_,_,.pr _ _,.bool,_,_,h | m+1,_,_,.pr _ _,.str,_,_,h | m+1,_,_,.pr _ _,.unit,_,_,h | m+1,_,_,.pr _ _,.ptr _,_,_,h | m+1,_,_,.pr _ _,.arr _ _,_,_,h | m+1,_,_,.pr _ _,.sl _ _,_,_,h | m+1,_,_,.pr _ _,.fn _ _,_,_,h=>by simp [z2y] at h
 | m+1,_,_,.un,.int _,_,_,h | m+1,_,_,.un,.bool,_,_,h | m+1,_,_,.un,.str,_,_,h | m+1,_,_,.un,.pair _ _,_,_,h | m+1,_,_,.un,.ptr _,_,_,h | m+1,_,_,.un,.arr _ _,_,_,h | m+1,_,_,.un,.sl _ _,_,_,h | m+1,_,_,.un,.fn _ _,_,_,h=>by simp [z2y] at h
end Go.Kz
