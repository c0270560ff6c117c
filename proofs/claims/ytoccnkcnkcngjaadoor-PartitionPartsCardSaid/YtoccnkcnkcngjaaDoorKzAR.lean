/-
  Functions: from the interpreter's equation to the contract.
-/
import Derived.Test.YtoccnkcnkcngjaaDoorKzAH
import Derived.OpenShut
import Derived.ShutString
import Derived.ChangeOld
import Derived.Below
import Derived.Laws.Cover3
set_option linter.unusedVariables false
set_option linter.unusedSimpArgs false
namespace Go.Kz
variable {R:Type}
def indexO (x:Nat):List (Option Nat)→Nat→Option Nat
 | [],_=>none
 | some y :: l,i=>if y=x then some i else indexO x l (i+1)
 | none :: l,i=>indexO x l (i+1)
theorem indexO_nth {x:Nat}:{l:List (Option Nat)}→{k d:Nat}→(l.filterMap id).Nodup→nthL l d=some (some x)→indexO x l k=some (k+d)
 | [],_,d,_,h=>by cases d <;> simp [nthL] at h
 | none :: l,k,d,hn,h=>by
  cases d with
  | zero=>simp [nthL] at h
  | succ d=>
   simp only [indexO]
   rw [indexO_nth (l:=l) (by simpa using hn) h]
   congr 1;omega
 | some y :: l,k,0,_,h=>by
  simp only [nthL,Option.some.injEq] at h
  simp [indexO,h]
 | some y :: l,k,d+1,hn,h=>by
  have hn':y∉l.filterMap id∧(l.filterMap id).Nodup:=by simpa using hn
  have hm:some x∈l:=nthL_mem h
  have hne:y≠x:=by
   intro he;subst he
   exact hn'.1 (List.mem_filterMap.2 ⟨some y,hm,rfl⟩)
  simp only [indexO,if_neg hne]
  rw [indexO_nth (l:=l) hn'.2 h]
  congr 1;omega
def laidG (g:Ghost) (mv:List (Option Nat)):Ghost where
 tag:=fun b=>match g.tag b with
  | .row i p=>(match indexO i mv 0 with
   | some j=>.row j p
   | none=>.alien)
  | .box _=>.alien
  | t=>t
 sv:=fun j p=>match nthL mv j with
  | some (some i)=>g.sv i p
  | _=>.slice none 0 0
 blk:=fun _=>0
theorem laid_mk {w:World} {g:Ghost} {mv:List (Option Nat)} (hn:(mv.filterMap id).Nodup):Laid w g mv (laidG g mv) 0:=by
 refine ⟨⟨fun b hb=>⟨by simp [laidG,hb],rfl⟩⟩,fun j i hj=>?_,fun j hj=>by simp [laidG,hj]⟩
 have hx:=indexO_nth (k:=0) hn hj
 rw [Nat.zero_add] at hx ⊢
 exact ⟨fun q=>by simp [laidG,hj],fun q b hb=>⟨by simp [laidG,hb,hx],rfl⟩⟩
theorem laid_ext {w:World} {g:Ghost} {mv:List (Option Nat)}:Ext w g w (laidG g mv):=by
 refine ⟨rfl,rfl,rfl,Nat.le_refl _,Nat.le_refl _,fun b _ ht=>⟨rfl,?_⟩⟩
 rcases ht with ht | ht <;> simp [laidG,ht]
theorem expose_isAgg:(t:Ty)→(d:t.den)→(n:Nat)→(expose t d n).1.isAgg=t.sk.isAgg
 | .sl true t,l,n=>rfl
 | .sl false t,l,n=>rfl
 | .int _,_,_=>rfl
 | .bool,_,_=>rfl
 | .str,_,_=>rfl
 | .unit,_,_=>rfl
 | .arr _ _,_,_=>rfl
 | .ptr _,_,_=>rfl
 | .fn _ _,_,_=>rfl
 | .pair a b,(x,y),n=>by
  simp only [expose]
  cases (Ty.pair a b).isRo <;> rfl
theorem exposed_vok {w:World} {G:Ghost} {t:Ty} {d:t.den} {base:Nat} {cs:List Value} {v:Value} {agg:Bool} (h:Exposed w G (expose t d base) base cs) (hv:v=mkV agg cs) (ha:agg=t.sk.isAgg) (O:Objs) :
  VOK w G O (expose t d base).1 v:=
 VOK_of_cells (h.ok O) (by rw [expose_isAgg,hv,ha]) (expose_form t d base).1 (expose_form t d base).2.1
section
variable {n:Nat} {w:World} {a:Act} {g:Ghost} {σ:St} {r:R}
def exOKs:List Ty→Bool
 | []=>true
 | t :: ts=>t.exOK && exOKs ts
def rvRun (tmps:Array Value):ResultVar→Sem Value
 | .tmp t=>pure (tmps.getD t undef)
 | .cell a t=>do loadVar t (←asAddr (tmps.getD a undef))
theorem load_ok {x:AVal} {v:Value} {f:AVal→Option R} {r:R} (hh:HeapOK w g σ.objs) (ex:VOK w g σ.objs x v) (h:loadK σ x f=some r) :
  ∃ lv b off cc e fz,v = .pointer (some ⟨b,off,none⟩)∧w.heap[b]? = some (.cells cc e fz)∧off+lv.sk.size≤cc.size∧AOK w g σ.objs lv (seg cc.toList off lv.sk.size)∧f lv=some r:=by
 unfold loadK at h
 split at h
 ·rename_i t' d
  simp only [VOK] at ex
  obtain ⟨cs,⟨hro,b,off,cc,e,fz,rfl,htag,hcell,hsz,hrep⟩,hv⟩:=ex
  exact ⟨.data t' d,b,off,cc,e,fz,hv,hcell,by simpa [AVal.sk,Ty.sk_size] using hsz,⟨by simpa [Ty.isRo] using hro,by simpa [AVal.sk,Ty.sk_size] using hrep⟩,h⟩
 ·rename_i id p ep
  split at h
  ·simp at h
  ·rename_i s q
   obtain ⟨t0,l0,ho0⟩:=efetch_obj h
   simp only [VOK] at ex
   obtain ⟨cs,⟨v,rfl,hone,hv⟩,hv'⟩:=ex
   obtain ⟨hp,b0,off0,hpl,hvv⟩:=(hv _ _ _ ho0).2 rfl
   obtain ⟨t1,l1,u1,e1,b,off,cc,ee,ho1,hro,hk,hu1,hpl2,hty,htag,hcell,hsz,hrep⟩:=efetch_ok hh hp h
   rw [ho0] at ho1
   simp only [Option.some.injEq,Obj.row.injEq] at ho1
   obtain ⟨rfl,_,_⟩:=ho1
   rw [hpl] at hpl2
   simp only [Option.some.injEq,Prod.mk.injEq] at hpl2
   obtain ⟨rfl,rfl⟩:=hpl2
   exact ⟨.data u1 e1,b0,off0,cc,ee,(0,0),by rw [hv'];exact hvv,hcell,by simpa [AVal.sk,Ty.sk_size] using hsz,⟨hu1,by simpa [AVal.sk,Ty.sk_size] using hrep⟩,hk⟩
 ·rename_i id p
  obtain ⟨xc,y,off,cc,e,hobj,h2,hoff,hcell,htag,hle,hall,hpart,hi⟩:=bfetch_ok hh h
  simp only [VOK] at ex
  obtain ⟨cs,⟨v,rfl,hone,hv⟩,hv'⟩:=ex
  obtain ⟨off',s,hoff',hvv⟩:=hv _ hobj
  rw [hoff] at hoff'
  simp only [Option.some.injEq,Prod.mk.injEq] at hoff'
  obtain ⟨rfl,_⟩:=hoff'
  exact ⟨y,g.blk id,off,cc,e,(0,0),by rw [hv'];exact hvv,hcell,hle,hpart,h2⟩
 ·rename_i id p ep
  obtain ⟨t1,l1,e1,i1,hobj,hep,hrep,hk⟩:=nfetch_ok hh h
  simp only [VOK] at ex
  obtain ⟨cs,⟨v,rfl,hone,hv⟩,hv'⟩:=ex
  obtain ⟨hp,b0,off0,hpl,hvv⟩:=((hv _ _ _ _ _ hobj).2 hep).2 rfl
  cases p with
  | nil=>exact absurd rfl hp
  | cons s q=>
   obtain ⟨u1,x1,bh,oh,ch,eh,ph,hk,hpl2,hty,_,htag,hcell,hsz,hr⟩:=nest_get hrep hk
   rw [hpl] at hpl2
   simp only [Option.some.injEq,Prod.mk.injEq] at hpl2
   obtain ⟨rfl,rfl⟩:=hpl2
   cases hro:u1.isRo with
   | true=>
    rw [hro] at hk
    exact ⟨.data u1 x1,b0,off0,ch,eh,(0,0),by rw [hv'];exact hvv,hcell,by simpa [AVal.sk,Ty.sk_size] using hsz,⟨hro,by simpa [AVal.sk,Ty.sk_size] using Rep.anyOwn (o':=none) hro hr⟩,hk⟩
   | false=>
    rw [hro] at hk
    simp only [cond_false] at hk
    split at hk
    ·rename_i v1
     obtain ⟨ad,cp,hcs,hsv,_⟩:=hr
     refine ⟨.nv false id (s :: q) ep,b0,off0,ch,eh,(0,0),by rw [hv'];exact hvv,hcell,hsz,⟨_,hcs,rfl,fun t2 l2 e2 i2 h2 hobj'=>?_⟩,hk⟩
     rw [hobj] at hobj'
     simp only [Option.some.injEq,Obj.nest.injEq] at hobj'
     obtain ⟨rfl,_,rfl,rfl,_⟩:=hobj'
     have hi1:i1=ep:=hep
     exact ⟨Nat.le_of_eq hi1.symm,fun _=>⟨fun _=>hsv.symm,fun h=>(by simp at h)⟩⟩
    ·simp at hk
 ·simp at h
theorem rvK_ok {P:Program} {tt:Nat→Option Ty} (htt:TtOK P tt) {s:ResultVar} {f:AVal→Option R} {r:R} (hst:StOK n g w a σ) {t:Ty}
  (h:rvK tt σ s (fun av=>cond (av.val && av.sk.same t.sk) (f av) none)=some r) :
  ∃ av v cs,f av=some r∧(rvRun a.tmps s).run P w = .ok v w∧AOK w g σ.objs av cs∧v=mkV t.sk.isAgg cs:=by
 cases s with
 | tmp s=>
  simp only [rvK] at h
  split at h
  ·rename_i av hs
   cases hb:(av.val && av.sk.same t.sk) with
   | false=>rw [hb] at h;simp at h
   | true=>
    rw [hb] at h
    simp only [cond_true] at h
    simp only [Bool.and_eq_true] at hb
    obtain ⟨v,hv,hok⟩:=hst.slots s av hs
    obtain ⟨hag,_,_,hn3⟩:=val_isAgg hb.1
    obtain ⟨cs,hcs,hmk⟩:=VOK_cells hok hn3
    have hvg:a.tmps.getD s undef=v:=by rw [Array.getD_eq_getD_getElem?,hv];rfl
    exact ⟨av,v,cs,h,by simp [rvRun,hvg],hcs,by rw [hmk,hag,Sk.same_eq hb.2]⟩
  ·simp at h
 | cell s T=>
  simp only [rvK] at h
  split at h
  ·rename_i x u hs hu
   have hT:=htt _ _ hu
   obtain ⟨v,hv,hok⟩:=hst.slots s x hs
   obtain ⟨lv,b,off,cc,e,fz,hvp,hcell,hle,hok',h⟩:=load_ok hst.heap hok h
   cases hc:u.sk.same lv.sk with
   | false=>rw [hc] at h;simp at h
   | true=>
    rw [hc] at h
    simp only [cond_true] at h
    cases hb:(lv.val && lv.sk.same t.sk) with
    | false=>rw [hb] at h;simp at h
    | true=>
     rw [hb] at h
     simp only [cond_true] at h
     simp only [Bool.and_eq_true] at hb
     have hsk:=Sk.same_eq hc
     have hsk2:=Sk.same_eq hb.2
     have hsz:u.size=lv.sk.size:=by rw [←hsk,Ty.sk_size]
     have hrun:=run_loadVar (P:=P) (w:=w) hT hcell (by rw [hsz];exact hle)
     have hvg:a.tmps.getD s undef=v:=by rw [Array.getD_eq_getD_getElem?,hv];rfl
     refine ⟨lv,mkV u.sk.isAgg (seg cc.toList off u.size),_,h,?_,hok',?_⟩
     ·simp only [rvRun,hvg,hvp,asAddr,Sem.run_bind,Sem.run_pure,Result.andThen_ok]
      exact hrun
     ·rw [hsz,hsk,hsk2]
  ·simp at h
theorem res1_ok {P:Program} {tt:Nat→Option Ty} (htt:TtOK P tt) {t:Ty} {s:ResultVar} {k:t.den→St→Option R} (hst:StOK n g w a σ) (ht:t.exOK=true) (h:rvK tt σ s (fun a=>cond (a.val && a.sk.same t.sk) (give 20 a t σ k) none)=some r) :
  ∃ d σ' g' mv v,k d σ'=some r∧(rvRun a.tmps s).run P w = .ok v w∧StOK n g' w a σ'∧Shr g σ.objs g' σ'.objs mv∧(∀ m,(expose t d m).2.length=mv.length)∧
   ∀ G base,Laid w g' mv G base→(∀ O,VOK w G O (expose t d base).1 v)∧∀ O j o,nthL (expose t d base).2 j=some o→ObjOK w G O (base+j) o:=by
 obtain ⟨av,v,cs,h,hrun,hcs,hmk⟩:=rvK_ok htt hst h
 obtain ⟨d,σ',g',mv,hk,h1,h2,h3,hl,he,_⟩:=giveM_ok 20 hst.heap hcs ht h
 have hst':StOK n g' w a σ':=by
  refine ⟨fun i x hi=>?_,h3.heap hst.heap,hst.size,hst.defers,hst.known.kept (h3.ro w)⟩
  rw [h1] at hi
  obtain ⟨u,hu,hx⟩:=hst.slots i x hi
  exact ⟨u,hu,VOK.frame (h3.ro w) (fun id _=>h3.kept (w:=w) id) hx⟩
 refine ⟨d,σ',g',mv,v,hk,hrun,hst',h3,hl,fun G base hL=>?_⟩
 have hE:=he G base hL
 exact ⟨fun O=>exposed_vok hE hmk rfl O,hE.objs⟩
theorem resK_one {tt:Nat→Option Ty} {t:Ty} {rs:List ResultVar} {k:resDen [t]→St→Option R} {r:R} (h:resK tt σ [t] rs k=some r) :
  ∃ s,rs=[s]∧rvK tt σ s (fun a=>cond (a.val && a.sk.same t.sk) (give 20 a t σ k) none)=some r:=by
 match rs,h with
 | [s],h=>exact ⟨s,rfl,h⟩
 | [],h=>simp [resK] at h
 | _ :: _ :: _,h=>simp [resK] at h
theorem resK_more {tt:Nat→Option Ty} {t u:Ty} {ts:List Ty} {rs:List ResultVar} {k:resDen (t :: u :: ts)→St→Option R} {r:R} (h:resK tt σ (t :: u :: ts) rs k=some r) :
  ∃ s l,rs=s :: l∧rvK tt σ s (fun a=>cond (a.val && a.sk.same t.sk) (give 20 a t σ fun d σ=>resK tt σ (u :: ts) l fun ds σ=>k (d,ds) σ) none)=some r:=by
 match rs,h with
 | s :: l,h=>exact ⟨s,l,rfl,h⟩
 | [],h=>simp [resK] at h
def Reads (P:Program) (tmps:Array Value) (w:World):List ResultVar→List Value→Prop
 | [],[]=>True
 | s :: l,v :: vs=>(rvRun tmps s).run P w = .ok v w∧Reads P tmps w l vs
 | _,_=>False
theorem resL_ok {P:Program} {tt:Nat→Option Ty} (htt:TtOK P tt):(ts:List Ty)→(rs:List ResultVar)→{g:Ghost}→{σ:St}→{k:resDen ts→St→Option R}→{r:R}→ts≠[]→StOK n g w a σ→exOKs ts=true→resK tt σ ts rs k=some r→
  ∃ (d:resDen ts) (σ':St) (g':Ghost) (mv:List (Option Nat)) (vs:List Value),k d σ'=some r∧Reads P a.tmps w rs vs∧vs.length=ts.length∧StOK n g' w a σ'∧Shr g σ.objs g' σ'.objs mv∧(∀ m,(exposeRes.chain ts d m).2.length=mv.length)∧
   (∀ G base,Laid w g' mv G base→(∀ O,VsOK w G O (exposeRes.chain ts d base).1 vs)∧∀ O j o,nthL (exposeRes.chain ts d base).2 j=some o→ObjOK w G O (base+j) o)
 | [],_,_,_,_,_,hne,_,_,_=>absurd rfl hne
 | [t],rs,g,σ,k,r,_,hst,ht,h=>by
  simp only [exOKs,Bool.and_true] at ht
  obtain ⟨s,rfl,h⟩:=resK_one h
  obtain ⟨d,σ',g',mv,v,hk,hrun,hst',hsh,hl,he⟩:=res1_ok htt hst ht h
  refine ⟨d,σ',g',mv,[v],hk,⟨hrun,trivial⟩,rfl,hst',hsh,fun m=>by simp only [exposeRes.chain];exact hl m,fun G base hL=>?_⟩
  obtain ⟨h1,h2⟩:=he G base hL
  simp only [exposeRes.chain]
  refine ⟨fun O=>?_,h2⟩
  simp only [VsOK]
  exact ⟨_,_,rfl,h1 O,rfl⟩
 | t :: u :: ts,rs,g,σ,k,r,_,hst,ht,h=>by
  simp only [exOKs,Bool.and_eq_true] at ht
  obtain ⟨s,l,rfl,h⟩:=resK_more h
  obtain ⟨d,σ1,g1,mv1,v,hk,hrun,hst1,hsh1,hl1,he1⟩:=res1_ok htt hst ht.1 h
  obtain ⟨ds,σ2,g2,mv2,vs,hk2,hss,hlen,hst2,hsh2,hl2,he2⟩:=resL_ok htt (u :: ts) l (by simp) hst1 (by simp only [exOKs,Bool.and_eq_true];exact ht.2) hk
  refine ⟨(d,ds),σ2,g2,mv1++mv2,v :: vs,hk2,⟨hrun,hss⟩,by simp [hlen],hst2,hsh1.trans hsh2,fun m=>?_,fun G base hL=>?_⟩
  ·simp only [exposeRes.chain,List.length_append,hl1,hl2]
  ·obtain ⟨h1,h2⟩:=he1 G base (hL.left hsh2 (fun i hi=>(hsh1.mv i hi).2))
   obtain ⟨h3,h4⟩:=he2 G (base+mv1.length) hL.right
   simp only [exposeRes.chain]
   rw [hl1 base]
   refine ⟨fun O=>?_,fun O j o hj=>?_⟩
   ·simp only [VsOK]
    exact ⟨_,_,rfl,h1 O,h3 O⟩
   ·rw [nthL_append] at hj
    split at hj
    ·exact h2 O j o hj
    ·rename_i hge
     rw [hl1 base] at hj hge
     have:=h4 O _ o hj
     rw [show base+mv1.length+(j-mv1.length)=base+j from by omega] at this
     exact this
theorem run_mapM {P:Program} {tmps:Array Value} {w:World}:(rs:List ResultVar)→(vs:List Value)→Reads P tmps w rs vs→(rs.mapM (rvRun tmps)).run P w = .ok vs w
 | [],[],_=>by simp
 | s :: l,v :: vs,h=>by
  have ih:=run_mapM l vs h.2
  rw [List.mapM_cons]
  simp only [Sem.run_bind,h.1,Result.andThen_ok,ih,Sem.run_pure]
 | [],_ :: _,h=>h.elim
 | _ :: _,[],h=>h.elim
def tupV:List Value→Value
 | [v]=>v
 | vs=>.tuple vs.toArray
theorem run_results {P:Program} {fn:Func} (tmps:Array Value) {w:World} {vs:List Value} (h:Reads P tmps w fn.results.toList vs):(results fn tmps).run P w = .ok (tupV vs) w:=by
 have e:results fn tmps=(do let vs ←fn.results.mapM (rvRun tmps);pure (if h:vs.size=1 then vs[0] else .tuple vs):Sem Value):=by
  unfold results
  refine congrArg (fun f=>(Array.mapM f fn.results >>= fun vs=>pure (if h:vs.size=1 then vs[0] else Value.tuple vs):Sem Value)) (funext fun x=>?_)
  cases x <;> rfl
 have h1:=run_mapM _ _ h
 have h2:(fn.results.mapM (rvRun tmps)).run P w = .ok vs.toArray w:=by
  rw [Array.mapM_eq_mapM_toList]
  rw [Sem.run_map,h1]
  rfl
 rw [e]
 simp only [Sem.run_bind,h2,Result.andThen_ok,Sem.run_pure]
 match vs with
 | []=>simp [tupV]
 | [v]=>simp [tupV]
 | _ :: _ :: _=>simp [tupV]
theorem res_heap {O:List Obj} {mv:List (Option Nat)} {g':Ghost} (hh:∀ b,g'.tag b≠.alien→b < w.heap.size) (ho:∀ j o,nthL O j=some o→ObjOK w (laidG g' mv) (nthL O) (0+j) o):HeapOK w (laidG g' mv) (nthL O):=by
 refine ⟨fun j o hj=>by have:=ho j o hj;rw [Nat.zero_add] at this;exact this,fun b hb=>hh b (fun h=>hb (by simp [laidG,h]))⟩
theorem res_ok {P:Program} {tt:Nat→Option Ty} (htt:TtOK P tt) {fn:Func} {ts:List Ty} {r:resDen ts} (hst:StOK n g w a σ) (ht:exOKs ts=true) (h:resK tt σ ts fn.results.toList (fun r _=>some r)=some r) :
  ∃ v g',(results fn a.tmps).run P w = .ok v w∧Ext w g w g'∧ResOK w g' (exposeRes ts r 0) v:=by
 match ts,r,ht,h with
 | [],r,_,h=>
  have hr:fn.results.toList=[]:=by
   generalize fn.results.toList=rs at h
   cases rs with
   | nil=>rfl
   | cons x l=>simp [resK] at h
  refine ⟨.tuple #[],laidG g [],run_results a.tmps (vs:=[]) (by rw [hr];trivial),laid_ext,res_heap hst.heap.tags (fun j o hj=>by cases j <;> simp [exposeRes,nthL] at hj),?_⟩
  simp only [exposeRes,VOK]
  exact ⟨[],rfl,by simp [VsOK]⟩
 | [t],r,ht,h=>
  simp only [exOKs,Bool.and_true] at ht
  obtain ⟨s,hrs,h⟩:=resK_one h
  obtain ⟨d,σ',g',mv,v,hk,hrun,hst',hsh,hlm,he⟩:=res1_ok htt hst ht h
  simp only [Option.some.injEq] at hk
  subst hk
  obtain ⟨h1,h2⟩:=he (laidG g' mv) 0 (laid_mk hsh.nodup)
  exact ⟨v,laidG g' mv,run_results a.tmps (vs:=[v]) (by rw [hrs];exact ⟨hrun,trivial⟩),hsh.ext.trans laid_ext,res_heap hst'.heap.tags (fun j o hj=>h2 _ j o hj),h1 _⟩
 | t :: u :: ts,r,ht,h=>
  obtain ⟨d,σ',g',mv,vs,hk,hss,hlen,hst',hsh,hlm,he⟩:=resL_ok htt (t :: u :: ts) _ (by simp) hst ht h
  simp only [Option.some.injEq] at hk
  subst hk
  obtain ⟨h1,h2⟩:=he (laidG g' mv) 0 (laid_mk hsh.nodup)
  have hrun:=run_results a.tmps hss
  refine ⟨.tuple vs.toArray,laidG g' mv,?_,hsh.ext.trans laid_ext,res_heap hst'.heap.tags (fun j o hj=>?_),?_⟩
  ·match vs,hlen,hrun with
   | _ :: _ :: _,_,hrun=>exact hrun
  ·exact h2 _ j o (by simpa [exposeRes,exposeRes.chain] using hj)
  ·simp only [exposeRes,VOK]
   exact ⟨_,rfl,by have:=h1 (nthL (exposeRes (t :: u :: ts) d 0).2);simpa [exposeRes,exposeRes.chain] using this⟩
end
theorem argSlots_ok {w:World} {g:Ghost} {objs:Objs}:(p:APat)→(d:p.den)→(i0:Nat)→{vals:List Value}→RoArgs w g p d vals→∀ i av,argSlots p d i0 i=some av→i0≤i∧∃ v,vals[i-i0]? = some v∧VOK w g objs av v
 | .pr (.val t) q,(x,y),i0,v :: vs,h,i,av,hi=>by
  obtain ⟨hro,⟨cs,hr,hv⟩,hrest⟩:=h
  simp only [argSlots,upd] at hi
  cases hb:Nat.beq i i0 with
  | true=>
   rw [hb] at hi
   simp only [cond_true,Option.some.injEq] at hi
   subst hi
   have:=Nat.eq_of_beq_eq_true hb
   subst this
   exact ⟨Nat.le_refl _,v,by simp,cs,⟨hro,hr⟩,hv⟩
  | false=>
   rw [hb] at hi
   obtain ⟨h1,u,h2,h3⟩:=argSlots_ok q y (i0+1) hrest i av hi
   refine ⟨by omega,u,?_,h3⟩
   have e:i-i0=(i-(i0+1))+1:=by omega
   rw [e];simpa using h2
 | .pr (.val t) q,(x,y),i0,[],h,i,av,hi=>h.elim
 | .un,_,_,_,_,_,_,hi=>by simp [argSlots] at hi
 | .val _,_,_,_,_,_,_,hi=>by simp [argSlots] at hi
 | .ref _,_,_,_,_,_,_,hi=>by simp [argSlots] at hi
 | .bptr _,_,_,_,_,_,_,hi=>by simp [argSlots] at hi
 | .clos _ _,_,_,_,_,_,_,hi=>by simp [argSlots] at hi
 | .agg _,_,_,_,_,_,_,hi=>by simp [argSlots] at hi
 | .pr (.ref _) _,_,_,_,_,_,_,hi=>by simp [argSlots] at hi
 | .pr (.bptr _) _,_,_,_,_,_,_,hi=>by simp [argSlots] at hi
 | .pr (.clos _ _) _,_,_,_,_,_,_,hi=>by simp [argSlots] at hi
 | .pr (.agg _) _,_,_,_,_,_,_,hi=>by simp [argSlots] at hi
 | .pr (.pr _ _) _,_,_,_,_,_,_,hi=>by simp [argSlots] at hi
 | .pr .un _,_,_,_,_,_,_,hi=>by simp [argSlots] at hi
def APat.len:APat→Nat
 | .pr _ q=>q.len+1
 | _=>0
theorem roArgs_len {w:World} {g:Ghost}:(p:APat)→(d:p.den)→{vals:List Value}→RoArgs w g p d vals→vals.length=p.len
 | .pr (.val t) q,(x,y),v :: vs,h=>by simp [APat.len,roArgs_len q y h.2.2]
 | .pr (.val t) q,(x,y),[],h=>h.elim
 | .un,_,[],_=>rfl
 | .un,_,_ :: _,h=>h.elim
 | .val _,_,_,h=>h.elim
 | .ref _,_,_,h=>h.elim
 | .bptr _,_,_,h=>h.elim
 | .clos _ _,_,_,h=>h.elim
 | .agg _,_,_,h=>h.elim
 | .pr (.ref _) _,_,_,h=>h.elim
 | .pr (.bptr _) _,_,_,h=>h.elim
 | .pr (.clos _ _) _,_,_,h=>h.elim
 | .pr (.agg _) _,_,_,h=>h.elim
 | .pr (.pr _ _) _,_,_,h=>h.elim
 | .pr .un _,_,_,h=>h.elim
theorem entry_ok {w:World} {g:Ghost} {p:APat} {d:p.den} {vals:List Value} {n:Nat} (ht:∀ b,g.tag b≠.alien→g.tag b = .ro∧b < w.heap.size) (hkn:Known w g) (h:RoArgs w g p d vals) (hn:p.len≤n) :
  StOK n g w { tmps:=vals.toArray++Array.replicate (n-vals.toArray.size) undef,defers:=[] } (entry p d)∧FreshUp g (entry p d):=by
 have hl:=roArgs_len p d h
 refine ⟨⟨fun i av hi=>?_,⟨fun id o ho=>by simp [entry] at ho,fun b hb=>(ht b hb).2⟩,by simp [hl];omega,rfl,hkn⟩,fun m _=>⟨rfl,fun b p hb=>?_,fun b hb=>?_,fun i av hi=>?_,fun id av ho=>by simp [entry] at ho⟩⟩
 ·obtain ⟨_,v,h1,h2⟩:=argSlots_ok (objs:=(entry p d).objs) p d 0 h i av hi
  rw [Nat.sub_zero] at h1
  refine ⟨v,?_,h2⟩
  have hlt:=(List.getElem?_eq_some_iff.1 h1).1
  rw [Array.getElem?_append_left (by simpa using hlt)]
  simpa using h1
 ·have:=(ht b (by rw [hb];simp)).1;rw [hb] at this;simp at this
 ·have:=(ht b (by rw [hb];simp)).1;rw [hb] at this;simp at this
 ·have key:∀ (p:APat) (d:p.den) (i0:Nat) (i:Nat) (av:AVal),argSlots p d i0 i=some av→av.ids=[]:=by
   intro p
   induction p with
   | pr a q iha ihq=>
    cases a with
    | val t=>
     intro d i0 i av hi
     obtain ⟨x,y⟩:=d
     simp only [argSlots,upd] at hi
     cases hb:Nat.beq i i0 with
     | true=>rw [hb] at hi;simp only [cond_true,Option.some.injEq] at hi;subst hi;rfl
     | false=>rw [hb] at hi;exact ihq y _ i av hi
    | _=>intro d i0 i av hi;simp [argSlots] at hi
   | _=>intro d i0 i av hi;simp [argSlots] at hi
  rw [key p d 0 i av hi];simp
theorem fn_ok {P : Program} {f : Nat} {fn : Func} {body : Code} {c : Ctx} {p : APat} {ts : List Ty} {F : p.den → Option (resDen ts)} (hf : P.funcs[f]? = some fn) (hb : fn.body = some body) (hnm : (fn.name == "runtime.NumGoroutine") = false)
  (hc:CtxOK P c) (hm:P.follows .mixedOrders=true) (hn:c.ntmps=fn.ntmps) (hp:p.len≤fn.ntmps) (ht:exOKs ts=true) (hl:ts.length≤6)
  (hlo:∀ b∈loopsOf body,LoopOK c b) (heq:∀ d,bodyK c ts fn.results.toList body (entry p d)=F d):CalleeOK P f (.pure p ts F):=by
 intro w g d vals r htag hkn hargs hF
 left
 refine ⟨?_,?_⟩
 ·have hnm' : ¬ fn.name = "runtime.NumGoroutine" := by simpa using hnm
  simp [callFunc,hf,hb,hnm']
 rw [←heq] at hF
 obtain ⟨hst,hfr⟩:=entry_ok htag hkn hargs hp
 rw [←hn] at hst
 refine calls_of_wp hf hb ?_
 rw [←hn]
 refine code_ok hc hm body hlo (Q:=bodyPost P fn _) (fun ch a w h=>?_) hF hst hfr ?_
 ·obtain ⟨_,v,h,_⟩:=h
  cases h
 ·intro e σ' g' a' w' hk hst' hext' hf' _
  have fin:∀ {σ':St},norm c.res σ' (fun σ=>resK c.tt σ ts fn.results.toList fun r _=>some r)=some r→StOK c.ntmps g' w' a' σ'→FreshUp g' σ'→
    ∃ v,(results fn a'.tmps).run P w' = .ok v w'∧∃ g',Ext w g w' g'∧ResOK w' g' (exposeRes ts r 0) v:=by
   intro σ' hk hst' hf'
   obtain ⟨σ1,g1,h1,hst1,hext1,_⟩:=norm_ok hst' hf' hk
   obtain ⟨v,g2,hr,hext2,hres⟩:=res_ok (P:=P) hc.tt hst1 ht h1
   exact ⟨v,hr,g2,(hext'.trans hext1).trans hext2,hres⟩
  cases e with
  | exit id=>simp at hk
  | normal=>
   obtain ⟨v,h1,h2⟩:=fin hk hst' hf'
   exact ⟨hst'.defers,v,h1,v,rfl,h2⟩
  | ret=>
   obtain ⟨v,h1,h2⟩:=fin hk hst' hf'
   exact ⟨hst'.defers,v,h1,v,rfl,h2⟩
end Go.Kz
namespace Go.Kz
variable {R:Type}
end Go.Kz
namespace Go.Kz
variable {R:Type}
def iter {α:Type} (Body:(α→Option R)→α→Option R):Nat→α→Option R
 | 0,_=>none
 | n+1,x=>Body (iter Body n) x
def kLoop (c:Ctx) (r:Nat) (lv:Cut) (kb:List (Nat×AVal)→List Obj→Option R) (k:AExit→St→Option R):AExit→St→Option R
 | .normal,σ=>normL lv σ kb
 | e,σ=>kExit c r k e σ
theorem loop_eq {c:Ctx} {b:Code} {r:Nat} {lv:Cut} {α:Type} {st:α→List (Nat×AVal)×List Obj} {k:AExit→St→Option R} {Body:(α→Option R)→α→Option R}
  (hstep:∀ (kb:List (Nat×AVal)→List Obj→Option R) (x:α),codeK c b (St.of (st x).1 (st x).2) (kLoop c r lv kb k)=Body (fun y=>kb (st y).1 (st y).2) x) :
  ∀ (n:Nat) (x:α),loopN (codeK c b) lv n (st x).1 (st x).2 (kExit c r k)=iter Body n x
 | 0,x=>rfl
 | n+1,x=>by
  have e:(fun e σ=>match e with
    | .normal=>normL lv σ fun sl os=>loopN (codeK c b) lv n sl os (kExit c r k)
    | e=>kExit c r k e σ)=kLoop c r lv (fun sl os=>loopN (codeK c b) lv n sl os (kExit c r k)) k:=by
   funext e σ
   cases e <;> rfl
  have h:=hstep (fun sl os=>loopN (codeK c b) lv n sl os (kExit c r k)) x
  simp only [loopN,iter]
  refine (congrArg (codeK c b (St.of (st x).1 (st x).2)) e).trans (h.trans ?_)
  congr 1
  funext y
  exact loop_eq hstep n y
theorem loop_mk {c:Ctx} {b:Code} {r:Nat} {lv:Cut} {f:SForm} (F:(R:Type)→f.den→(AExit→St→Option R)→Option R) (hr:firstRegion b=some r) (hlv:c.cut r=some lv)
  (hL:c.lp r=some fun R sl os k=>f.take sl os fun d=>F R d k)
  (h:∀ (R:Type) (k:AExit→St→Option R) (d:f.den),loopN (codeK c b) lv c.fuel (slMk f.slots d.1) (osMk f.objs d.2) (kExit c r k)=F R d k):LoopOK c b:=by
 intro r' lv' L hr' hlv' hL' R sl os k x hx
 rw [hr] at hr'
 simp only [Option.some.injEq] at hr'
 subst hr'
 rw [hlv] at hlv'
 simp only [Option.some.injEq] at hlv'
 subst hlv'
 rw [hL] at hL'
 simp only [Option.some.injEq] at hL'
 subst hL'
 replace hx:=slTake_some f.slots hx
 obtain ⟨d,rfl,hx⟩:=hx
 replace hx:=osTake_some f.objs hx
 obtain ⟨e,rfl,hx⟩:=hx
 rw [h R k (d,e)]
 exact hx
theorem env_nil {P:Program}:EnvOK P fun f=>((getL ([]:List (Nat×List Callee)) f).getD []):=by
 intro f c h;simp [getL] at h
theorem env_cons {P:Program} {f:Nat} {cs:List Callee} {l:List (Nat×List Callee)} (h:∀ c∈cs,CalleeOK P f c) (hl:EnvOK P fun f=>(getL l f).getD []):EnvOK P fun g=>(getL ((f,cs) :: l) g).getD []:=by
 intro g c hc
 simp only [getL] at hc
 cases hb:Nat.beq f g with
 | true=>
  rw [hb] at hc
  have:=Nat.eq_of_beq_eq_true hb
  subst this
  exact h c hc
 | false=>rw [hb] at hc;exact hl g c hc
def mtB (P:Program):List (Nat×Ty×Ty)→Bool
 | []=>true
 | (T,kt,vt) :: l=>(match P.underlying T with
  | some (.map K E)=>tyB P kt K && tyB P vt E && (match P.info? E with
   | some i=>(match i.zero with
    | some z=>(match vt.sk.isAgg,z with
     | true,.agg _=>true
     | false,.int _ _=>true
     | false,.bool _=>true
     | false,.string _=>true
     | _,_=>false)
    | none=>false)
   | none=>false)
  | _=>false) && mtB P l
theorem mtB_ok {P:Program}:{l:List (Nat×Ty×Ty)}→mtB P l=true→MtOK P (getL l)
 | [],_,_,_,_,h=>by simp [getL] at h
 | (T,kt,vt) :: l,hb,T',kt',vt',h=>by
  simp only [mtB,Bool.and_eq_true] at hb
  simp only [getL] at h
  cases he:Nat.beq T T' with
  | false=>rw [he] at h;exact mtB_ok hb.2 T' kt' vt' h
  | true=>
   rw [he] at h
   simp only [cond_true,Option.some.injEq,Prod.mk.injEq] at h
   obtain ⟨rfl,rfl⟩:=h
   obtain rfl:=Nat.eq_of_beq_eq_true he
   have h1:=hb.1
   split at h1
   ·rename_i K E hu
    simp only [Bool.and_eq_true] at h1
    refine ⟨K,E,hu,tyB_ok h1.1.1,tyB_ok h1.1.2,?_⟩
    have h2:=h1.2
    split at h2
    ·rename_i i hi
     split at h2
     ·rename_i z hz
      refine ⟨i,z,hi,hz,?_⟩
      split at h2
      ·rename_i hag;rw [hag];simp [mkV,Value.cells]
      ·rename_i hag;rw [hag];simp [mkV,Value.cells]
      ·rename_i hag;rw [hag];simp [mkV,Value.cells]
      ·rename_i hag;rw [hag];simp [mkV,Value.cells]
      ·simp at h2
     ·simp at h2
    ·simp at h2
   ·simp at h1
@[reducible] def wi8 (n:Int):Int:=IntKind.i8.wrap n
@[reducible] def wi16 (n:Int):Int:=IntKind.i16.wrap n
@[reducible] def wi32 (n:Int):Int:=IntKind.i32.wrap n
@[reducible] def wi64 (n:Int):Int:=IntKind.i64.wrap n
@[reducible] def wu8 (n:Int):Int:=IntKind.u8.wrap n
@[reducible] def wu16 (n:Int):Int:=IntKind.u16.wrap n
@[reducible] def wu32 (n:Int):Int:=IntKind.u32.wrap n
@[reducible] def wu64 (n:Int):Int:=IntKind.u64.wrap n
@[reducible] def len {α:Type} (l:List α):Int:=(l.length:Int)
theorem forall_mem1 {p:Callee→Prop} {a:Callee} (h:p a):∀ c∈[a],p c:=by
 intro c hc;simp only [List.mem_singleton] at hc;subst hc;exact h
inductive AllL (p:Code→Prop):List Code→Prop
 | nil:AllL p []
 | cons {b:Code} {l:List Code} (h:p b) (t:AllL p l):AllL p (b :: l)
theorem AllL.mem {p:Code→Prop} {l:List Code} (h:AllL p l):∀ b∈l,p b:=by
 induction h with
 | nil=>intro b hb;simp at hb
 | cons h t ih=>
  intro b hb
  rcases List.mem_cons.1 hb with rfl | hb
  ·exact h
  ·exact ih b hb
theorem loops_ok {c:Ctx} {b:Code} {l:List Code} (h:loopsOf b=l) (hs:AllL (LoopOK c) l):∀ b'∈loopsOf b,LoopOK c b':=by
 rw [h];exact hs.mem
end Go.Kz
namespace Go.Kz
def wholeG (w:World):Ghost:=⟨fun b=>if b < w.heap.size then .ro else .alien,fun _ _=>undef,fun _=>0⟩
theorem wholeG_tag {w:World} {b:Nat} (h:b < w.heap.size):(wholeG w).tag b = .ro:=by simp [wholeG,h]
theorem exists_list {α:Type} {p:Nat→α→Prop}:(n:Nat)→(∀ i,i < n→∃ x,p i x)→∃ l:List α,l.length=n∧∀ (i:Nat) (h:i < l.length),p i (l.get ⟨i,h⟩)
 | 0,_=>⟨[],rfl,fun i h=>by simp at h⟩
 | n+1,h=>by
  obtain ⟨x,hx⟩:=h 0 (by omega)
  obtain ⟨l,hl,hp⟩:=exists_list (p:=fun i=>p (i+1)) n (fun i hi=>h (i+1) (by omega))
  refine ⟨x :: l,by simp [hl],fun i hi=>?_⟩
  cases i with
  | zero=>exact hx
  | succ i=>exact hp i (by simpa using hi)
theorem InfoOK.cellsOf {P:Program} {T:TypeId} {t:Ty} (h:InfoOK P T t):P.cellsOf T=t.size∧0 < t.size:=by
 obtain ⟨i,z,h1,h2,_,_,_,h3⟩:=h.info
 simp [Program.cellsOf,h1,h2];omega
def Ty.plain:Ty→Bool
 | .int _ | .bool | .str | .unit=>true
 | .pair a b=>a.plain && b.plain
 | .arr _ t=>t.plain
 | .sl false t=>t.plain
 | _=>false
theorem Ty.plain_ro:{t:Ty}→t.plain=true→t.isRo=true
 | .int _,_=>rfl
 | .bool,_=>rfl
 | .str,_=>rfl
 | .unit,_=>rfl
 | .pair a b,h=>by simp only [Ty.plain,Bool.and_eq_true] at h;simp [Ty.isRo,Ty.plain_ro h.1,Ty.plain_ro h.2]
 | .arr _ t,h=>by simp only [Ty.plain] at h;simp only [Ty.isRo];exact Ty.plain_ro h
 | .sl false t,h=>by simp only [Ty.plain] at h;simp only [Ty.isRo];simpa using Ty.plain_ro h
 | .sl true _,h=>by simp [Ty.plain] at h
 | .ptr _,h=>by simp [Ty.plain] at h
 | .fn _ _,h=>by simp [Ty.plain] at h
section
variable {H:Type} {enc:TypeId×Value→H} {P:Program} {w:World} {base:Nat} {spare:Nat→Bool} {held:Bool}
theorem cells_block {b off n:Nat} {cs:List Value} {c:Array Value} {e:TypeId} {fz:Nat×Nat} (hl:cs.length=n) (hc:∀ j,j < n→w.cell? ⟨b,off+j,none⟩=cs[j]?) (hb:w.heap[b]? = some (.cells c e fz)) (hn:0 < n) :
  off+n≤c.size∧seg c.toList off n=cs:=by
 have hcell:∀ j,j < n→c[off+j]? = cs[j]? := fun j hj=>by
  have:=hc j hj
  simpa [World.cell?,hb] using this
 have hle:off+n≤c.size:=by
  have h1:=hcell (n-1) (by omega)
  have h2:cs[n-1]?≠none:=by simp;omega
  rw [←h1] at h2
  simp at h2;omega
 refine ⟨hle,?_⟩
 apply List.ext_getElem?
 intro j
 by_cases hj:j < n
 ·rw [←hcell j hj]
  simp [seg,List.getElem?_take,hj]
 ·rw [List.getElem?_eq_none (by rw [seg_length (by simpa using hle)];omega),List.getElem?_eq_none (by rw [hl];omega)]
mutual
theorem open_rep:(t:Ty)→{T:TypeId}→{fuel:Nat}→{cs:List Value}→{x:DataW H×List MemPlace}→t.plain=true→TyOK P t T→DataW.trod enc P w base spare held fuel T cs=some x→∃ d,Rep w (wholeG w) none t d cs
 | .int k,T,fuel,cs,x,_,hT,h=>by
  simp only [TyOK] at hT
  obtain ⟨m,rfl,_,hw⟩:=DataW.trod_int hT.1 h
  simp only [Lit.wf,Bool.and_eq_true,decide_eq_true_eq] at hw
  exact ⟨m,rfl,hw.1,hw.2⟩
 | .bool,T,fuel,cs,x,_,hT,h=>by
  simp only [TyOK] at hT
  obtain ⟨b,rfl,_⟩:=DataW.trod_bool hT.1 h
  exact ⟨b,rfl⟩
 | .str,T,fuel,cs,x,_,hT,h=>by
  simp only [TyOK] at hT
  obtain ⟨s,rfl,_,hs⟩:=DataW.trod_string hT.1 h
  exact ⟨s.data.toList,s,rfl,rfl,hs⟩
 | .unit,T,fuel,cs,x,_,hT,h=>by simp only [TyOK] at hT
 | .pair a b,T,fuel,cs,x,hp,hT,h=>by
  simp only [TyOK] at hT
  obtain ⟨⟨fs,hu,hfs⟩,hinf⟩:=hT
  obtain ⟨xs,n,_,_,hl,hlen,hf⟩:=DataW.trod_struct hu h
  obtain ⟨hcz,_⟩:=hinf.cellsOf
  rw [hcz] at hl
  obtain ⟨d,hd⟩:=open_fields (.pair a b) (off:=0) (cs:=cs) (n:=n) hp hfs (by rw [hl];simp) (fun i f hi=>by
   have hi':fs[i]? = some f:=by rw [←Array.getElem?_toList];exact hi
   have:=hf i f hi'
   have hlt:i < xs.length:=by rw [hlen];exact (Array.getElem?_eq_some_iff.1 hi').1
   exact ⟨xs[i],by rw [this];simp [hlt]⟩)
  refine ⟨d,?_⟩
  have:seg cs 0 (Ty.pair a b).size=cs:=by rw [←hl];exact seg_all cs
  rw [this] at hd
  exact hd
 | .arr n t,T,fuel,cs,x,hp,hT,h=>by
  simp only [TyOK] at hT
  obtain ⟨⟨E,hu,hE⟩,hinf⟩:=hT
  obtain ⟨hcz,_⟩:=hinf.cellsOf
  obtain ⟨hez,_⟩:=hE.info.cellsOf
  obtain ⟨xs,m,_,_,hl,hlen,hx⟩:=DataW.trod_array hu h
  rw [hcz] at hl
  rw [hez] at hx
  have each:∀ i,i < n→∃ d,Rep w (wholeG w) none t d (seg cs (i*t.size) t.size):=fun i hi=>by
   have h1:=hx i hi
   have h2:xs[i]? = some xs[i]:=by simp [hlen,hi]
   rw [h2] at h1
   exact open_rep t (by simpa [Ty.plain] using hp) hE h1
  obtain ⟨l,hll,hel⟩:=exists_list n each
  exact ⟨l,hll,hl,fun i hi=>Rep.anyOwn (Ty.plain_ro (by simpa [Ty.plain] using hp)) (hel i hi)⟩
 | .sl false t,T,fuel,cs,x,hp,hT,h=>by
  simp only [TyOK] at hT
  obtain ⟨⟨E,hu,hE⟩,_⟩:=hT
  obtain ⟨hez,hpos⟩:=hE.info.cellsOf
  rcases DataW.trod_slice hu h with ⟨rfl,_⟩ | ⟨a,len,cap,elems,rest,n,_,rfl,_,hb,hlc,hcm,hlen,hel,_⟩
  ·exact ⟨([]:List t.den),none,0,rfl,Nat.le_refl _,Nat.zero_le _,fun hn=>absurd rfl hn⟩
  ·rw [hez] at hel
   have each:∀ i,i < len→∃ d,(∃ cs',w.cells? base (a.add (i*t.size)) t.size=some cs'∧Rep w (wholeG w) none t d cs'):=fun i hi=>by
    have h1:=hel i hi
    have h2:elems[i]? = some elems[i]:=by simp [hlen,hi]
    rw [h2,Option.bind_eq_some_iff] at h1
    obtain ⟨cs',hc,hy⟩:=h1
    obtain ⟨d,hd⟩:=open_rep t (by simpa [Ty.plain] using hp) hE hy
    exact ⟨d,cs',hc,hd⟩
   obtain ⟨l,hll,hl⟩:=exists_list len each
   refine ⟨l,some a,cap,by rw [hll],by rw [hll];exact hlc,hcm,fun hne=>?_⟩
   have hlp:0 < len:=by rw [←hll];exact List.length_pos_iff.2 hne
   obtain ⟨cs0,hc0,_⟩:=hl 0 (by rw [hll];exact hlp)
   obtain ⟨_,hl0,hcell0⟩:=World.cells?_some hc0
   have hz:=hcell0 0 hpos
   simp only [Nat.zero_mul] at hz
   have ha0:(a.add 0).add 0=a:=by simp [Addr.add]
   rw [ha0] at hz
   have hne0:cs0[0]?≠none:=by
    rw [List.getElem?_eq_getElem (by rw [hl0];exact hpos)];simp
   rw [←hz] at hne0
   obtain ⟨b,off,spot⟩:=a
   have hsp:spot=none∧∃ c e fz,w.heap[b]? = some (.cells c e fz):=by
    simp only [World.cell?] at hne0
    split at hne0
    ·rename_i c e fz hblk
     refine ⟨?_,c,e,fz,hblk⟩
     cases spot with
     | none=>rfl
     | some s=>simp at hne0
    ·simp at hne0
   obtain ⟨rfl,c,e,fz,hblk⟩:=hsp
   have hlt:b < w.heap.size:=(Array.getElem?_eq_some_iff.1 hblk).1
   have elt:∀ (i:Nat) (hi:i < l.length),off+i*t.size+t.size≤c.size∧Rep w (wholeG w) none t (l.get ⟨i,hi⟩) (seg c.toList (off+i*t.size) t.size):=fun i hi=>by
    obtain ⟨cs',hc',hr⟩:=hl i hi
    obtain ⟨_,hl',hcell'⟩:=World.cells?_some hc'
    have hadd:(⟨b,off,none⟩:Addr).add (i*t.size)=⟨b,off+i*t.size,none⟩:=Addr.add_lit ..
    rw [hadd] at hcell'
    have h2:=cells_block (b:=b) (off:=off+i*t.size) (n:=t.size) hl' (fun j hj=>by
     have:=hcell' j hj
     rw [Addr.add_lit] at this
     exact this) hblk hpos
    exact ⟨h2.1,by rw [h2.2];exact hr⟩
   refine ⟨b,off,c,e,fz,rfl,wholeG_tag hlt,hblk,?_,fun i hi=>(elt i hi).2⟩
   have:=(elt (l.length-1) (by omega)).1
   have hm:(l.length-1+1)*t.size=l.length*t.size:=by rw [Nat.sub_add_cancel (by omega)]
   rw [Nat.add_mul] at hm
   omega
 | .sl true _,_,_,_,_,hp,_,_=>by simp [Ty.plain] at hp
 | .ptr _,_,_,_,_,hp,_,_=>by simp [Ty.plain] at hp
 | .fn _ _,_,_,_,_,hp,_,_=>by simp [Ty.plain] at hp
theorem open_fields:(t:Ty)→{fs:List Field}→{off:Nat}→{cs:List Value}→{n:Nat}→t.plain=true→FsOK P t fs off→off+t.size≤cs.length→
  (∀ (i:Nat) (f:Field),fs[i]? = some f→∃ x,DataW.trod enc P w base spare held n f.type ((cs.drop f.offset).take (P.cellsOf f.type))=some x)→∃ d,Rep w (wholeG w) none t d (seg cs off t.size)
 | .pair a b,f :: fs,off,cs,n,hp,hfs,hl,h=>by
  simp only [FsOK] at hfs
  obtain ⟨ho,hta,htb⟩:=hfs
  simp only [Ty.plain,Bool.and_eq_true] at hp
  simp only [Ty.size] at hl
  obtain ⟨y,hy⟩:=h 0 f rfl
  rw [ho,(hta.info.cellsOf).1] at hy
  obtain ⟨d1,hd1⟩:=open_rep a hp.1 hta hy
  obtain ⟨d2,hd2⟩:=open_fields b (off:=off+a.size) hp.2 htb (by omega) (fun i g hg=>h (i+1) g (by simpa using hg))
  refine ⟨(d1,d2),seg cs off a.size,seg cs (off+a.size) b.size,?_,hd1,hd2⟩
  simp only [seg,Ty.size,List.take_add]
  rw [List.drop_drop]
 | .unit,[],off,cs,n,_,_,_,_=>⟨(),by simp [seg,Ty.size,Rep]⟩
 | .unit,_ :: _,_,_,_,_,h,_,_=>by simp only [FsOK] at h
 | .pair _ _,[],_,_,_,_,h,_,_=>by simp only [FsOK] at h
 | .int _,_,_,_,_,_,h,_,_=>by simp only [FsOK] at h
 | .bool,_,_,_,_,_,h,_,_=>by simp only [FsOK] at h
 | .str,_,_,_,_,_,h,_,_=>by simp only [FsOK] at h
 | .arr _ _,_,_,_,_,_,h,_,_=>by simp only [FsOK] at h
 | .sl _ _,_,_,_,_,_,h,_,_=>by simp only [FsOK] at h
 | .ptr _,_,_,_,_,_,h,_,_=>by simp only [FsOK] at h
 | .fn _ _,_,_,_,_,_,h,_,_=>by simp only [FsOK] at h
end
theorem okWide_mk {t:Ty} {T:TypeId} {v:Value} {r:Reach} (hp:t.plain=true) (hT:TyOK P t T) (h:Value.okWide P w r base T v):v=mkV t.sk.isAgg v.cells.toList:=by
 cases t with
 | int k=>simp only [TyOK] at hT;obtain ⟨n,rfl⟩:=Go.WideShapes.okWide_int hT.1 h;rfl
 | bool=>simp only [TyOK] at hT;obtain ⟨n,rfl⟩:=Go.WideShapes.okWide_bool hT.1 h;rfl
 | str=>simp only [TyOK] at hT;obtain ⟨n,rfl⟩:=Go.WideShapes.okWide_string hT.1 h;rfl
 | unit=>simp only [TyOK] at hT
 | pair a b=>
  simp only [TyOK] at hT
  obtain ⟨⟨fs,hu,_⟩,_⟩:=hT
  obtain ⟨cs,rfl,_⟩:=Go.WideShapes.okWide_struct hu h
  simp [mkV,Ty.sk,Sk.isAgg,Value.cells]
 | arr n t=>
  simp only [TyOK] at hT
  obtain ⟨⟨E,hu,_⟩,_⟩:=hT
  simp only [Value.okWide,hu] at h
  obtain ⟨cs,rfl,_⟩:=h
  simp [mkV,Ty.sk,Sk.isAgg,Value.cells]
 | sl o t=>
  simp only [TyOK] at hT
  obtain ⟨⟨E,hu,_⟩,_⟩:=hT
  obtain ⟨a,l,c,rfl⟩:=Go.WideShapes.okWide_slice hu h
  rfl
 | ptr t=>simp [Ty.plain] at hp
 | fn f t=>simp [Ty.plain] at hp
theorem arg_open {t:Ty} {T:TypeId} {v:Value} {r:Reach} {base':Nat} {d:DataW H} {ps:List MemPlace} (hp:t.plain=true) (hT:TyOK P t T) (hv:Value.okWide P w r base' T v) (h:DataW.Trod enc P w base spare held T v d ps) :
  ∃ x,t.isRo=true∧∃ cs,Rep w (wholeG w) none t x cs∧v=mkV t.sk.isAgg cs:=by
 obtain ⟨fuel,h⟩:=h
 obtain ⟨x,hx⟩:=open_rep t hp hT h
 exact ⟨x,Ty.plain_ro hp,_,hx,okWide_mk hp hT hv⟩
end
theorem law_walk {P : Program} {f : Nat} {fn : Func} {body : Code} {p : APat} {F : p.den → Option Bool} {d : p.den} {vals : List Value} {w : World} (hf : P.funcs[f]? = some fn) (hb : fn.body = some body) (hnm : (fn.name == "runtime.NumGoroutine") = false)
  (hc:CalleeOK P f (.pure p [.bool] F)) (hF:F d=some true) (ha:RoArgs w (wholeG w) p d vals) (hkn:Known w (wholeG w):=by intro b e he;simp [tab] at he) :
  Calls P f vals.toArray w fun e w'=>e = .returned (.bool true)∧Go.RowKit.Below w.heap.size w w':=by
 have hnm' : ¬ fn.name = "runtime.NumGoroutine" := by simpa using hnm
 have hent:(callFunc f vals.toArray).run P w = .ok (.enter f vals.toArray) w:=by simp [callFunc,hf,hb,hnm']
 rcases hc w (wholeG w) d vals true (fun b hb=>by
  simp only [wholeG] at hb ⊢
  split at hb
  ·rename_i h;simp [h]
  ·simp at hb) hkn ha hF with ⟨_,h⟩ | ⟨v,w',h,_⟩
 ·refine Calls.mono h fun e w' he=>?_
  obtain ⟨v,rfl,g',hext,hres⟩:=he
  have hv:=VOK_bool hres.2
  refine ⟨by rw [hv],hext.os,hext.tape,hext.output,hext.size,fun k hk=>(hext.keep k hk (.inr (wholeG_tag hk))).1⟩
 ·rw [hent] at h;cases h
theorem known_int {w:World} {b n:Nat} {k:IntKind} {l:List Int} (hl:l.length=n) (hn:0 < n) (hr:∀ x∈l,k.min≤x∧x≤k.max) (h:∀ j,j < n→w.cell? ⟨b,j,none⟩=some (.int k (l.getD j 0))) :
  Rep w (wholeG w) none (.ptr (.arr n (.int k))) l [.pointer (some ⟨b,0,none⟩)]:=by
 have h0:=h 0 hn
 have:∃ c e fz,w.heap[b]? = some (.cells c e fz):=by
  simp only [World.cell?] at h0
  split at h0
  ·rename_i c e fz hb
   exact ⟨c,e,fz,hb⟩
  ·simp at h0
 obtain ⟨c,e,fz,hb⟩:=this
 have hlt:=(Array.getElem?_eq_some_iff.1 hb).1
 have hcs:∀ j,j < n→w.cell? ⟨b,0+j,none⟩=(l.map (Value.int k))[j]? := by
  intro j hj
  rw [Nat.zero_add,h j hj]
  have hj':j < l.length:=by omega
  simp [hj']
 obtain ⟨h1,h2⟩:=cells_block (by simp [hl]) hcs hb hn
 refine ⟨b,0,c,e,fz,rfl,wholeG_tag hlt,hb,by simp only [Ty.size];omega,hl,?_,fun i hi=>?_⟩
 ·have:=seg_length (l:=c.toList) (off:=0) (n:=n*1) (by simp;omega)
  simpa [Ty.size] using this
 ·have e1:(Ty.arr n (.int k)).size=n:=by simp [Ty.size]
  have e2:(Ty.int k).size=1:=rfl
  rw [e1,h2,e2]
  refine ⟨?_,hr _ (List.get_mem _ _)⟩
  have hi':i < l.length:=hi
  simp only [seg,Nat.mul_one,List.get_eq_getElem]
  rw [←List.map_drop,List.drop_eq_getElem_cons hi']
  rfl
end Go.Kz
namespace Go.Kz
theorem iter_rule {α R:Type} {Body:(α→Option R)→α→Option R} {r:Option R} (Inv:α→Prop) (m:α→Nat)
  (h:∀ x w,Inv x→(∀ y,Inv y→m y < m x→w y=r)→Body w x=r):∀ (n:Nat) (x:α),Inv x→m x < n→iter Body n x=r
 | 0,_,_,hn=>by omega
 | n+1,x,hx,hn=>h x _ hx fun y hy hm=>iter_rule Inv m h n y hy (by omega)
theorem idx_nat {α:Type} (l:List α) (k:Nat):idx l (k:Int)=l[k]? := rfl
theorem idx_of {α:Type} {l:List α} {i:Int} (h0:0≤i) (h1:i < l.length):idx l i=some (l[i.toNat]'(by omega)):=by
 obtain ⟨k,rfl⟩:=Int.eq_ofNat_of_zero_le h0
 simp only [idx_nat,Int.toNat_natCast]
 exact List.getElem?_eq_getElem (by omega)
theorem idx_lt {α:Type} {l:List α} {k:Nat} (h:k < l.length):idx l (k:Int)=some l[k]:=by simp [idx_nat,h]
theorem inb_lt {α:Type} {l:List α} {k:Nat} (h:k < l.length):inb l (k:Int)=true:=by simp [inb,h]
theorem setI_nat {α:Type} (l:List α) (k:Nat) (x:α):setI l (k:Int) x=l.set k x:=rfl
theorem chk_true {R:Type} {b:Bool} {x:Option R} (h:b=true):chk b x=x:=by rw [h];rfl
theorem wi64_of {n:Int} (h1 : -9223372036854775808≤n) (h2:n≤9223372036854775807):wi64 n=n:=by
 simp only [wi64,IntKind.wrap,IntKind.min,IntKind.max,IntKind.bits,IntKind.signed]
 simp
 omega
theorem wu64_of {n:Int} (h1:0≤n) (h2:n≤18446744073709551615):wu64 n=n:=by
 simp only [wu64,IntKind.wrap,IntKind.min,IntKind.max,IntKind.bits,IntKind.signed]
 simp
 omega
end Go.Kz
namespace Go.Kz
variable {σ R:Type} {r:Option R}
theorem iter_for {F:(Int×σ→Option R)→Int×σ→Option R} (Inv:Nat→σ→Prop) (n:Nat)
  (step:∀ (k:Nat) (s:σ) (w:Int×σ→Option R),k < n→Inv k s→(∀ s',Inv (k+1) s'→w ((k:Int)+1,s')=r)→F w ((k:Int),s)=r)
  (last:∀ (s:σ) (w:Int×σ→Option R),Inv n s→F w ((n:Int),s)=r) (N:Nat) (hN:n < N) (s0:σ) (h0:Inv 0 s0):iter F N (0,s0)=r:=by
 refine iter_rule (fun x=>∃ k:Nat,x.1=(k:Int)∧k≤n∧Inv k x.2) (fun x=>n-x.1.toNat) ?_ N (0,s0) ⟨0,rfl,by omega,h0⟩ (by simpa using hN)
 rintro ⟨x,s⟩ w ⟨k,hx,hk,hi⟩ hw
 simp only at hx hi
 subst hx
 by_cases hlt:k < n
 ·exact step k s w hlt hi fun s' hs'=>hw _ ⟨k+1,by simp,by omega,hs'⟩ (by simp;omega)
 ·have:k=n:=by omega
  subst this
  exact last s w hi
theorem dlt_len {α:Type} {l:List α} {k:Nat} (h:k < l.length):decide ((k:Int) < len l)=true:=by simp [len,h]
theorem dnlt_len {α:Type} (l:List α):decide (((l.length:Nat):Int) < len l)=false:=by simp [len]
theorem chk_room {n:Nat} {x:Option R} (h:n≤4294967296):chk (decide (n≤room)) x=x:=chk_true (decide_eq_true h)
theorem take_succ {α:Type} {l:List α} {k:Nat} (h:k < l.length):l.take (k+1)=l.take k++[l[k]]:=by rw [List.take_succ_eq_append_getElem h]
theorem rev_ind {α:Type} {p:List α→Prop} (h0:p []) (h1:∀ l x,p l→p (l++[x])) (l:List α):p l:=by
 have:∀ n (l:List α),l.length=n→p l:=by
  intro n
  induction n with
  | zero=>intro l hl;have:=List.eq_nil_of_length_eq_zero hl;subst this;exact h0
  | succ n ih=>
   intro l hl
   have hne:l≠[]:=by intro h;subst h;simp at hl
   rw [←List.dropLast_concat_getLast hne]
   exact h1 _ _ (ih _ (by simp [hl]))
 exact this _ l rfl
end Go.Kz
namespace Go.Kz
variable {R:Type}
end Go.Kz
namespace Go.Kz
variable {R α β σ:Type}
def Yld (x:Option R) (Q:R→Prop):Prop:=∃ r,x=some r∧Q r
theorem Yld.ret {r:R} {Q:R→Prop} (h:Q r):Yld (some r) Q:=⟨r,rfl,h⟩
theorem Yld.mono {x:Option R} {P Q:R→Prop} (h:Yld x P) (hq:∀ r,P r→Q r):Yld x Q:=let ⟨r,h1,h2⟩:=h;⟨r,h1,hq r h2⟩
theorem Yld.bind {m:Option α} {f:α→Option R} {Q:R→Prop} (h:Yld m fun a=>Yld (f a) Q):Yld (m.bind f) Q:=by
 obtain ⟨a,rfl,r,h1,h2⟩:=h
 exact ⟨r,h1,h2⟩
theorem Yld.then {m:Option α} {f:α→Option R} {P:α→Prop} {Q:R→Prop} (h:Yld m P) (hf:∀ a,P a→Yld (f a) Q):Yld (m.bind f) Q:=Yld.bind (h.mono hf)
theorem Yld.cond {b:Bool} {x y:Option R} {Q:R→Prop} (h1:b=true→Yld x Q) (h2:b=false→Yld y Q):Yld (cond b x y) Q:=by
 cases b with
 | true=>exact h1 rfl
 | false=>exact h2 rfl
theorem Yld.chk {b:Bool} {x:Option R} {Q:R→Prop} (hb:b=true) (h:Yld x Q):Yld (chk b x) Q:=by rw [hb];exact h
theorem Yld.idx {l:List α} {i:Int} {Q:α→Prop} (h0:0≤i) (h1:i < l.length) (h:∀ hk:i.toNat < l.length,Q l[i.toNat]):Yld (idx l i) Q:=
 ⟨_,idx_of h0 h1,h _⟩
theorem Yld.of {x:Option R} {r:R} {Q:R→Prop} (h:x=some r) (hq:Q r):Yld x Q:=⟨r,h,hq⟩
theorem Yld.iter {Q:R→Prop} {Body:(α→Option R)→α→Option R} (Inv:α→Prop) (m:α→Nat)
  (h:∀ x w,Inv x→(∀ y,Inv y→m y < m x→Yld (w y) Q)→Yld (Body w x) Q):∀ (n:Nat) (x:α),Inv x→m x < n→Yld (iter Body n x) Q
 | 0,_,_,hn=>by omega
 | n+1,x,hx,hn=>h x _ hx fun y hy hm=>Yld.iter Inv m h n y hy (by omega)
theorem Yld.first {Q:R→Prop} {F:(α→Option R)→α→Option R} {N:Nat} {x:α} (hN:0 < N) (h:∀ w,Yld (F w x) Q):Yld (Go.Kz.iter F N x) Q:=by
 cases N with
 | zero=>omega
 | succ n=>exact h _
theorem wi64_nat {k:Nat} (h:k < 9223372036854775807):wi64 ((k:Int)+1)=(k:Int)+1:=wi64_of (by omega) (by omega)
theorem d_false {p:Prop} [Decidable p] (h:¬ p):decide p=false:=decide_eq_false h
theorem d_true {p:Prop} [Decidable p] (h:p):decide p=true:=decide_eq_true h
end Go.Kz
namespace Go.Kz
def Ty.fits:(t:Ty)→t.den→Prop
 | .int k,n=>k.min≤n∧n≤k.max
 | .pair a b,(x,y)=>a.fits x∧b.fits y
 | .arr n t,l=>List.length l=n∧∀ x∈l,t.fits x
 | .sl _ t,l=>∀ x∈l,t.fits x
 | _,_=>True
theorem rep_fits {w:World} {g:Ghost}:{o:Own}→{t:Ty}→{d:t.den}→{cs:List Value}→Rep w g o t d cs→t.fits d
 | _,.int _,_,_,h=>h.2
 | _,.bool,_,_,_=>trivial
 | _,.str,_,_,_=>trivial
 | _,.unit,_,_,_=>trivial
 | _,.pair a b,(x,y),_,h=>by
  obtain ⟨c1,c2,rfl,h1,h2⟩:=h
  exact ⟨rep_fits h1,rep_fits h2⟩
 | _,.arr n t,l,_,h=>⟨h.1,fun x hx=>by
  obtain ⟨i,hi,rfl⟩:=List.mem_iff_getElem.1 hx
  exact rep_fits (h.2.2 i hi)⟩
 | _,.sl false t,l,_,h=>fun x hx=>by
  obtain ⟨a,cap,rfl,h1,h2,h3⟩:=h
  obtain ⟨b,off,c,e,fz,ha,ht,hb,hs,he⟩:=h3 (by intro h0;rw [h0] at hx;simp at hx)
  obtain ⟨i,hi,rfl⟩:=List.mem_iff_getElem.1 hx
  exact rep_fits (he i hi)
 | some (_,_),.sl true t,l,_,h=>fun x hx=>by
  obtain ⟨a,cap,rfl,h0,h1,h2,h3⟩:=h
  rcases h3 with ⟨_,rfl,_⟩ | ⟨b,off,c,e,ha,ht,hb,hs,he⟩
  ·simp at hx
  ·obtain ⟨i,hi,rfl⟩:=List.mem_iff_getElem.1 hx
   exact rep_fits (he i hi)
 | none,.sl true _,_,_,h=>h.elim
 | _,.ptr _,_,_,_=>trivial
 | _,.fn _ _,_,_,_=>trivial
theorem arg_fits {w:World} {g:Ghost} {t:Ty} {x:t.den} {v:Value} (h:t.isRo=true∧∃ cs,Rep w g none t x cs∧v=mkV t.sk.isAgg cs):t.fits x:=by
 obtain ⟨_,cs,h,_⟩:=h
 exact rep_fits h
end Go.Kz
