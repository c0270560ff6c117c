/-
  Functions: from the interpreter's equation to the contract.
-/
import Derived.Test.YtnjfafnflbackaaKzAH
import Derived.OpenShut
import Derived.ShutString
import Derived.ChangeOld
import Derived.Below
import Derived.Laws.Cover3
set_option linter.unusedVariables false
set_option linter.unusedSimpArgs false
namespace Go.Kz
variable {R:Type}
def zgf (x:Nat):List (Option Nat)->Nat->Option Nat
 | [],_=>none
 | some y :: l,i=>if y=x then some i else zgf x l (i+1)
 | none :: l,i=>zgf x l (i+1)
theorem zda {x:Nat}:{l:List (Option Nat)}->{k d:Nat}->(l.filterMap id).Nodup->z12 l d=some (some x)->zgf x l k=some (k+d)
 | [],_,d,_,h=>by cases d <;> simp [z12] at h
 | none :: l,k,d,hn,h=>by
  cases d with
  | zero=>simp [z12] at h
  | succ d=>
   simp only [zgf];rw [zda (l:=l) (by simpa using hn) h]
   congr 1;omega
 | some y :: l,k,0,_,h=>by
  simp only [z12,zI] at h
  simp [zgf,h]
 | some y :: l,k,d+1,hn,h=>by
  have hn':y∉l.filterMap id∧(l.filterMap id).Nodup:=by simpa using hn
  have hm:some x∈l:=z31 h;have hne:y≠x:=by
   intro he;subst he;exact hn'.1 (List.mem_filterMap.2 ⟨some y,hm,rfl⟩)
  simp only [zgf,if_neg hne];rw [zda (l:=l) hn'.2 h];congr 1;omega
def zb1 (g:Ghost) (mv:List (Option Nat)):Ghost where
 tag:=fun b=>match g.tag b with
  | .row i p=>(match zgf i mv 0 with
   | some j=>.row j p
   | none=>.alien)
  | .box _=>.alien
  | t=>t
 sv:=fun j p=>match z12 mv j with
  | some (some i)=>g.sv i p
  | _=>.slice none 0 0
 blk:=fun _=>0
theorem zwr {w:World} {g:Ghost} {mv:List (Option Nat)} (hn:(mv.filterMap id).Nodup):Laid w g mv (zb1 g mv) 0:=by
 refine ⟨⟨fun b hb=>⟨by simp [zb1,hb],rfl⟩⟩,fun j i hj=>?_,fun j hj=>by simp [zb1,hj]⟩;have hx:=zda (k:=0) hn hj;rw [Nat.zero_add] at hx ⊢;exact ⟨fun q=>by simp [zb1,hj],fun q b hb=>⟨by simp [zb1,hb,hx],rfl⟩⟩
theorem zl5 {w:World} {g:Ghost} {mv:List (Option Nat)}:Ext w g w (zb1 g mv):=by
 refine ⟨rfl,rfl,rfl,Nat.le_refl _,Nat.le_refl _,fun b _ ht=>⟨rfl,?_⟩⟩;rcases ht with ht | ht <;> simp [zb1,ht]
theorem zon:(t:Ty)->(d:t.den)->(n:Nat)->(z06 t d n).1.isAgg=t.sk.isAgg
 | .sl true t,l,n=>rfl
 | .sl false t,l,n=>rfl
 | .int _,_,_=>rfl
 | .bool,_,_=>rfl
 | .str,_,_=>rfl
 | .unit,_,_=>rfl
 | .arr _ _,_,_=>rfl
 | .ptr _,_,_=>rfl
 | .fn _ _,_,_=>rfl
 | .pair a b,(x,y),n=>by
  simp only [z06];cases (Ty.pair a b).isRo <;> rfl
theorem zqu {w:World} {G:Ghost} {t:Ty} {d:t.den} {base:Nat} {cs:List Value} {v:Value} {agg:Bool} (h:Exposed w G (z06 t d base) base cs) (hv:v=mkV agg cs) (ha:agg=t.sk.isAgg) (O:z2c) :
  VOK w G O (z06 t d base).1 v:=
 z19 (h.ok O) (by rw [zon,hv,ha]) (z6n t d base).1 (z6n t d base).2.1
section
variable {n:Nat} {w:World} {a:Act} {g:Ghost} {σ:St} {r:R}
def zli:List Ty->Bool
 | []=>true
 | t :: ts=>t.exOK && zli ts
def zkh (tmps:Array Value):ResultVar->Sem Value
 | .tmp t=>pure (tmps.getD t undef)
 | .cell a t=>do loadVar t (←asAddr (tmps.getD a undef))
theorem load_ok {x:AVal} {v:Value} {f:AVal->Option R} {r:R} (hh:HeapOK w g σ.objs) (ex:VOK w g σ.objs x v) (h:zc3 σ x f=some r) :
  ∃ lv b off cc e fz,v = .pointer (some ⟨b,off,none⟩)∧w.heap[b]? = some (.cells cc e fz)∧off+lv.sk.size≤cc.size∧AOK w g σ.objs lv (seg cc.toList off lv.sk.size)∧f lv=some r:=by
 unfold zc3 at h;split at h
 ·rename_i t' d;simp only [VOK] at ex;obtain ⟨cs,⟨hro,b,off,cc,e,fz,rfl,htag,hcell,hsz,hrep⟩,hv⟩:=ex;exact ⟨.data t' d,b,off,cc,e,fz,hv,hcell,by simpa [AVal.sk,Ty.sk_size] using hsz,⟨by simpa [Ty.isRo] using hro,by simpa [AVal.sk,Ty.sk_size] using hrep⟩,h⟩
 ·rename_i id p ep;split at h
  ·simp at h
  ·rename_i s q;obtain ⟨t0,l0,ho0⟩:=z80 h;simp only [VOK] at ex;obtain ⟨cs,⟨v,rfl,hone,hv⟩,hv'⟩:=ex;obtain ⟨hp,b0,off0,hpl,hvv⟩:=(hv _ _ _ ho0).2 rfl;obtain ⟨t1,l1,u1,e1,b,off,cc,ee,ho1,hro,hk,hu1,hpl2,hty,htag,hcell,hsz,hrep⟩:=z7z hh hp h;rw [ho0] at ho1;simp only [zI,Obj.row.injEq] at ho1;obtain ⟨rfl,_,_⟩:=ho1;rw [hpl] at hpl2;simp only [zI,Prod.mk.injEq] at hpl2;obtain ⟨rfl,rfl⟩:=hpl2;exact ⟨.data u1 e1,b0,off0,cc,ee,(0,0),by rw [hv'];exact hvv,hcell,by simpa [AVal.sk,Ty.sk_size] using hsz,⟨hu1,by simpa [AVal.sk,Ty.sk_size] using hrep⟩,hk⟩
 ·rename_i id p;obtain ⟨xc,y,off,cc,e,hobj,h2,hoff,hcell,htag,hle,hpart,hi⟩:=z9l hh h;simp only [VOK] at ex;obtain ⟨cs,⟨v,rfl,hone,hv⟩,hv'⟩:=ex;obtain ⟨off',s,hoff',hvv⟩:=hv _ hobj;rw [hoff] at hoff';simp only [zI,Prod.mk.injEq] at hoff';obtain ⟨rfl,_⟩:=hoff';exact ⟨y,g.blk id,off,cc,e,(0,0),by rw [hv'];exact hvv,hcell,hle,hpart,h2⟩
 ·rename_i id p ep;obtain ⟨t1,l1,e1,i1,hobj,hep,hrep,hk⟩:=zc0 hh h;simp only [VOK] at ex;obtain ⟨cs,⟨v,rfl,hone,hv⟩,hv'⟩:=ex;obtain ⟨hp,b0,off0,hpl,hvv⟩:=((hv _ _ _ _ _ hobj).2 hep).2 rfl
  cases p with
  | nil=>exact absurd rfl hp
  | cons s q=>
   obtain ⟨u1,x1,bh,oh,ch,eh,ph,hk,hpl2,hty,_,htag,hcell,hsz,hr⟩:=z8e hrep hk;rw [hpl] at hpl2;simp only [zI,Prod.mk.injEq] at hpl2;obtain ⟨rfl,rfl⟩:=hpl2
   cases hro:u1.isRo with
   | true=>
    rw [hro] at hk
    exact ⟨.data u1 x1,b0,off0,ch,eh,(0,0),by rw [hv'];exact hvv,hcell,by simpa [AVal.sk,Ty.sk_size] using hsz,⟨hro,by simpa [AVal.sk,Ty.sk_size] using Rep.anyOwn (o':=none) hro hr⟩,hk⟩
   | false=>
    rw [hro] at hk;simp only [cond_false] at hk;split at hk
    ·rename_i v1;obtain ⟨ad,cp,hcs,hsv,_⟩:=hr;refine ⟨.nv false id (s :: q) ep,b0,off0,ch,eh,(0,0),by rw [hv'];exact hvv,hcell,hsz,⟨_,hcs,rfl,fun t2 l2 e2 i2 h2 hobj'=>?_⟩,hk⟩;rw [hobj] at hobj';simp only [zI,Obj.nest.injEq] at hobj';obtain ⟨rfl,_,rfl,rfl,_⟩:=hobj';have hi1:i1=ep:=hep;exact ⟨Nat.le_of_eq hi1.symm,fun _=>⟨fun _=>hsv.symm,fun h=>(by simp at h)⟩⟩
    ·simp at hk
 ·simp at h
theorem rvK_ok {P:Program} {tt:Nat->Option Ty} (htt:zbd P tt) {s:ResultVar} {f:AVal->Option R} {r:R} (hst:StOK n g w a σ) {t:Ty}
  (h:rvK tt σ s (fun av=>cond (av.val && av.sk.same t.sk) (f av) none)=some r) :
  ∃ av v cs,f av=some r∧(zkh a.tmps s).run P w = .ok v w∧AOK w g σ.objs av cs∧v=mkV t.sk.isAgg cs:=by
 cases s with
 | tmp s=>
  simp only [rvK] at h;split at h
  ·rename_i av hs
   cases hb:(av.val && av.sk.same t.sk) with
   | false=>rw [hb] at h;simp at h
   | true=>
    rw [hb] at h;simp only [cond_true] at h;simp only [zA] at hb;obtain ⟨v,hv,hok⟩:=hst.slots s av hs;obtain ⟨hag,_,_,hn3⟩:=z2t hb.1;obtain ⟨cs,hcs,hmk⟩:=z4y hok hn3;have hvg:a.tmps.getD s undef=v:=by rw [Array.getD_eq_getD_getElem?,hv];rfl
    exact ⟨av,v,cs,h,by simp [zkh,hvg],hcs,by rw [hmk,hag,Sk.same_eq hb.2]⟩
  ·simp at h
 | cell s T=>
  simp only [rvK] at h;split at h
  ·rename_i x u hs hu;have hT:=htt _ _ hu;obtain ⟨v,hv,hok⟩:=hst.slots s x hs;obtain ⟨lv,b,off,cc,e,fz,hvp,hcell,hle,hok',h⟩:=load_ok hst.heap hok h
   cases hc:u.sk.same lv.sk with
   | false=>rw [hc] at h;simp at h
   | true=>
    rw [hc] at h;simp only [cond_true] at h
    cases hb:(lv.val && lv.sk.same t.sk) with
    | false=>rw [hb] at h;simp at h
    | true=>
     rw [hb] at h;simp only [cond_true] at h;simp only [zA] at hb;have hsk:=Sk.same_eq hc;have hsk2:=Sk.same_eq hb.2;have hsz:u.size=lv.sk.size:=by rw [←hsk,Ty.sk_size]
     have hrun:=zat (P:=P) (w:=w) hT hcell (by rw [hsz];exact hle);have hvg:a.tmps.getD s undef=v:=by rw [Array.getD_eq_getD_getElem?,hv];rfl
     refine ⟨lv,mkV u.sk.isAgg (seg cc.toList off u.size),_,h,?_,hok',?_⟩
     ·simp only [zkh,hvg,hvp,asAddr,Sem.run_bind,Sem.run_pure,Result.andThen_ok];exact hrun
     ·rw [hsz,hsk,hsk2]
  ·simp at h
theorem zq4 {P:Program} {tt:Nat->Option Ty} (htt:zbd P tt) {t:Ty} {s:ResultVar} {k:t.den->St->Option R} (hst:StOK n g w a σ) (ht:t.exOK=true) (h:rvK tt σ s (fun a=>cond (a.val && a.sk.same t.sk) (z2y 20 a t σ k) none)=some r) :
  ∃ d σ' g' mv v,k d σ'=some r∧(zkh a.tmps s).run P w = .ok v w∧StOK n g' w a σ'∧Shr g σ.objs g' σ'.objs mv∧(∀ m,(z06 t d m).2.length=mv.length)∧
   ∀ G base,Laid w g' mv G base->(∀ O,VOK w G O (z06 t d base).1 v)∧∀ O j o,z12 (z06 t d base).2 j=some o->z14 w G O (base+j) o:=by
 obtain ⟨av,v,cs,h,hrun,hcs,hmk⟩:=rvK_ok htt hst h;obtain ⟨d,σ',g',mv,hk,h1,h2,h3,hl,he,_⟩:=zeu 20 hst.heap hcs ht h;have hst':StOK n g' w a σ':=by
  refine ⟨fun i x hi=>?_,h3.heap hst.heap,hst.size,hst.defers,hst.known.kept (h3.ro w)⟩;rw [h1] at hi;obtain ⟨u,hu,hx⟩:=hst.slots i x hi;exact ⟨u,hu,VOK.frame (h3.ro w) (fun id _=>h3.kept (w:=w) id) hx⟩
 refine ⟨d,σ',g',mv,v,hk,hrun,hst',h3,hl,fun G base hL=>?_⟩;have hE:=he G base hL;exact ⟨fun O=>zqu hE hmk rfl O,hE.objs⟩
theorem zrp {tt:Nat->Option Ty} {t:Ty} {rs:List ResultVar} {k:z33 [t]->St->Option R} {r:R} (h:zrq tt σ [t] rs k=some r) :
  ∃ s,rs=[s]∧rvK tt σ s (fun a=>cond (a.val && a.sk.same t.sk) (z2y 20 a t σ k) none)=some r:=by
 match rs,h with
 | [s],h=>exact ⟨s,rfl,h⟩
 | [],h=>simp [zrq] at h
 | _ :: _ :: _,h=>simp [zrq] at h
theorem zvm {tt:Nat->Option Ty} {t u:Ty} {ts:List Ty} {rs:List ResultVar} {k:z33 (t :: u :: ts)->St->Option R} {r:R} (h:zrq tt σ (t :: u :: ts) rs k=some r) :
  ∃ s l,rs=s :: l∧rvK tt σ s (fun a=>cond (a.val && a.sk.same t.sk) (z2y 20 a t σ fun d σ=>zrq tt σ (u :: ts) l fun ds σ=>k (d,ds) σ) none)=some r:=by
 match rs,h with
 | s :: l,h=>exact ⟨s,l,rfl,h⟩
 | [],h=>simp [zrq] at h
def zyh (P:Program) (tmps:Array Value) (w:World):List ResultVar->List Value->Prop
 | [],[]=>True
 | s :: l,v :: vs=>(zkh tmps s).run P w = .ok v w∧zyh P tmps w l vs
 | _,_=>False
theorem zvl {P:Program} {tt:Nat->Option Ty} (htt:zbd P tt):(ts:List Ty)->(rs:List ResultVar)->{g:Ghost}->{σ:St}->{k:z33 ts->St->Option R}->{r:R}->ts≠[]->StOK n g w a σ->zli ts=true->zrq tt σ ts rs k=some r->
  ∃ (d:z33 ts) (σ':St) (g':Ghost) (mv:List (Option Nat)) (vs:List Value),k d σ'=some r∧zyh P a.tmps w rs vs∧vs.length=ts.length∧StOK n g' w a σ'∧Shr g σ.objs g' σ'.objs mv∧(∀ m,(z08.chain ts d m).2.length=mv.length)∧
   (∀ G base,Laid w g' mv G base->(∀ O,z1o w G O (z08.chain ts d base).1 vs)∧∀ O j o,z12 (z08.chain ts d base).2 j=some o->z14 w G O (base+j) o)
 | [],_,_,_,_,_,hne,_,_,_=>absurd rfl hne
 | [t],rs,g,σ,k,r,_,hst,ht,h=>by
  simp only [zli,Bool.and_true] at ht;obtain ⟨s,rfl,h⟩:=zrp h;obtain ⟨d,σ',g',mv,v,hk,hrun,hst',hsh,hl,he⟩:=zq4 htt hst ht h;refine ⟨d,σ',g',mv,[v],hk,⟨hrun,trivial⟩,rfl,hst',hsh,fun m=>by simp only [z08.chain];exact hl m,fun G base hL=>?_⟩;obtain ⟨h1,h2⟩:=he G base hL;simp only [z08.chain];refine ⟨fun O=>?_,h2⟩;simp only [z1o]
  exact ⟨_,_,rfl,h1 O,rfl⟩
 | t :: u :: ts,rs,g,σ,k,r,_,hst,ht,h=>by
  simp only [zli,zA] at ht;obtain ⟨s,l,rfl,h⟩:=zvm h;obtain ⟨d,σ1,g1,mv1,v,hk,hrun,hst1,hsh1,hl1,he1⟩:=zq4 htt hst ht.1 h;obtain ⟨ds,σ2,g2,mv2,vs,hk2,hss,hlen,hst2,hsh2,hl2,he2⟩:=zvl htt (u :: ts) l (by simp) hst1 (by simp only [zli,zA];exact ht.2) hk;refine ⟨(d,ds),σ2,g2,mv1++mv2,v :: vs,hk2,⟨hrun,hss⟩,by simp [hlen],hst2,hsh1.trans hsh2,fun m=>?_,fun G base hL=>?_⟩
  ·simp only [z08.chain,List.length_append,hl1,hl2]
  ·obtain ⟨h1,h2⟩:=he1 G base (hL.left hsh2 (fun i hi=>(hsh1.mv i hi).2));obtain ⟨h3,h4⟩:=he2 G (base+mv1.length) hL.right;simp only [z08.chain];rw [hl1 base];refine ⟨fun O=>?_,fun O j o hj=>?_⟩
   ·simp only [z1o];exact ⟨_,_,rfl,h1 O,h3 O⟩
   ·rw [z4d] at hj;split at hj
    ·exact h2 O j o hj
    ·rename_i hge;rw [hl1 base] at hj hge;have:=h4 O _ o hj;rw [show base+mv1.length+(j-mv1.length)=base+j from by omega] at this;exact this
theorem zrm {P:Program} {tmps:Array Value} {w:World}:(rs:List ResultVar)->(vs:List Value)->zyh P tmps w rs vs->(rs.mapM (zkh tmps)).run P w = .ok vs w
 | [],[],_=>by simp
 | s :: l,v :: vs,h=>by
  have ih:=zrm l vs h.2;rw [List.mapM_cons]
  simp only [Sem.run_bind,h.1,Result.andThen_ok,ih,Sem.run_pure]
 | [],_ :: _,h=>h.elim
 | _ :: _,[],h=>h.elim
def tupV:List Value->Value
 | [v]=>v
 | vs=>.tuple vs.toArray
theorem z87 {P:Program} {fn:Func} (tmps:Array Value) {w:World} {vs:List Value} (h:zyh P tmps w fn.results.toList vs):(results fn tmps).run P w = .ok (tupV vs) w:=by
 have e:results fn tmps=(do let vs ←fn.results.mapM (zkh tmps);pure (if h:vs.size=1 then vs[0] else .tuple vs):Sem Value):=by
  unfold results;refine congrArg (fun f=>(Array.mapM f fn.results >>= fun vs=>pure (if h:vs.size=1 then vs[0] else Value.tuple vs):Sem Value)) (funext fun x=>?_);cases x <;> rfl
 have h1:=zrm _ _ h;have h2:(fn.results.mapM (zkh tmps)).run P w = .ok vs.toArray w:=by
  rw [Array.mapM_eq_mapM_toList];rw [Sem.run_map,h1];rfl
 rw [e];simp only [Sem.run_bind,h2,Result.andThen_ok,Sem.run_pure]
 match vs with
 | []=>simp [tupV]
 | [v]=>simp [tupV]
 | _ :: _ :: _=>simp [tupV]
theorem zkj {O:List Obj} {mv:List (Option Nat)} {g':Ghost} (hh:∀ b,g'.tag b≠.alien->b < w.heap.size) (ho:∀ j o,z12 O j=some o->z14 w (zb1 g' mv) (z12 O) (0+j) o):HeapOK w (zb1 g' mv) (z12 O):=by
 refine ⟨fun j o hj=>by have:=ho j o hj;rw [Nat.zero_add] at this;exact this,fun b hb=>hh b (fun h=>hb (by simp [zb1,h]))⟩
theorem res_ok {P:Program} {tt:Nat->Option Ty} (htt:zbd P tt) {fn:Func} {ts:List Ty} {r:z33 ts} (hst:StOK n g w a σ) (ht:zli ts=true) (h:zrq tt σ ts fn.results.toList (fun r _=>some r)=some r) :
  ∃ v g',(results fn a.tmps).run P w = .ok v w∧Ext w g w g'∧zpj w g' (z08 ts r 0) v:=by
 match ts,r,ht,h with
 | [],r,_,h=>
  have hr:fn.results.toList=[]:=by
   generalize fn.results.toList=rs at h
   cases rs with
   | nil=>rfl
   | cons x l=>simp [zrq] at h
  refine ⟨.tuple #[],zb1 g [],z87 a.tmps (vs:=[]) (by rw [hr];trivial),zl5,zkj hst.heap.tags (fun j o hj=>by cases j <;> simp [z08,z12] at hj),?_⟩;simp only [z08,VOK]
  exact ⟨[],rfl,by simp [z1o]⟩
 | [t],r,ht,h=>
  simp only [zli,Bool.and_true] at ht;obtain ⟨s,hrs,h⟩:=zrp h;obtain ⟨d,σ',g',mv,v,hk,hrun,hst',hsh,hlm,he⟩:=zq4 htt hst ht h;simp only [zI] at hk;subst hk;obtain ⟨h1,h2⟩:=he (zb1 g' mv) 0 (zwr hsh.nodup)
  exact ⟨v,zb1 g' mv,z87 a.tmps (vs:=[v]) (by rw [hrs];exact ⟨hrun,trivial⟩),hsh.ext.trans zl5,zkj hst'.heap.tags (fun j o hj=>h2 _ j o hj),h1 _⟩
 | t :: u :: ts,r,ht,h=>
  obtain ⟨d,σ',g',mv,vs,hk,hss,hlen,hst',hsh,hlm,he⟩:=zvl htt (t :: u :: ts) _ (by simp) hst ht h;simp only [zI] at hk;subst hk;obtain ⟨h1,h2⟩:=he (zb1 g' mv) 0 (zwr hsh.nodup);have hrun:=z87 a.tmps hss;refine ⟨.tuple vs.toArray,zb1 g' mv,?_,hsh.ext.trans zl5,zkj hst'.heap.tags (fun j o hj=>?_),?_⟩
  ·match vs,hlen,hrun with
   | _ :: _ :: _,_,hrun=>exact hrun
  ·exact h2 _ j o (by simpa [z08,z08.chain] using hj)
  ·simp only [z08,VOK];exact ⟨_,rfl,by have:=h1 (z12 (z08 (t :: u :: ts) d 0).2);simpa [z08,z08.chain] using this⟩
end
theorem zhg {w:World} {g:Ghost} {objs:z2c}:(p:APat)->(d:p.den)->(i0:Nat)->{vals:List Value}->zhp w g p d vals->∀ i av,z2d p d i0 i=some av->i0≤i∧∃ v,vals[i-i0]? = some v∧VOK w g objs av v
 | .pr (.val t) q,(x,y),i0,v :: vs,h,i,av,hi=>by
  obtain ⟨hro,⟨cs,hr,hv⟩,hrest⟩:=h;simp only [z2d,upd] at hi
  cases hb:Nat.beq i i0 with
  | true=>
   rw [hb] at hi;simp only [cond_true,zI] at hi;subst hi;have:=zE hb;subst this
   exact ⟨Nat.le_refl _,v,by simp,cs,⟨hro,hr⟩,hv⟩
  | false=>
   rw [hb] at hi;obtain ⟨h1,u,h2,h3⟩:=zhg q y (i0+1) hrest i av hi;refine ⟨by omega,u,?_,h3⟩;have e:i-i0=(i-(i0+1))+1:=by omega
   rw [e];simpa using h2
 | .pr (.val t) q,(x,y),i0,[],h,i,av,hi=>h.elim
 | .un,_,_,_,_,_,_,hi=>by simp [z2d] at hi
 | .val _,_,_,_,_,_,_,hi=>by simp [z2d] at hi
 | .ref _,_,_,_,_,_,_,hi=>by simp [z2d] at hi
 | .bptr _,_,_,_,_,_,_,hi=>by simp [z2d] at hi
 | .clos _ _,_,_,_,_,_,_,hi=>by simp [z2d] at hi
 | .agg _,_,_,_,_,_,_,hi=>by simp [z2d] at hi
 | .pr (.ref _) _,_,_,_,_,_,_,hi=>by simp [z2d] at hi
 | .pr (.bptr _) _,_,_,_,_,_,_,hi=>by simp [z2d] at hi
 | .pr (.clos _ _) _,_,_,_,_,_,_,hi=>by simp [z2d] at hi
 | .pr (.agg _) _,_,_,_,_,_,_,hi=>by simp [z2d] at hi
 | .pr (.pr _ _) _,_,_,_,_,_,_,hi=>by simp [z2d] at hi
 | .pr .un _,_,_,_,_,_,_,hi=>by simp [z2d] at hi
def APat.len:APat->Nat
 | .pr _ q=>q.len+1
 | _=>0
theorem zio {w:World} {g:Ghost}:(p:APat)->(d:p.den)->{vals:List Value}->zhp w g p d vals->vals.length=p.len
 | .pr (.val t) q,(x,y),v :: vs,h=>by simp [APat.len,zio q y h.2.2]
 | .pr (.val t) q,(x,y),[],h=>h.elim
 | .un,_,[],_=>rfl
 | .un,_,_ :: _,h=>h.elim
 | .val _,_,_,h=>h.elim
 | .ref _,_,_,h=>h.elim
 | .bptr _,_,_,h=>h.elim
 | .clos _ _,_,_,h=>h.elim
 | .agg _,_,_,h=>h.elim
 | .pr (.ref _) _,_,_,h=>h.elim
 | .pr (.bptr _) _,_,_,h=>h.elim
 | .pr (.clos _ _) _,_,_,h=>h.elim
 | .pr (.agg _) _,_,_,h=>h.elim
 | .pr (.pr _ _) _,_,_,h=>h.elim
 | .pr .un _,_,_,h=>h.elim
theorem zt2 {w:World} {g:Ghost} {p:APat} {d:p.den} {vals:List Value} {n:Nat} (ht:∀ b,g.tag b≠.alien->g.tag b = .ro∧b < w.heap.size) (hkn:zpl w g) (h:zhp w g p d vals) (hn:p.len≤n) :
  StOK n g w { tmps:=vals.toArray++Array.replicate (n-vals.toArray.size) undef,defers:=[] } (entry p d)∧z18 g (entry p d):=by
 have hl:=zio p d h;refine ⟨⟨fun i av hi=>?_,⟨fun id o ho=>by simp [entry] at ho,fun b hb=>(ht b hb).2⟩,by simp [hl];omega,rfl,hkn⟩,fun m _=>⟨rfl,fun b p hb=>?_,fun b hb=>?_,fun i av hi=>?_,fun id av ho=>by simp [entry] at ho⟩⟩
 ·obtain ⟨_,v,h1,h2⟩:=zhg (objs:=(entry p d).objs) p d 0 h i av hi;rw [Nat.sub_zero] at h1;refine ⟨v,?_,h2⟩;have hlt:=(List.getElem?_eq_some_iff.1 h1).1;rw [Array.getElem?_append_left (by simpa using hlt)];simpa using h1
 ·have:=(ht b (by rw [hb];simp)).1;rw [hb] at this;simp at this
 ·have:=(ht b (by rw [hb];simp)).1;rw [hb] at this;simp at this
 ·have key:∀ (p:APat) (d:p.den) (i0:Nat) (i:Nat) (av:AVal),z2d p d i0 i=some av->av.ids=[]:=by
   intro p
   induction p with
   | pr a q iha ihq=>
    cases a with
    | val t=>
     intro d i0 i av hi;obtain ⟨x,y⟩:=d;simp only [z2d,upd] at hi
     cases hb:Nat.beq i i0 with
     | true=>rw [hb] at hi;simp only [cond_true,zI] at hi;subst hi;rfl
     | false=>rw [hb] at hi;exact ihq y _ i av hi
    | _=>intro d i0 i av hi;simp [z2d] at hi
   | _=>intro d i0 i av hi;simp [z2d] at hi
  rw [key p d 0 i av hi];simp
theorem z23 {P : Program} {f : Nat} {fn : Func} {body : Code} {c : Ctx} {p : APat} {ts : List Ty} {F : p.den -> Option (z33 ts)} (hf : P.funcs[f]? = some fn) (hb : fn.body = some body) (hnm : (fn.name == "runtime.NumGoroutine") = false)
  (hc:CtxOK P c) (hm:P.follows .mixedOrders=true) (hn:c.ntmps=fn.ntmps) (hp:p.len≤fn.ntmps) (ht:zli ts=true) (hl:ts.length≤6)
  (hlo:∀ b∈z00 body,z0r c b) (heq:∀ d,z1y c ts fn.results.toList body (entry p d)=F d):z03 P f (.pure p ts F):=by
 intro w g d vals r htag hkn hargs hF;left;refine ⟨?_,?_⟩
 ·have hnm' : ¬ fn.name = "runtime.NumGoroutine" := by simpa using hnm
  simp [callFunc,hf,hb,hnm']
 rw [←heq] at hF;obtain ⟨hst,hfr⟩:=zt2 htag hkn hargs hp;rw [←hn] at hst;refine calls_of_wp hf hb ?_;rw [←hn];refine z5g hc hm body hlo (Q:=bodyPost P fn _) (fun ch a w h=>?_) hF hst hfr ?_
 ·obtain ⟨_,v,h,_⟩:=h;cases h
 ·intro e σ' g' a' w' hk hst' hext' hf' _;have fin:∀ {σ':St},norm c.res σ' (fun σ=>zrq c.tt σ ts fn.results.toList fun r _=>some r)=some r->StOK c.ntmps g' w' a' σ'->z18 g' σ'->
    ∃ v,(results fn a'.tmps).run P w' = .ok v w'∧∃ g',Ext w g w' g'∧zpj w' g' (z08 ts r 0) v:=by
   intro σ' hk hst' hf';obtain ⟨σ1,g1,h1,hst1,hext1,_⟩:=zd4 hst' hf' hk;obtain ⟨v,g2,hr,hext2,hres⟩:=res_ok (P:=P) hc.tt hst1 ht h1;exact ⟨v,hr,g2,(hext'.trans hext1).trans hext2,hres⟩
  cases e with
  | exit id=>simp at hk
  | normal=>
   obtain ⟨v,h1,h2⟩:=fin hk hst' hf'
   exact ⟨hst'.defers,v,h1,v,rfl,h2⟩
  | ret=>
   obtain ⟨v,h1,h2⟩:=fin hk hst' hf';exact ⟨hst'.defers,v,h1,v,rfl,h2⟩
end Go.Kz
namespace Go.Kz
variable {R:Type}
def keysL:List (Nat×SPat)->List Nat
 | []=>[]
 | (i,_) :: l=>i :: keysL l
theorem z9w:(l:List (Nat×SPat))->(d:zcw l)->(z84 l d).map Prod.fst=keysL l
 | [],_=>rfl
 | (i,p) :: l,d=>by simp only [z84,List.map_cons,keysL,z9w l]
theorem zsk {α:Type}:{l:List (Nat×α)}->{i:Nat}->{x:α}->(l.map Prod.fst).Nodup->(i,x)∈l->z1v l i=some x
 | [],_,_,_,h=>by simp at h
 | (j,y) :: l,i,x,hn,h=>by
  simp only [List.map_cons,List.nodup_cons] at hn;simp only [z1v];rcases List.mem_cons.1 h with h | h
  ·simp only [Prod.mk.injEq] at h;rw [←h.1,Nat.beq_refl,←h.2];rfl
  ·have hne:Nat.beq j i=false:=by
    cases hb:Nat.beq j i with
    | false=>rfl
    | true=>
     exfalso;apply hn.1;rw [zE hb];exact List.mem_map.2 ⟨_,h,rfl⟩
   rw [hne];exact zsk hn.2 h
theorem zh5 {α β:Type} (f:α->β):(n:Nat)->(l:List α)->(z81 n l).map f=z81 n (l.map f)
 | 0,_=>rfl
 | _+1,[]=>rfl
 | n+1,_ :: l=>by simp only [z81,List.map_cons,zh5 f n l]
theorem zoq {α:Type}:(n:Nat)->(l:List α)->∀ x∈z81 n l,x∈l
 | 0,_,x,h=>h
 | _+1,[],x,h=>h
 | n+1,a :: l,x,h=>List.mem_cons_of_mem _ (zoq n l x h)
theorem zor {α:Type}:(l m:List α)->z81 l.length (l++m)=m
 | [],m=>rfl
 | a :: l,m=>zor l m
theorem zt9 {w:World} {g:Ghost} {O:z2c} {tmps:Array Value}:(l:List (Nat×AVal))->(∀ x∈l,VOK w g O x.2 (tmps.getD x.1 undef))->
  z1o w g O (z3p (l.map Prod.snd)) (l.map fun x=>tmps.getD x.1 undef)
 | [],_=>by simp [z3p,z1o]
 | x :: l,h=>by
  simp only [List.map_cons,z3p,z1o];exact ⟨_,_,rfl,h x (by simp),zt9 l fun y hy=>h y (by simp [hy])⟩
theorem res_vs {w:World} {g:Ghost} {O:z2c} {tmps:Array Value} (l:List (Nat×AVal)) (h:∀ x∈l,VOK w g O x.2 (tmps.getD x.1 undef)) :
  VOK w g O (z6g (l.map Prod.snd)) (tupV (l.map fun x=>tmps.getD x.1 undef)):=by
 have hc:=zt9 l h
 match l,h,hc with
 | [],_,hc=>simp only [List.map_nil,z6g,tupV,VOK];exact ⟨_,rfl,hc⟩
 | [x],h,_=>exact h x (by simp)
 | x :: y :: l,_,hc=>
  show VOK w g O (.tup (z3p ((x :: y :: l).map Prod.snd))) (.tuple ((x :: y :: l).map fun x=>tmps.getD x.1 undef).toArray);simp only [VOK];exact ⟨_,rfl,hc⟩
theorem ziq {P:Program} {tmps:Array Value} {w:World}:(rs:List Nat)->zyh P tmps w (rs.map ResultVar.tmp) (rs.map fun t=>tmps.getD t undef)
 | []=>trivial
 | t :: rs=>by
  simp only [List.map_cons];refine ⟨?_,ziq rs⟩;simp [zkh]
def anchB (n:Nat) (b:Code):List Nat->Bool
 | []=>true
 | i :: l=>Nat.blt i n && !zbe i b && anchB n b l
theorem z3q {n:Nat} {b:Code}:{l:List Nat}->anchB n b l=true->∀ i∈l,i < n∧zbe i b=false
 | [],_,i,h=>by simp at h
 | j :: l,hb,i,h=>by
  simp only [anchB,zA,Bool.not_eq_true'] at hb;rcases List.mem_cons.1 h with rfl | h
  ·exact ⟨zL hb.1.1,hb.1.2⟩
  ·exact z3q hb.2 i h
theorem z35 {P : Program} {f : Nat} {fn : Func} {body : Code} {c : Ctx} {fin fout : SForm} {anch rs : List Nat} {F : fin.den -> Option fout.den} (hf : P.funcs[f]? = some fn) (hb : fn.body = some body) (hnm : (fn.name == "runtime.NumGoroutine") = false)
  (hc:CtxOK P c) (hm:P.follows .mixedOrders=true) (hn:c.ntmps=fn.ntmps) (hp:fin.slots.length≤fn.ntmps) (hk:keysL fout.slots=anch++rs) (hnd:ziy (anch++rs)=true) (hrs:fn.results.toList=rs.map ResultVar.tmp)
  (hun:∀ i∈anch,i < fin.slots.length∧zbe i body=false)
  (hlo:∀ b∈z00 body,z0r c b) (heq:∀ d:fin.den,zch c fout body (St.of (z84 fin.slots d.1) (z96 fin.objs d.2))=F d):z03 P f (.mut fin anch fout F):=by
 intro w g d vals r hvl hst hfresh hF;left;refine ⟨?_,?_⟩
 ·have hnm' : ¬ fn.name = "runtime.NumGoroutine" := by simpa using hnm
  simp [callFunc,hf,hb,hnm']
 rw [←heq] at hF;refine calls_of_wp hf hb ?_;have hst0:StOK c.ntmps g w { tmps:=vals.toArray++Array.replicate (fn.ntmps-vals.toArray.size) undef,defers:=[] } (St.of (z84 fin.slots d.1) (z96 fin.objs d.2)):=by
  refine ⟨fun i av hi=>?_,hst.heap,by simp;omega,rfl,hst.known⟩;obtain ⟨v,h1,h2⟩:=hst.slots i av hi;refine ⟨v,?_,h2⟩;have hlt:i < vals.toArray.size:=(Array.getElem?_eq_some_iff.1 h1).1;rw [Array.getElem?_append_left hlt];exact h1
 have hfr:z18 g (St.of (z84 fin.slots d.1) (z96 fin.objs d.2)):=by
  intro m hm;refine hfresh m ?_;have:(z96 fin.objs d.2).length≤m:=hm
  rwa [zen] at this
 refine z5g hc hm body hlo (Q:=bodyPost P fn _) (fun ch a w h=>?_) hF hst0 hfr ?_
 ·obtain ⟨_,v,h,_⟩:=h;cases h
 ·intro e σ' g' a' w' hk2 hst' hext' hf' hkp;have fin:∀ {σ':St},znc c.res σ' (fun sl os=>fout.take sl os some)=some r->StOK c.ntmps g' w' a' σ'->z18 g' σ'->
    ∃ v,(results fn a'.tmps).run P w' = .ok v w'∧∃ g',Ext w g w' g'∧HeapOK w' g' (z12 (z96 fout.objs r.2))∧
    (∀ k i av,z12 anch k=some i->z12 ((z84 fout.slots r.1).map Prod.snd) k=some av->∃ u,vals[i]? = some u∧VOK w' g' (z12 (z96 fout.objs r.2)) av u)∧
    VOK w' g' (z12 (z96 fout.objs r.2)) (z6g (z81 anch.length ((z84 fout.slots r.1).map Prod.snd))) v:=by
   intro σ' hk2 hst' hf';obtain ⟨sl,os,g1,h1,hst1,hext1,_⟩:=zer hst' hf' hk2;obtain ⟨r1,h2,h3⟩:=zaq fout.slots h1;obtain ⟨r2,h4,h5⟩:=z89 fout.objs h3;simp only [zI] at h5;subst h5;subst h2;subst h4;have hkn:((z84 fout.slots r1).map Prod.fst).Nodup:=by rw [z9w,hk];exact zft hnd
   have hv:∀ x∈z84 fout.slots r1,∃ v,a'.tmps[x.1]? = some v∧VOK w' g1 (z12 (z96 fout.objs r2)) x.2 v:=fun x hx=>hst1.slots x.1 x.2 (zsk hkn hx)
   have hvd:∀ x∈z84 fout.slots r1,VOK w' g1 (z12 (z96 fout.objs r2)) x.2 (a'.tmps.getD x.1 undef):=by
    intro x hx;obtain ⟨v,q1,q2⟩:=hv x hx;have:a'.tmps.getD x.1 undef=v:=by rw [Array.getD_eq_getD_getElem?,q1];rfl
    rw [this];exact q2
   have hdrop:(z81 anch.length (z84 fout.slots r1)).map Prod.fst=rs:=by
    rw [zh5,z9w,hk,zor]
   refine ⟨tupV (rs.map fun t=>a'.tmps.getD t undef),z87 a'.tmps (by rw [hrs];exact ziq rs),g1,hext'.trans hext1,hst1.heap,fun k i av hki hkv=>?_,?_⟩
   ·have hkey:(z84 fout.slots r1)[k]? = some (i,av):=by
     rw [z8c,List.getElem?_map,Option.map_eq_some_iff] at hkv;obtain ⟨x,hx,rfl⟩:=hkv;have h6:((z84 fout.slots r1).map Prod.fst)[k]? = some x.1:=by rw [List.getElem?_map,hx];rfl
     have hlt:k < anch.length:=z4o hki;rw [z9w,hk,List.getElem?_append_left hlt,←z8c,hki] at h6;simp only [zI] at h6;rw [hx,h6]
    obtain ⟨v,q1,q2⟩:=hv _ (List.mem_of_getElem? hkey);obtain ⟨hlt,hno⟩:=hun i (z31 hki);refine ⟨v,?_,q2⟩;have h7:=hkp i hno;rw [q1] at h7;have hlt2:i < vals.toArray.size:=by simp [hvl];exact hlt
    rw [Array.getElem?_append_left hlt2] at h7;simpa using h7.symm
   ·rw [←zh5];have:=res_vs (z81 anch.length (z84 fout.slots r1)) (fun x hx=>hvd x (zoq _ _ x hx));have e:(z81 anch.length (z84 fout.slots r1)).map (fun x=>a'.tmps.getD x.1 undef)=rs.map fun t=>a'.tmps.getD t undef:=by
     rw [←hdrop,List.map_map];rfl
    rw [e] at this;exact this
  cases e with
  | exit id=>simp at hk2
  | normal=>
   obtain ⟨v,h1,h2⟩:=fin hk2 hst' hf'
   exact ⟨hst'.defers,v,h1,v,rfl,h2⟩
  | ret=>
   obtain ⟨v,h1,h2⟩:=fin hk2 hst' hf';exact ⟨hst'.defers,v,h1,v,rfl,h2⟩
end Go.Kz
namespace Go.Kz
variable {R:Type}
def iter {α:Type} (Body:(α->Option R)->α->Option R):Nat->α->Option R
 | 0,_=>none
 | n+1,x=>Body (iter Body n) x
def z1q (c:Ctx) (r:Nat) (lv:Cut) (kb:List (Nat×AVal)->List Obj->Option R) (k:AExit->St->Option R):AExit->St->Option R
 | .normal,σ=>znc lv σ kb
 | e,σ=>zg9 c r k e σ
theorem z0g {c:Ctx} {b:Code} {r:Nat} {lv:Cut} {α:Type} {st:α->List (Nat×AVal)×List Obj} {k:AExit->St->Option R} {Body:(α->Option R)->α->Option R}
  (hstep:∀ (kb:List (Nat×AVal)->List Obj->Option R) (x:α),z0z c b (St.of (st x).1 (st x).2) (z1q c r lv kb k)=Body (fun y=>kb (st y).1 (st y).2) x) :
  ∀ (n:Nat) (x:α),zg3 (z0z c b) lv n (st x).1 (st x).2 (zg9 c r k)=iter Body n x
 | 0,x=>rfl
 | n+1,x=>by
  have e:(fun e σ=>match e with
    | .normal=>znc lv σ fun sl os=>zg3 (z0z c b) lv n sl os (zg9 c r k)
    | e=>zg9 c r k e σ)=z1q c r lv (fun sl os=>zg3 (z0z c b) lv n sl os (zg9 c r k)) k:=by
   funext e σ;cases e <;> rfl
  have h:=hstep (fun sl os=>zg3 (z0z c b) lv n sl os (zg9 c r k)) x;simp only [zg3,iter];refine (congrArg (z0z c b (St.of (st x).1 (st x).2)) e).trans (h.trans ?_);congr 1;funext y;exact z0g hstep n y
theorem z0i {c:Ctx} {b:Code} {r:Nat} {lv:Cut} {f:SForm} (F:(R:Type)->f.den->(AExit->St->Option R)->Option R) (hr:z2n b=some r) (hlv:c.cut r=some lv)
  (hL:c.lp r=some fun R sl os k=>f.take sl os fun d=>F R d k)
  (h:∀ (R:Type) (k:AExit->St->Option R) (d:f.den),zg3 (z0z c b) lv c.fuel (z84 f.slots d.1) (z96 f.objs d.2) (zg9 c r k)=F R d k):z0r c b:=by
 intro r' lv' L hr' hlv' hL' R sl os k x hx;rw [hr] at hr';simp only [zI] at hr';subst hr';rw [hlv] at hlv';simp only [zI] at hlv';subst hlv';rw [hL] at hL';simp only [zI] at hL';subst hL';replace hx:=zaq f.slots hx;obtain ⟨d,rfl,hx⟩:=hx;replace hx:=z89 f.objs hx;obtain ⟨e,rfl,hx⟩:=hx;rw [h R k (d,e)];exact hx
theorem z0e {P:Program}:zpm P fun f=>((z1v ([]:List (Nat×List Callee)) f).getD []):=by
 intro f c h;simp [z1v] at h
theorem z02 {P:Program} {f:Nat} {cs:List Callee} {l:List (Nat×List Callee)} (h:∀ c∈cs,z03 P f c) (hl:zpm P fun f=>(z1v l f).getD []):zpm P fun g=>(z1v ((f,cs) :: l) g).getD []:=by
 intro g c hc;simp only [z1v] at hc
 cases hb:Nat.beq f g with
 | true=>
  rw [hb] at hc;have:=zE hb;subst this
  exact h c hc
 | false=>rw [hb] at hc;exact hl g c hc
def keyB (P:Program) (kt:Ty) (K:TypeId):Bool:=tyB P kt K && (z38 kt || eqsB P [K])
theorem keyB_ok {P:Program} {kt:Ty} {K:TypeId} (h:keyB P kt K=true):KeyOK P kt K:=by
 simp only [keyB,zA,Bool.or_eq_true] at h;refine ⟨zic h.1,fun hk=>?_⟩;rcases h.2 with h2 | h2
 ·rw [hk] at h2;simp at h2
 ·obtain ⟨h3,_,h4⟩:=zqv h2 K (by simp [z2q]);exact ⟨h3,h4⟩
def mtB (P:Program):List (Nat×Ty×Ty)->Bool
 | []=>true
 | (T,kt,vt) :: l=>(match P.underlying T with
  | some (.map K E)=>keyB P kt K && tyB P vt E && (match P.info? E with
   | some i=>(match i.zero with
    | some z=>(match vt.sk.isAgg,z with
     | true,.agg _=>true
     | false,.int _ _=>true
     | false,.bool _=>true
     | false,.string _=>true
     | _,_=>false)
    | none=>false)
   | none=>false)
  | _=>false) && mtB P l
theorem mtB_ok {P:Program}:{l:List (Nat×Ty×Ty)}->mtB P l=true->MtOK P (z1v l)
 | [],_,_,_,_,h=>by simp [z1v] at h
 | (T,kt,vt) :: l,hb,T',kt',vt',h=>by
  simp only [mtB,zA] at hb;simp only [z1v] at h
  cases he:Nat.beq T T' with
  | false=>rw [he] at h;exact mtB_ok hb.2 T' kt' vt' h
  | true=>
   rw [he] at h;simp only [cond_true,zI,Prod.mk.injEq] at h;obtain ⟨rfl,rfl⟩:=h;obtain rfl:=zE he;have h1:=hb.1;split at h1
   ·rename_i K E hu;simp only [zA] at h1;refine ⟨K,E,hu,keyB_ok h1.1.1,zic h1.1.2,?_⟩;have h2:=h1.2;split at h2
    ·rename_i i hi;split at h2
     ·rename_i z hz;refine ⟨i,z,hi,hz,?_⟩;split at h2
      ·rename_i hag;rw [hag];simp [mkV,Value.cells]
      ·rename_i hag;rw [hag];simp [mkV,Value.cells]
      ·rename_i hag;rw [hag];simp [mkV,Value.cells]
      ·rename_i hag;rw [hag];simp [mkV,Value.cells]
      ·simp at h2
     ·simp at h2
    ·simp at h2
   ·simp at h1
@[reducible] def wi8 (n:Int):Int:=IntKind.i8.wrap n
@[reducible] def wi16 (n:Int):Int:=IntKind.i16.wrap n
@[reducible] def wi32 (n:Int):Int:=IntKind.i32.wrap n
@[reducible] def z0l (n:Int):Int:=IntKind.i64.wrap n
@[reducible] def wu8 (n:Int):Int:=IntKind.u8.wrap n
@[reducible] def wu16 (n:Int):Int:=IntKind.u16.wrap n
@[reducible] def wu32 (n:Int):Int:=IntKind.u32.wrap n
@[reducible] def zpn (n:Int):Int:=IntKind.u64.wrap n
@[reducible] def len {α:Type} (l:List α):Int:=(l.length:Int)
theorem z01 {p:Callee->Prop} {a:Callee} (h:p a):∀ c∈[a],p c:=by
 intro c hc;simp only [List.mem_singleton] at hc;subst hc;exact h
inductive AllL (p:Code->Prop):List Code->Prop
 | nil:AllL p []
 | cons {b:Code} {l:List Code} (h:p b) (t:AllL p l):AllL p (b :: l)
theorem AllL.mem {p:Code->Prop} {l:List Code} (h:AllL p l):∀ b∈l,p b:=by
 induction h with
 | nil=>intro b hb;simp at hb
 | cons h t ih=>
  intro b hb;rcases List.mem_cons.1 hb with rfl | hb
  ·exact h
  ·exact ih b hb
theorem z0b {c:Ctx} {b:Code} {l:List Code} (h:z00 b=l) (hs:AllL (z0r c) l):∀ b'∈z00 b,z0r c b':=by
 rw [h];exact hs.mem
end Go.Kz
namespace Go.Kz
def z8t (w:World):Ghost:=⟨fun b=>if b < w.heap.size then .ro else .alien,fun _ _=>undef,fun _=>0⟩
theorem zi8 {w:World} {b:Nat} (h:b < w.heap.size):(z8t w).tag b = .ro:=by simp [z8t,h]
theorem zb9 {α:Type} {p:Nat->α->Prop}:(n:Nat)->(∀ i,i < n->∃ x,p i x)->∃ l:List α,l.length=n∧∀ (i:Nat) (h:i < l.length),p i (l.get ⟨i,h⟩)
 | 0,_=>⟨[],rfl,fun i h=>by simp at h⟩
 | n+1,h=>by
  obtain ⟨x,hx⟩:=h 0 (by omega);obtain ⟨l,hl,hp⟩:=zb9 (p:=fun i=>p (i+1)) n (fun i hi=>h (i+1) (by omega));refine ⟨x :: l,by simp [hl],fun i hi=>?_⟩
  cases i with
  | zero=>exact hx
  | succ i=>exact hp i (by simpa using hi)
theorem InfoOK.cellsOf {P:Program} {T:TypeId} {t:Ty} (h:InfoOK P T t):P.cellsOf T=t.size∧0 < t.size:=by
 obtain ⟨i,z,h1,h2,_,_,_,h3⟩:=h.info;simp [Program.cellsOf,h1,h2];omega
def Ty.plain:Ty->Bool
 | .int _ | .bool | .str | .unit=>true
 | .pair a b=>a.plain && b.plain
 | .arr _ t=>t.plain
 | .sl false t=>t.plain
 | _=>false
theorem Ty.plain_ro:{t:Ty}->t.plain=true->t.isRo=true
 | .int _,_=>rfl
 | .bool,_=>rfl
 | .str,_=>rfl
 | .unit,_=>rfl
 | .pair a b,h=>by simp only [Ty.plain,zA] at h;simp [Ty.isRo,Ty.plain_ro h.1,Ty.plain_ro h.2]
 | .arr _ t,h=>by simp only [Ty.plain] at h;simp only [Ty.isRo];exact Ty.plain_ro h
 | .sl false t,h=>by simp only [Ty.plain] at h;simp only [Ty.isRo];simpa using Ty.plain_ro h
 | .sl true _,h=>by simp [Ty.plain] at h
 | .ptr _,h=>by simp [Ty.plain] at h
 | .fn _ _,h=>by simp [Ty.plain] at h
section
variable {H:Type} {enc:TypeId×Value->H} {P:Program} {w:World} {base:Nat} {spare:Nat->Bool} {held:Bool}
theorem zr0 {b off n:Nat} {cs:List Value} {c:Array Value} {e:TypeId} {fz:Nat×Nat} (hl:cs.length=n) (hc:∀ j,j < n->w.cell? ⟨b,off+j,none⟩=cs[j]?) (hb:w.heap[b]? = some (.cells c e fz)) (hn:0 < n) :
  off+n≤c.size∧seg c.toList off n=cs:=by
 have hcell:∀ j,j < n->c[off+j]? = cs[j]? := fun j hj=>by
  have:=hc j hj;simpa [World.cell?,hb] using this
 have hle:off+n≤c.size:=by
  have h1:=hcell (n-1) (by omega);have h2:cs[n-1]?≠none:=by simp;omega
  rw [←h1] at h2;simp at h2;omega
 refine ⟨hle,?_⟩;apply List.ext_getElem?;intro j;by_cases hj:j < n
 ·rw [←hcell j hj];simp [seg,List.getElem?_take,hj]
 ·rw [List.getElem?_eq_none (by rw [z20 (by simpa using hle)];omega),List.getElem?_eq_none (by rw [hl];omega)]
mutual
theorem zeo:(t:Ty)->{T:TypeId}->{fuel:Nat}->{cs:List Value}->{x:DataW H×List MemPlace}->t.plain=true->z2j P t T->DataW.trod enc P w base spare held fuel T cs=some x->∃ d,Rep w (z8t w) none t d cs
 | .int k,T,fuel,cs,x,_,hT,h=>by
  simp only [z2j] at hT;obtain ⟨m,rfl,_,hw⟩:=DataW.trod_int hT.1 h;simp only [Lit.wf,zA,decide_eq_true_eq] at hw
  exact ⟨m,rfl,hw.1,hw.2⟩
 | .bool,T,fuel,cs,x,_,hT,h=>by
  simp only [z2j] at hT;obtain ⟨b,rfl,_⟩:=DataW.trod_bool hT.1 h
  exact ⟨b,rfl⟩
 | .str,T,fuel,cs,x,_,hT,h=>by
  simp only [z2j] at hT;obtain ⟨s,rfl,_,hs⟩:=DataW.trod_string hT.1 h
  exact ⟨s.data.toList,s,rfl,rfl,hs⟩
 | .unit,T,fuel,cs,x,_,hT,h=>by simp only [z2j] at hT
 | .pair a b,T,fuel,cs,x,hp,hT,h=>by
  simp only [z2j] at hT;obtain ⟨⟨fs,hu,hfs⟩,hinf⟩:=hT;obtain ⟨xs,n,_,_,hl,hlen,hf⟩:=DataW.trod_struct hu h;obtain ⟨hcz,_⟩:=hinf.cellsOf;rw [hcz] at hl;obtain ⟨d,hd⟩:=zfq (.pair a b) (off:=0) (cs:=cs) (n:=n) hp hfs (by rw [hl];simp) (fun i f hi=>by
   have hi':fs[i]? = some f:=by rw [←Array.getElem?_toList];exact hi
   have:=hf i f hi';have hlt:i < xs.length:=by rw [hlen];exact (Array.getElem?_eq_some_iff.1 hi').1
   exact ⟨xs[i],by rw [this];simp [hlt]⟩)
  refine ⟨d,?_⟩;have:seg cs 0 (Ty.pair a b).size=cs:=by rw [←hl];exact z6b cs
  rw [this] at hd
  exact hd
 | .arr n t,T,fuel,cs,x,hp,hT,h=>by
  simp only [z2j] at hT;obtain ⟨⟨E,hu,hE⟩,hinf⟩:=hT;obtain ⟨hcz,_⟩:=hinf.cellsOf;obtain ⟨hez,_⟩:=hE.info.cellsOf;obtain ⟨xs,m,_,_,hl,hlen,hx⟩:=DataW.trod_array hu h;rw [hcz] at hl;rw [hez] at hx;have each:∀ i,i < n->∃ d,Rep w (z8t w) none t d (seg cs (i*t.size) t.size):=fun i hi=>by
   have h1:=hx i hi;have h2:xs[i]? = some xs[i]:=by simp [hlen,hi]
   rw [h2] at h1;exact zeo t (by simpa [Ty.plain] using hp) hE h1
  obtain ⟨l,hll,hel⟩:=zb9 n each
  exact ⟨l,hll,hl,fun i hi=>Rep.anyOwn (Ty.plain_ro (by simpa [Ty.plain] using hp)) (hel i hi)⟩
 | .sl false t,T,fuel,cs,x,hp,hT,h=>by
  simp only [z2j] at hT;obtain ⟨⟨E,hu,hE⟩,_⟩:=hT;obtain ⟨hez,hpos⟩:=hE.info.cellsOf;rcases DataW.trod_slice hu h with ⟨rfl,_⟩ | ⟨a,len,cap,elems,rest,n,_,rfl,_,hb,hlc,hcm,hlen,hel,_⟩
  ·exact ⟨([]:List t.den),none,0,rfl,Nat.le_refl _,Nat.zero_le _,fun hn=>absurd rfl hn⟩
  ·rw [hez] at hel;have each:∀ i,i < len->∃ d,(∃ cs',w.cells? base (a.add (i*t.size)) t.size=some cs'∧Rep w (z8t w) none t d cs'):=fun i hi=>by
    have h1:=hel i hi;have h2:elems[i]? = some elems[i]:=by simp [hlen,hi]
    rw [h2,Option.bind_eq_some_iff] at h1;obtain ⟨cs',hc,hy⟩:=h1;obtain ⟨d,hd⟩:=zeo t (by simpa [Ty.plain] using hp) hE hy;exact ⟨d,cs',hc,hd⟩
   obtain ⟨l,hll,hl⟩:=zb9 len each;refine ⟨l,some a,cap,by rw [hll],by rw [hll];exact hlc,hcm,fun hne=>?_⟩;have hlp:0 < len:=by rw [←hll];exact List.length_pos_iff.2 hne
   obtain ⟨cs0,hc0,_⟩:=hl 0 (by rw [hll];exact hlp);obtain ⟨_,hl0,hcell0⟩:=World.cells?_some hc0;have hz:=hcell0 0 hpos;simp only [Nat.zero_mul] at hz;have ha0:(a.add 0).add 0=a:=by simp [Addr.add]
   rw [ha0] at hz;have hne0:cs0[0]?≠none:=by
    rw [List.getElem?_eq_getElem (by rw [hl0];exact hpos)];simp
   rw [←hz] at hne0;obtain ⟨b,off,spot⟩:=a;have hsp:spot=none∧∃ c e fz,w.heap[b]? = some (.cells c e fz):=by
    simp only [World.cell?] at hne0;split at hne0
    ·rename_i c e fz hblk;refine ⟨?_,c,e,fz,hblk⟩
     cases spot with
     | none=>rfl
     | some s=>simp at hne0
    ·simp at hne0
   obtain ⟨rfl,c,e,fz,hblk⟩:=hsp;have hlt:b < w.heap.size:=(Array.getElem?_eq_some_iff.1 hblk).1;have elt:∀ (i:Nat) (hi:i < l.length),off+i*t.size+t.size≤c.size∧Rep w (z8t w) none t (l.get ⟨i,hi⟩) (seg c.toList (off+i*t.size) t.size):=fun i hi=>by
    obtain ⟨cs',hc',hr⟩:=hl i hi;obtain ⟨_,hl',hcell'⟩:=World.cells?_some hc';have hadd:(⟨b,off,none⟩:Addr).add (i*t.size)=⟨b,off+i*t.size,none⟩:=Addr.add_lit ..;rw [hadd] at hcell';have h2:=zr0 (b:=b) (off:=off+i*t.size) (n:=t.size) hl' (fun j hj=>by
     have:=hcell' j hj;rw [Addr.add_lit] at this;exact this) hblk hpos
    exact ⟨h2.1,by rw [h2.2];exact hr⟩
   refine ⟨b,off,c,e,fz,rfl,zi8 hlt,hblk,?_,fun i hi=>(elt i hi).2⟩;have:=(elt (l.length-1) (by omega)).1;have hm:(l.length-1+1)*t.size=l.length*t.size:=by rw [Nat.sub_add_cancel (by omega)]
   rw [Nat.add_mul] at hm
   omega
 | .sl true _,_,_,_,_,hp,_,_=>by simp [Ty.plain] at hp
 | .ptr _,_,_,_,_,hp,_,_=>by simp [Ty.plain] at hp
 | .fn _ _,_,_,_,_,hp,_,_=>by simp [Ty.plain] at hp
theorem zfq:(t:Ty)->{fs:List Field}->{off:Nat}->{cs:List Value}->{n:Nat}->t.plain=true->z6v P t fs off->off+t.size≤cs.length->
  (∀ (i:Nat) (f:Field),fs[i]? = some f->∃ x,DataW.trod enc P w base spare held n f.type ((cs.drop f.offset).take (P.cellsOf f.type))=some x)->∃ d,Rep w (z8t w) none t d (seg cs off t.size)
 | .pair a b,f :: fs,off,cs,n,hp,hfs,hl,h=>by
  simp only [z6v] at hfs;obtain ⟨ho,hta,htb⟩:=hfs;simp only [Ty.plain,zA] at hp;simp only [Ty.size] at hl;obtain ⟨y,hy⟩:=h 0 f rfl;rw [ho,(hta.info.cellsOf).1] at hy;obtain ⟨d1,hd1⟩:=zeo a hp.1 hta hy;obtain ⟨d2,hd2⟩:=zfq b (off:=off+a.size) hp.2 htb (by omega) (fun i g hg=>h (i+1) g (by simpa using hg));refine ⟨(d1,d2),seg cs off a.size,seg cs (off+a.size) b.size,?_,hd1,hd2⟩;simp only [seg,Ty.size,List.take_add]
  rw [List.drop_drop]
 | .unit,[],off,cs,n,_,_,_,_=>⟨(),by simp [seg,Ty.size,Rep]⟩
 | .unit,_ :: _,_,_,_,_,h,_,_=>by simp only [z6v] at h
 | .pair _ _,[],_,_,_,_,h,_,_=>by simp only [z6v] at h
 | .int _,_,_,_,_,_,h,_,_=>by simp only [z6v] at h
 | .bool,_,_,_,_,_,h,_,_=>by simp only [z6v] at h
 | .str,_,_,_,_,_,h,_,_=>by simp only [z6v] at h
 | .arr _ _,_,_,_,_,_,h,_,_=>by simp only [z6v] at h
 | .sl _ _,_,_,_,_,_,h,_,_=>by simp only [z6v] at h
 | .ptr _,_,_,_,_,_,h,_,_=>by simp only [z6v] at h
 | .fn _ _,_,_,_,_,_,h,_,_=>by simp only [z6v] at h
end
theorem zwb {t:Ty} {T:TypeId} {v:Value} {r:Reach} (hp:t.plain=true) (hT:z2j P t T) (h:Value.okWide P w r base T v):v=mkV t.sk.isAgg v.cells.toList:=by
 cases t with
 | int k=>simp only [z2j] at hT;obtain ⟨n,rfl⟩:=Go.WideShapes.okWide_int hT.1 h;rfl
 | bool=>simp only [z2j] at hT;obtain ⟨n,rfl⟩:=Go.WideShapes.okWide_bool hT.1 h;rfl
 | str=>simp only [z2j] at hT;obtain ⟨n,rfl⟩:=Go.WideShapes.okWide_string hT.1 h;rfl
 | unit=>simp only [z2j] at hT
 | pair a b=>
  simp only [z2j] at hT;obtain ⟨⟨fs,hu,_⟩,_⟩:=hT;obtain ⟨cs,rfl,_⟩:=Go.WideShapes.okWide_struct hu h
  simp [mkV,Ty.sk,Sk.isAgg,Value.cells]
 | arr n t=>
  simp only [z2j] at hT;obtain ⟨⟨E,hu,_⟩,_⟩:=hT;simp only [Value.okWide,hu] at h;obtain ⟨cs,rfl,_⟩:=h
  simp [mkV,Ty.sk,Sk.isAgg,Value.cells]
 | sl o t=>
  simp only [z2j] at hT;obtain ⟨⟨E,hu,_⟩,_⟩:=hT;obtain ⟨a,l,c,rfl⟩:=Go.WideShapes.okWide_slice hu h
  rfl
 | ptr t=>simp [Ty.plain] at hp
 | fn f t=>simp [Ty.plain] at hp
theorem arg_open {t:Ty} {T:TypeId} {v:Value} {r:Reach} {base':Nat} {d:DataW H} {ps:List MemPlace} (hp:t.plain=true) (hT:z2j P t T) (hv:Value.okWide P w r base' T v) (h:DataW.Trod enc P w base spare held T v d ps) :
  ∃ x,t.isRo=true∧∃ cs,Rep w (z8t w) none t x cs∧v=mkV t.sk.isAgg cs:=by
 obtain ⟨fuel,h⟩:=h;obtain ⟨x,hx⟩:=zeo t hp hT h;exact ⟨x,Ty.plain_ro hp,_,hx,zwb hp hT hv⟩
end
theorem law_walk {P : Program} {f : Nat} {fn : Func} {body : Code} {p : APat} {F : p.den -> Option Bool} {d : p.den} {vals : List Value} {w : World} (hf : P.funcs[f]? = some fn) (hb : fn.body = some body) (hnm : (fn.name == "runtime.NumGoroutine") = false)
  (hc:z03 P f (.pure p [.bool] F)) (hF:F d=some true) (ha:zhp w (z8t w) p d vals) (hkn:zpl w (z8t w):=by intro b e he;simp [Go.Kz.tab] at he) :
  Calls P f vals.toArray w fun e w'=>e = .returned (.bool true)∧Go.RowKit.Below w.heap.size w w':=by
 have hnm' : ¬ fn.name = "runtime.NumGoroutine" := by simpa using hnm
 have hent:(callFunc f vals.toArray).run P w = .ok (.enter f vals.toArray) w:=by simp [callFunc,hf,hb,hnm']
 rcases hc w (z8t w) d vals true (fun b hb=>by
  simp only [z8t] at hb ⊢;split at hb
  ·rename_i h;simp [h]
  ·simp at hb) hkn ha hF with ⟨_,h⟩ | ⟨v,w',h,_⟩
 ·refine Calls.mono h fun e w' he=>?_
  obtain ⟨v,rfl,g',hext,hres⟩:=he;have hv:=z8s hres.2;refine ⟨by rw [hv],hext.os,hext.tape,hext.output,hext.size,fun k hk=>(hext.keep k hk (.inr (zi8 hk))).1⟩
 ·rw [hent] at h;cases h
end Go.Kz
namespace Go.Kz
theorem z34 {α R:Type} {Body:(α->Option R)->α->Option R} {r:Option R} (Inv:α->Prop) (m:α->Nat)
  (h:∀ x w,Inv x->(∀ y,Inv y->m y < m x->w y=r)->Body w x=r):∀ (n:Nat) (x:α),Inv x->m x < n->iter Body n x=r
 | 0,_,_,hn=>by omega
 | n+1,x,hx,hn=>h x _ hx fun y hy hm=>z34 Inv m h n y hy (by omega)
theorem zx2 {α:Type} (l:List α) (k:Nat):idx l (k:Int)=l[k]? := rfl
theorem idx_of {α:Type} {l:List α} {i:Int} (h0:0≤i) (h1:i < l.length):idx l i=some (l[i.toNat]'(by omega)):=by
 obtain ⟨k,rfl⟩:=Int.eq_ofNat_of_zero_le h0;simp only [zx2,Int.toNat_natCast];exact List.getElem?_eq_getElem (by omega)
theorem z0s {α:Type} {l:List α} {k:Nat} (h:k < l.length):idx l (k:Int)=some l[k]:=by simp [zx2,h]
theorem z2m {α:Type} {l:List α} {k:Nat} (h:k < l.length):inb l (k:Int)=true:=by simp [inb,h]
theorem z5i {α:Type} (l:List α) (k:Nat) (x:α):zcx l (k:Int) x=l.set k x:=rfl
theorem z0h {R:Type} {b:Bool} {x:Option R} (h:b=true):chk b x=x:=by rw [h];rfl
theorem z07 {n:Int} (h1 : -9223372036854775808≤n) (h2:n≤9223372036854775807):z0l n=n:=by
 simp only [z0l,IntKind.wrap,IntKind.min,IntKind.max,IntKind.bits,IntKind.signed];simp;omega
end Go.Kz
namespace Go.Kz
variable {σ R:Type} {r:Option R}
theorem z2h {F:(Int×σ->Option R)->Int×σ->Option R} (Inv:Nat->σ->Prop) (n:Nat)
  (step:∀ (k:Nat) (s:σ) (w:Int×σ->Option R),k < n->Inv k s->(∀ s',Inv (k+1) s'->w ((k:Int)+1,s')=r)->F w ((k:Int),s)=r)
  (last:∀ (s:σ) (w:Int×σ->Option R),Inv n s->F w ((n:Int),s)=r) (N:Nat) (hN:n < N) (s0:σ) (h0:Inv 0 s0):iter F N (0,s0)=r:=by
 refine z34 (fun x=>∃ k:Nat,x.1=(k:Int)∧k≤n∧Inv k x.2) (fun x=>n-x.1.toNat) ?_ N (0,s0) ⟨0,rfl,by omega,h0⟩ (by simpa using hN);rintro ⟨x,s⟩ w ⟨k,hx,hk,hi⟩ hw;simp only at hx hi;subst hx;by_cases hlt:k < n
 ·exact step k s w hlt hi fun s' hs'=>hw _ ⟨k+1,by simp,by omega,hs'⟩ (by simp;omega)
 ·have:k=n:=by omega
  subst this;exact last s w hi
theorem zc8 {F:(Int->Option R)->Int->Option R} (Inv:Nat->Prop) (n:Nat)
  (step:∀ (k:Nat) (w:Int->Option R),k < n->Inv k->(Inv (k+1)->w ((k:Int)+1)=r)->F w (k:Int)=r)
  (last:∀ (w:Int->Option R),Inv n->F w (n:Int)=r) (N:Nat) (hN:n < N) (h0:Inv 0):iter F N 0=r:=by
 refine z34 (fun x=>∃ k:Nat,x=(k:Int)∧k≤n∧Inv k) (fun x=>n-x.toNat) ?_ N 0 ⟨0,rfl,by omega,h0⟩ (by simpa using hN);rintro x w ⟨k,hx,hk,hi⟩ hw;subst hx;by_cases hlt:k < n
 ·exact step k w hlt hi fun hs'=>hw _ ⟨k+1,by simp,by omega,hs'⟩ (by simp;omega)
 ·have:k=n:=by omega
  subst this;exact last w hi
theorem dlt {k n:Nat} (h:k < n):decide ((k:Int) < (n:Int))=true:=by simp [h]
theorem dnlt (n:Nat):decide ((n:Int) < (n:Int))=false:=by simp
theorem z17 {α:Type} {l:List α} {k:Nat} (h:k < l.length):decide ((k:Int) < len l)=true:=by simp [len,h]
theorem z0v {α:Type} (l:List α):decide (((l.length:Nat):Int) < len l)=false:=by simp [len]
theorem z4v {n:Nat} {x:Option R} (h:n≤4294967296):chk (decide (n≤z3e)) x=x:=z0h (decide_eq_true h)
theorem z1h {α:Type} {l:List α} {k:Nat} (h:k < l.length):l.take (k+1)=l.take k++[l[k]]:=by rw [List.take_succ_eq_append_getElem h]
theorem zfk {α:Type} {p:List α->Prop} (h0:p []) (h1:∀ l x,p l->p (l++[x])) (l:List α):p l:=by
 have:∀ n (l:List α),l.length=n->p l:=by
  intro n
  induction n with
  | zero=>intro l hl;have:=List.eq_nil_of_length_eq_zero hl;subst this;exact h0
  | succ n ih=>
   intro l hl;have hne:l≠[]:=by intro h;subst h;simp at hl
   rw [←List.dropLast_concat_getLast hne];exact h1 _ _ (ih _ (by simp [hl]))
 exact this _ l rfl
end Go.Kz
namespace Go.Kz
variable {R:Type}
def kFin (c:Ctx) (ts:List Ty) (rs:List ResultVar):AExit->St->Option (z33 ts):=fun e σ=>match e with
 | .exit _=>none
 | _=>norm c.res σ fun σ=>zrq c.tt σ ts rs fun r _=>some r
theorem zxf {P:Program} {f:Nat} {fn:Func} {c:Ctx} {p:APat} {ts:List Ty} {F:p.den->Option (z33 ts)} {A B C:Code} {id:Nat} {o1 o2:Oper} {s d1 d2:Nat} {T T':TypeId} {t tT:Ty} {oT:Bool} {σ0:p.den->St}
  (hf : P.funcs[f]? = some fn) (hnm : (fn.name == "runtime.NumGoroutine") = false) (hb : fn.body = some (.seq A (.seq (.seq (.region id #[o1, o2] false) C) B)))
  (hc:CtxOK P c) (hm:P.follows .mixedOrders=true) (hn:c.ntmps=fn.ntmps) (hp:p.len≤fn.ntmps) (ht:zli ts=true)
  (hlA:∀ b∈z00 A,z0r c b) (hlB:∀ b∈z00 B,z0r c b) (hlC:∀ b∈z00 C,z0r c b)
  (hA:∀ d,z0z c A (entry p d) (fun e σ=>match e with | .normal=>some σ | _=>none)=some (σ0 d))
  (h1:o1.op = .move (.tmp s)) (h1d:o1.dst=some d1) (h1g:o1.guard=none)
  (h2:o2.op = .binOp .eql T (.tmp d1) (.const (.slice none 0 0)) T') (h2d:o2.dst=some d2) (h2g:o2.guard=none)
  (hd1:d1 < c.ntmps) (hd2:d2 < c.ntmps) (hT:c.tt T=some (.sl oT tT))
  (l:p.den->List t.den) (hs:∀ d,(σ0 d).slots s=some (.data (.sl false t) (l d)))
  (heq:∀ d b,(b=true->l d=[])->z0z c C (((σ0 d).set d1 (.data (.sl false t) (l d))).set d2 (.data .bool b)) (kSeq (kCut (cutAt c B) (z0z c B)) (kFin c ts fn.results.toList))=F d):z03 P f (.pure p ts F):=by
 intro w g d vals r htag hkn hargs hF;left;refine ⟨?_,?_⟩
 ·have hnm' : ¬ fn.name = "runtime.NumGoroutine" := by simpa using hnm
  simp [callFunc,hf,hb,hnm']
 obtain ⟨hst,hfr⟩:=zt2 htag hkn hargs hp;rw [←hn] at hst;refine calls_of_wp hf hb ?_;rw [←hn];have hQ':∀ ch a w',¬ bodyPost P fn (fun e w'=>∃ v,e = .returned v∧∃ g',Ext w g w' g'∧zpj w' g' (z08 ts r 0) v) (.panic ch) a w':=by
  intro ch a w h;obtain ⟨_,v,h,_⟩:=h;cases h
 generalize hQd:bodyPost P fn (fun e w'=>∃ v,e = .returned v∧∃ g',Ext w g w' g'∧zpj w' g' (z08 ts r 0) v)=Q at hQ' ⊢;have fin:Kont c.ntmps g w (kFin c ts fn.results.toList) r (fun _=>True) Q:=by
  subst hQd;intro e σ' g' a' w' hk hst' hext' hf' _;have fin:∀ {σ':St},norm c.res σ' (fun σ=>zrq c.tt σ ts fn.results.toList fun r _=>some r)=some r->StOK c.ntmps g' w' a' σ'->z18 g' σ'->
    ∃ v,(results fn a'.tmps).run P w' = .ok v w'∧∃ g',Ext w g w' g'∧zpj w' g' (z08 ts r 0) v:=by
   intro σ' hk hst' hf';obtain ⟨σ1,g1,h1,hst1,hext1,_⟩:=zd4 hst' hf' hk;obtain ⟨v,g2,hr,hext2,hres⟩:=res_ok (P:=P) hc.tt hst1 ht h1;exact ⟨v,hr,g2,(hext'.trans hext1).trans hext2,hres⟩
  cases e with
  | exit id=>simp [kFin] at hk
  | normal=>
   obtain ⟨v,h1,h2⟩:=fin hk hst' hf'
   exact ⟨hst'.defers,v,h1,v,rfl,h2⟩
  | ret=>
   obtain ⟨v,h1,h2⟩:=fin hk hst' hf';exact ⟨hst'.defers,v,h1,v,rfl,h2⟩
 refine wp_seq (z5g hc hm A hlA (fun ch a w h=>hQ' ch a w h) (hA d) hst hfr ?_);intro e σ1 g1 a1 w1 hk1 hst1 hext1 hf1 _
 cases e with
 | exit i=>simp at hk1
 | ret=>simp at hk1
 | normal=>
  simp only [zI] at hk1;subst hk1;show Code.wp P _ _ a1 w1;refine wp_seq (wp_seq (wp_region ?_));obtain ⟨v,hv,hok⟩:=hst1.slots s _ (hs d);have hev:a1.eval (.tmp s)=v:=by simp [Act.eval,Array.getD_eq_getD_getElem?,hv]
  have hr:List.range (#[o1,o2]:Array Oper).size=[0,1]:=rfl;rw [hr];simp only [wpOps,List.getElem?_toArray,List.getElem?_cons_zero,List.getElem?_cons_succ,z69 h1g,z69 h2g,if_true];left;have hst2:StOK c.ntmps g1 w1 (a1.put o1.dst v) ((σ0 d).set d1 (.data (.sl false t) (l d))):=by
   rw [h1d];exact hst1.put hd1 hok
  refine zf3 (v:=v) (by simp [execOp,h1,hev]) ?_;left;obtain ⟨v2,hv2,hok2⟩:=hst2.slots d1 (.data (.sl false t) (l d)) (by simp [St.set,upd,Nat.beq_refl]);have hev2:(a1.put o1.dst v).eval (.tmp d1)=v2:=by simp [Act.eval,Array.getD_eq_getD_getElem?,hv2]
  have hvd:∃ ad n cap,v2 = .slice ad n cap∧(ad.isNone=true->l d=[]):=by
   simp only [VOK] at hok2;obtain ⟨cs,⟨_,ad,cap,rfl,_,_,hne⟩,hmk⟩:=hok2;refine ⟨ad,_,cap,by rw [hmk];rfl,fun hnone=>?_⟩;by_cases hl:l d=[]
   ·exact hl
   ·obtain ⟨b,off,c',e,fz,he,_⟩:=hne hl;rw [he] at hnone;simp at hnone
  obtain ⟨ad,n,cap,rfl,hnil⟩:=hvd;have hTu:=hc.tt _ _ hT;simp only [z2j] at hTu;obtain ⟨⟨E,hTE,_⟩,_⟩:=hTu;have hrun:(execOp (a1.put o1.dst v).eval o2).run P w1 = .ok (.value (.bool ad.isNone)) w1:=by
   have:=run_equal_slice_nil (P:=P) w1 T E ad n cap hTE;have h3:(binOp .eql T (.slice ad n cap) (.slice none 0 0)).run P w1 = .ok (.bool ad.isNone) w1:=by
    simp only [binOp];simp [this]
   have hc0:(a1.put o1.dst v).eval (.const (.slice none 0 0)) = .slice none 0 0:=rfl;simp [execOp,h2,hev2,hc0,eqGuard,h3]
  refine zf3 hrun ?_;have hst3:StOK c.ntmps g1 w1 ((a1.put o1.dst v).put o2.dst (.bool ad.isNone)) (((σ0 d).set d1 (.data (.sl false t) (l d))).set d2 (.data .bool ad.isNone)):=by
   rw [h2d];exact hst2.put hd2 (z3v _)
  have hf3:z18 g1 (((σ0 d).set d1 (.data (.sl false t) (l d))).set d2 (.data .bool ad.isNone)):=by
   intro m hm';exact ((hf1 m hm').set d1 (by simp [AVal.ids])).set d2 (by simp [AVal.ids])
  show Code.wp P _ _ _ _;have he:=heq d ad.isNone hnil;rw [hF] at he;refine z5g hc hm C hlC (Q:=Exit.then (B.wp P Q) Q) (fun ch a w h=>hQ' ch a w h) he hst3 hf3 ?_;intro e σ4 g4 a4 w4 h4 hst4 hext4 hf4 _
  cases e with
  | normal=>
   simp only [kSeq,kCut] at h4;show B.wp P Q a4 w4;split at h4
   ·obtain ⟨σ5,g5,h5,hst5,hext5,hf5⟩:=zd4 hst4 hf4 h4;exact z5g hc hm B hlB hQ' h5 hst5 hf5 (fin.later ((hext1.trans hext4).trans hext5) (fun _ _=>trivial))
   ·exact z5g hc hm B hlB hQ' h4 hst4 hf4 (fin.later (hext1.trans hext4) (fun _ _=>trivial))
  | exit i=>exact fin.later (F':=fun _=>True) (hext1.trans hext4) (fun _ h=>h) (.exit i) σ4 g4 a4 w4 h4 hst4 (Ext.refl _ _) hf4 trivial
  | ret=>exact fin.later (F':=fun _=>True) (hext1.trans hext4) (fun _ h=>h) .ret σ4 g4 a4 w4 h4 hst4 (Ext.refl _ _) hf4 trivial
end Go.Kz
namespace Go.Kz
variable {R α β σ:Type}
def Yld (x:Option R) (Q:R->Prop):Prop:=∃ r,x=some r∧Q r
theorem Yld.ret {r:R} {Q:R->Prop} (h:Q r):Yld (some r) Q:=⟨r,rfl,h⟩
theorem Yld.mono {x:Option R} {P Q:R->Prop} (h:Yld x P) (hq:∀ r,P r->Q r):Yld x Q:=let ⟨r,h1,h2⟩:=h;⟨r,h1,hq r h2⟩
theorem Yld.bind {m:Option α} {f:α->Option R} {Q:R->Prop} (h:Yld m fun a=>Yld (f a) Q):Yld (m.bind f) Q:=by
 obtain ⟨a,rfl,r,h1,h2⟩:=h;exact ⟨r,h1,h2⟩
theorem Yld.then {m:Option α} {f:α->Option R} {P:α->Prop} {Q:R->Prop} (h:Yld m P) (hf:∀ a,P a->Yld (f a) Q):Yld (m.bind f) Q:=Yld.bind (h.mono hf)
theorem Yld.cond {b:Bool} {x y:Option R} {Q:R->Prop} (h1:b=true->Yld x Q) (h2:b=false->Yld y Q):Yld (cond b x y) Q:=by
 cases b with
 | true=>exact h1 rfl
 | false=>exact h2 rfl
theorem Yld.chk {b:Bool} {x:Option R} {Q:R->Prop} (hb:b=true) (h:Yld x Q):Yld (chk b x) Q:=by rw [hb];exact h
theorem Yld.idx {l:List α} {i:Int} {Q:α->Prop} (h0:0≤i) (h1:i < l.length) (h:∀ hk:i.toNat < l.length,Q l[i.toNat]):Yld (idx l i) Q:=
 ⟨_,idx_of h0 h1,h _⟩
theorem Yld.eq {x:Option R} {r:R} (h:Yld x fun y=>y=r):x=some r:=by obtain ⟨y,rfl,rfl⟩:=h;rfl
theorem Yld.of {x:Option R} {r:R} {Q:R->Prop} (h:x=some r) (hq:Q r):Yld x Q:=⟨r,h,hq⟩
theorem Yld.iter {Q:R->Prop} {Body:(α->Option R)->α->Option R} (Inv:α->Prop) (m:α->Nat)
  (h:∀ x w,Inv x->(∀ y,Inv y->m y < m x->Yld (w y) Q)->Yld (Body w x) Q):∀ (n:Nat) (x:α),Inv x->m x < n->Yld (iter Body n x) Q
 | 0,_,_,hn=>by omega
 | n+1,x,hx,hn=>h x _ hx fun y hy hm=>Yld.iter Inv m h n y hy (by omega)
theorem Yld.up {Q:R->Prop} {F:(Int×σ->Option R)->Int×σ->Option R} (Inv:Nat->σ->Prop) (n:Nat)
  (step:∀ (k:Nat) (s:σ) (w:Int×σ->Option R),k < n->Inv k s->(∀ s',Inv (k+1) s'->Yld (w ((k:Int)+1,s')) Q)->Yld (F w ((k:Int),s)) Q)
  (last:∀ (s:σ) (w:Int×σ->Option R),Inv n s->Yld (F w ((n:Int),s)) Q) (N k0:Nat) (hk:k0≤n) (hN:n-k0 < N) (s0:σ) (h0:Inv k0 s0):Yld (Go.Kz.iter F N ((k0:Int),s0)) Q:=by
 refine Yld.iter (fun x=>∃ k:Nat,x.1=(k:Int)∧k≤n∧Inv k x.2) (fun x=>n-x.1.toNat) ?_ N _ ⟨k0,rfl,hk,h0⟩ (by simpa using hN);rintro ⟨x,s⟩ w ⟨k,hx,hk,hi⟩ hw;simp only at hx hi;subst hx;by_cases hlt:k < n
 ·exact step k s w hlt hi fun s' hs'=>hw _ ⟨k+1,by simp,by omega,hs'⟩ (by simp;omega)
 ·have:k=n:=by omega
  subst this;exact last s w hi
theorem Yld.first {Q:R->Prop} {F:(α->Option R)->α->Option R} {N:Nat} {x:α} (hN:0 < N) (h:∀ w,Yld (F w x) Q):Yld (Go.Kz.iter F N x) Q:=by
 cases N with
 | zero=>omega
 | succ n=>exact h _
theorem zww {F:(Int->Option R)->Int->Option R} (k0 n:Nat) (hk0:k0≤n) (p:Nat->Bool) (A B:Option R)
  (step:∀ (k:Nat) (w:Int->Option R),k0≤k->k < n->F w (k:Int)=if p k then w ((k:Int)+1) else B)
  (last:∀ (w:Int->Option R),F w (n:Int)=A) (N:Nat) (hN:n-k0 < N):iter F N (k0:Int)=if (List.range (n-k0)).all (fun j=>p (k0+j)) then A else B:=by
 have key:∀ (M k:Nat),k≤n-k0->n-k0-k < M->((List.range k).all (fun j=>p (k0+j))=true)->iter F M ((k0+k:Nat):Int)=if (List.range (n-k0)).all (fun j=>p (k0+j)) then A else B:=by
  intro M
  induction M with
  | zero=>intro k _ h;omega
  | succ M ih=>
   intro k hk hM hall;simp only [iter];by_cases hlt:k < n-k0
   ·rw [step (k0+k) _ (by omega) (by omega)]
    cases hp:p (k0+k) with
    | true=>
     simp only [if_true];have:=ih (k+1) hlt (by omega) (by rw [List.range_succ,List.all_append,hall];simp [hp]);rw [show (((k0+(k+1):Nat)):Int)=((k0+k:Nat):Int)+1 from by omega] at this
     exact this
    | false=>
     have:(List.range (n-k0)).all (fun j=>p (k0+j))=false:=by
      rw [List.all_eq_false];exact ⟨k,by simp [hlt],by simp [hp]⟩
     rw [this];simp
   ·have:k=n-k0:=by omega
    subst this;rw [show k0+(n-k0)=n from by omega,last,hall];simp
 have:=key N 0 (Nat.zero_le _) (by omega) rfl;simpa using this
theorem zv7 {k:Nat} (h:0 < k) (h2:k < 9223372036854775807):z0l ((k:Int)-1)=((k-1:Nat):Int):=by
 rw [z07 (by omega) (by omega)];omega
end Go.Kz
namespace Go.Kz
theorem z4i {P:Go.Program} {f:Nat} {fin:SForm} {anch:List Nat} {fout:SForm} {F:fin.den->Option fout.den} (h:∀ d,F d=none):z03 P f (.mut fin anch fout F):=by
 intro w g d vals r _ _ _ hF;rw [h] at hF;cases hF
end Go.Kz
