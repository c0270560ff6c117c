/-
  Maps that the function makes itself; parts of slices.
-/
import Derived.Test.YtoccnkcnkcngjaaDoorKzX
import Derived.MapKept
import Derived.Laws.StructEq
import Derived.ChangeKeysEq
set_option linter.unusedVariables false
set_option linter.unusedSimpArgs false
namespace Go.Kz
open Go.MapKept
variable {R:Type}
def keyDesc:Ty→TypeDesc
 | .int k=>.int k
 | .str=>.string
 | _=>.bool
theorem key_under {P:Program} {t:Ty} {T:TypeId} (hk:keyTy t=true) (h:TyOK P t T):P.underlying T=some (keyDesc t):=by
 cases t <;> simp [keyTy] at hk <;> simp only [TyOK] at h <;> exact h.1
theorem keyTy_noSl {t:Ty} (hk:keyTy t=true):t.noSl=true:=by
 cases t <;> simp [keyTy] at hk <;> rfl
theorem key_isKey {w:World} {g:Ghost} {o:Own} {t:Ty} {d:t.den} {cs:List Value} (hk:keyTy t=true) (h:Rep w g o t d cs):IsKey (keyDesc t) (mkV t.sk.isAgg cs):=by
 cases t <;> simp [keyTy] at hk
 ·obtain ⟨rfl,_⟩:=h;simp [keyDesc,mkV,Ty.sk,Sk.isAgg,IsKey]
 ·cases h;simp [keyDesc,mkV,Ty.sk,Sk.isAgg,IsKey]
 ·obtain ⟨s,rfl,_⟩:=h;simp [keyDesc,mkV,Ty.sk,Sk.isAgg,IsKey]
theorem key_eq {w:World} {g:Ghost} {o:Own} {t:Ty} {d e:t.den} {cs es:List Value} (hk:keyTy t=true) (h:Rep w g o t d cs) (h':Rep w g o t e es) :
  (mkV t.sk.isAgg cs=mkV t.sk.isAgg es)↔keyEq t d e=true:=by
 cases t <;> simp [keyTy] at hk
 ·obtain ⟨rfl,_⟩:=h;obtain ⟨rfl,_⟩:=h';simp [keyEq,mkV,Ty.sk,Sk.isAgg]
 ·cases h;cases h';simp [keyEq,mkV,Ty.sk,Sk.isAgg]
 ·obtain ⟨s,rfl,hs,_⟩:=h
  obtain ⟨s',rfl,hs',_⟩:=h'
  simp only [keyEq,mkV,Ty.sk,Sk.isAgg,Bool.false_eq_true,if_false,List.headD_cons,Value.string.injEq,decide_eq_true_eq]
  constructor
  ·rintro rfl;rw [←hs,←hs']
  ·intro he
   obtain ⟨⟨l⟩⟩:=s
   obtain ⟨⟨l'⟩⟩:=s'
   simp only at hs hs'
   rw [hs,hs',he]
theorem findNow_at {d:TypeDesc} {k:Value}:(es:List MapEntry)→(i:Nat)→Instr.findNow d k es i=(Instr.findNow d k es 0).map fun x=>x.map fun y=>(i+y.1,y.2)
 | [],i=>by simp [Instr.findNow]
 | e :: es,i=>by
  simp only [Instr.findNow]
  cases Instr.sameNow d k e.key with
  | none=>rfl
  | some b=>
   cases b with
   | true=>simp
   | false=>
    simp only
    rw [findNow_at es (i+1),findNow_at es (0+1)]
    cases Instr.findNow d k es 0 with
    | none=>rfl
    | some x=>cases x with
     | none=>rfl
     | some y=>simp;omega
theorem find_ok {w:World} {g:Ghost} {kt vt:Ty} (hk:keyTy kt=true) {k:kt.den} {kcs:List Value} (hkr:Rep w g none kt k kcs):{es:List MapEntry}→{m:List (kt.den×vt.den)}→MapRep w g kt vt es m→
  (Instr.findNow (keyDesc kt) (mkV kt.sk.isAgg kcs) es 0=some none∧mget (keyEq kt) m k=none∧
   ∀ d cs b,Rep w g none vt d cs→MapRep w g kt vt (es++[⟨mkV kt.sk.isAgg kcs,mkV vt.sk.isAgg cs,b⟩]) (mput (keyEq kt) m k d))∨
  ∃ j e v cs,Instr.findNow (keyDesc kt) (mkV kt.sk.isAgg kcs) es 0=some (some (j,e.val))∧es[j]? = some e∧e.key=mkV kt.sk.isAgg kcs∧mget (keyEq kt) m k=some v∧Rep w g none vt v cs∧e.val=mkV vt.sk.isAgg cs∧
   ∀ d cs,Rep w g none vt d cs→MapRep w g kt vt (es.modify j fun e=>{ e with key:=mkV kt.sk.isAgg kcs,val:=mkV vt.sk.isAgg cs }) (mput (keyEq kt) m k d)
 | [],[],_=>.inl ⟨rfl,rfl,fun d cs b h=>⟨⟨kcs,hkr,rfl⟩,⟨cs,h,rfl⟩,trivial⟩⟩
 | [],_ :: _,h=>h.elim
 | _ :: _,[],h=>h.elim
 | e :: es,(k',v') :: m,⟨⟨c1,h1,e1⟩,⟨c2,h2,e2⟩,h⟩=>by
  have i1:=key_isKey hk hkr
  have i2:=key_isKey hk h1
  obtain ⟨r,hr,hiff⟩:=sameNow_of_keys i1 i2
  have hq:=key_eq hk hkr h1
  have hrk:r=keyEq kt k k':=by
   cases r with
   | true=>exact (hq.1 (hiff.1 rfl)).symm
   | false=>
    cases hc:keyEq kt k k' with
    | false=>rfl
    | true=>have:=hiff.2 (hq.2 hc);simp at this
  rw [←e1] at hr
  cases r with
  | true=>
   right
   have hke:e.key=mkV kt.sk.isAgg kcs:=by rw [e1];exact (hiff.1 rfl).symm
   refine ⟨0,e,v',c2,by simp [Instr.findNow,hr],rfl,hke,by simp [mget,←hrk],h2,e2,fun d cs hd=>?_⟩
   simp only [mput,←hrk,cond_true,List.modify_zero_cons]
   exact ⟨⟨c1,h1,by rw [←e1,hke]⟩,⟨cs,hd,rfl⟩,h⟩
  | false=>
   rcases find_ok hk hkr h with ⟨f1,f2,f3⟩ | ⟨j,e',v,cs,f1,f2,f3,f4,f5,f6,f7⟩
   ·left
    refine ⟨?_,by simp [mget,←hrk,f2],fun d cs b hd=>?_⟩
    ·simp only [Instr.findNow,hr]
     rw [findNow_at,f1];rfl
    ·simp only [mput,←hrk,cond_false,List.cons_append]
     exact ⟨⟨c1,h1,e1⟩,⟨c2,h2,e2⟩,f3 d cs b hd⟩
   ·right
    refine ⟨j+1,e',v,cs,?_,by simpa using f2,f3,by simp [mget,←hrk,f4],f5,f6,fun d cs hd=>?_⟩
    ·simp only [Instr.findNow,hr]
     rw [findNow_at,f1]
     simp;omega
    ·simp only [mput,←hrk,cond_false,List.modify_succ_cons]
     exact ⟨⟨c1,h1,e1⟩,⟨c2,h2,e2⟩,f7 d cs hd⟩
section
variable {P:Program} {o:Oper} {a:Act} {w:World} {K:Act→World→Prop} {Q:Exit→Act→World→Prop} {c:Ctx} {σ:St} {g:Ghost} {k:St→Option R} {r:R} {base:Nat} {mo:Bool}
theorem op_makeMap {t:TypeId} (ho:o.op = .makeMap t none) (hst:StOK c.ntmps g w a σ) (hf:Fresh g σ base) (h:opK0 c σ base o k=some r) (hK:Post c.ntmps k r g w σ base mo K):o.wp P a w K Q:=by
 simp only [opK0,ho] at h
 split at h
 ·rename_i kt vt hmt
  cases hc:(keyTy kt && vt.noSl) with
  | false=>rw [hc] at h;simp at h
  | true=>
   rw [hc] at h
   simp only [cond_true] at h
   simp only [Bool.and_eq_true] at hc
   refine wp_new (ob:=.map #[] 0) (obj:=.map kt vt []) (tg:=.box base) (v:=undef) (v':=.map (some w.heap.size)) hst hf (.inl rfl) ?_ rfl ?_ (by simp) ?_ h hK
   ·simp only [execOp,ho]
    simp [Instr.makeMap]
   ·refine ⟨#[],0,?_,?_,noSl_isRo (keyTy_noSl hc.1),noSl_isRo hc.2,trivial⟩
    ·have hb:(newG g w.heap.size base (.box base) undef).blk base=w.heap.size:=by simp [newG]
     rw [hb];exact heap_alloc_new w _
    ·simp [newG]
   ·simp only [VOK]
    refine ⟨_,⟨_,rfl,rfl,fun _ _ _ _=>?_⟩,rfl⟩
    simp [newG]
 ·simp at h
theorem data_value {t:Ty} {d:t.den} {v:Value} {objs:Objs} {cs:List Value} (ht:t.noSl=true) {w':World} {g':Ghost} {o':Own} (h:Rep w' g' o' t d cs) (hv:v=mkV t.sk.isAgg cs):VOK w g objs (.data t d) v:=
 ⟨cs,⟨noSl_isRo ht,Rep.noSl ht h⟩,hv⟩
theorem key_data {i:Operand} {b:AVal} {kt:Ty} {f:kt.den→Option R} (hst:StOK c.ntmps g w a σ) (hk:kt.noSl=true) (hb:b.val=true) (hi:ev σ i=some b) (h:asData σ 20 b kt f=some r) :
  ∃ d cs,f d=some r∧Rep w g none kt d cs∧a.eval i=mkV kt.sk.isAgg cs:=by
 obtain ⟨cs,hok,hmk,_⟩:=VOK_valueCells hb (ev_ok hst hi).1
 obtain ⟨d,hd,_,hr⟩:=asData_ok hst.heap 20 hok h
 exact ⟨d,cs,hd,Rep.noSl hk hr,by rw [hmk,asData_isAgg hst.heap hb h]⟩
theorem op_lookup (hmt:MtOK P c.mt) {t:TypeId} {x i:Operand} {ok:Bool} (ho:o.op = .lookup t x i ok) (hst:StOK c.ntmps g w a σ) (h:opK0 c σ base o k=some r):Yield P o a w g σ c k r:=by
 simp only [opK0,ho] at h
 split at h
 ·rename_i av bv hx hi
  obtain ⟨id,kt,vt,m,rfl,hmt',hobj,hkt,hvt,h⟩:=mapK_some h
  obtain ⟨KT,E,hund,hkT,hvT,iz,z,hiz,hz,hzv⟩:=hmt _ _ _ hmt'
  cases hb:bv.val with
  | false=>rw [hb] at h;simp at h
  | true=>
   rw [hb] at h
   simp only [cond_true] at h
   obtain ⟨key,kcs,h,hkr,hev⟩:=key_data hst (keyTy_noSl hkt) hb hi h
   obtain ⟨es,ck,hblk,htag,_,_,hrep⟩:=hst.heap.objs _ _ hobj
   have hv:=VOK_mref (ev_ok hst hx).1 hobj
   have hlt:g.blk id < w.heap.size:=hst.heap.tags _ (by rw [htag];simp)
   have hkd:=key_under hkt hkT
   have hik:=key_isKey hkt hkr
   split at h
   ·rename_i zd hzd
    obtain ⟨i0,z0,hi0,hs0,_,hz0,hc0,_⟩:=hvT.info.info
    have hzz:z0=z:=by rw [hiz] at hi0;cases hi0;rw [hz] at hz0;cases hz0;rfl
    subst hzz
    have hzrep:=zero_rep (w:=w) (g:=g) (noSl_isRo hvt) hzd
    rw [←hc0] at hzrep
    have hzrun:∀ w',(zeroValue E).run P w' = .ok z0 w':=fun w'=>by simp [zeroValue,typeInfo,hiz,hz]
    have found:∃ (vv:Value) (cs:List Value),Rep w g none vt ((mget (keyEq kt) m key).getD zd) cs∧vv=mkV vt.sk.isAgg cs∧
      ∀ w',Agree w w'→(Instr.lookup t (.map (some (g.blk id))) (mkV kt.sk.isAgg kcs) ok).run P w' = .ok (if ok then .tuple #[vv,.bool (mget (keyEq kt) m key).isSome] else vv) w':=by
     rcases find_ok hkt hkr hrep with ⟨f1,f2,_⟩ | ⟨j,e,v,cs,f1,f2,f3,f4,f5,f6,_⟩
     ·refine ⟨z0,z0.cells.toList,by rw [f2];exact hzrep,hzv,fun w' hag=>?_⟩
      have hb':w'.heap[g.blk id]? = some (.map es ck):=by rw [hag _ hlt];exact hblk
      have hg:(getObj (g.blk id)).run P w' = .ok (.map es ck) w':=by simp [getObj,Sem.run,hb']
      have hck:=run_checkKey (P:=P) (w:=w') hkd hik es.isEmpty 9999
      have hfk:=run_findKey (P:=P) (w:=w') hkd f1
      simp [Instr.lookup,run_underlying hund,hg,hck,hfk,hzrun,f2]
     ·refine ⟨e.val,cs,by rw [f4];exact f5,f6,fun w' hag=>?_⟩
      have hb':w'.heap[g.blk id]? = some (.map es ck):=by rw [hag _ hlt];exact hblk
      have hg:(getObj (g.blk id)).run P w' = .ok (.map es ck) w':=by simp [getObj,Sem.run,hb']
      have hck:=run_checkKey (P:=P) (w:=w') hkd hik es.isEmpty 9999
      have hfk:=run_findKey (P:=P) (w:=w') hkd f1
      simp [Instr.lookup,run_underlying hund,hg,hck,hfk,f4]
    obtain ⟨vv,cs,hvr,hvv,hrun⟩:=found
    have hrun':∀ w',AgP o w w'→(execOp a.eval o).run P w' = .ok (.value (if ok then .tuple #[vv,.bool (mget (keyEq kt) m key).isSome] else vv)) w':=fun w' hag=>by
     have:=hrun w' (hag (by simp [isP,ho]))
     simp only [execOp,ho,hv,hev]
     simp [this]
    cases ok with
    | true=>
     simp only [cond_true] at h
     refine yld (hrun') ?_ (fun m _=>by simp [AVal.ids]) h
     simp only [if_true,VOK]
     refine ⟨[vv,.bool (mget (keyEq kt) m key).isSome],rfl,?_⟩
     simp only [VsOK]
     exact ⟨vv,_,rfl,data_value hvt hvr hvv,_,_,rfl,VOK_bool_mk _,rfl⟩
    | false=>
     simp only [cond_false] at h
     exact yld hrun' (by simp only [Bool.false_eq_true,if_false];exact data_value hvt hvr hvv) (fun m _=>by simp [AVal.ids]) h
   ·simp at h
 ·simp at h
theorem map_turn {id:Nat} {kt vt:Ty} {m m':List (kt.den×vt.den)} {es:Array MapEntry} {ck:Nat} (hst:StOK c.ntmps g w a σ) (hobj:σ.objs id=some (.map kt vt m)) (hm:MapRep w g kt vt es.toList m') :
  StOK c.ntmps g { w with heap:=w.heap.setIfInBounds (g.blk id) (.map es ck) } a (σ.setObj id (.map kt vt m'))∧Ext w g { w with heap:=w.heap.setIfInBounds (g.blk id) (.map es ck) } g∧
   ∀ n,Fresh g σ n→Fresh g (σ.setObj id (.map kt vt m')) n:=by
 obtain ⟨es0,ck0,hblk,htag,hkr,hvr,_⟩:=hst.heap.objs _ _ hobj
 obtain ⟨h1,h2⟩:=heap_set (o':=.map es ck) hblk
 have hro:RoKept w g { w with heap:=w.heap.setIfInBounds (g.blk id) (.map es ck) } g:=by
  refine ⟨fun b hb=>⟨hb,h2 b ?_⟩⟩
  intro he;subst he;rw [htag] at hb;simp at hb
 refine ⟨hst.turn hro (fun i hi=>?_) (.inl (.inr (.inr (.inr (.inl ⟨kt,vt,m,m',hobj,rfl,rfl⟩))))) ⟨es,ck,h1,htag,hkr,hvr,hm.kept hro⟩ (fun b hb=>?_),⟨rfl,rfl,rfl,Nat.le_refl _,by simp,fun b _ hb=>⟨h2 b ?_,rfl⟩⟩,fun n hn=>?_⟩
 ·refine ⟨⟨fun q=>rfl,fun q b hb=>⟨hb,h2 b ?_⟩⟩,rfl,fun hb=>⟨hb,h2 _ ?_⟩⟩
  ·intro he;subst he;rw [htag] at hb;simp at hb
  ·intro he;rw [he,htag] at hb;simp only [Tag.box.injEq] at hb;exact hi hb.symm
 ·have:=hst.heap.tags b hb;simpa using this
 ·intro he;subst he;rw [htag] at hb;simp at hb
 ·refine Fresh.turn (g:=g) (fun b=>.inl rfl) ?_ (by simp) hn
  intro heq;subst heq
  have:=hn.objs;rw [hobj] at this;simp at this
theorem op_mapUpdate (hmt:MtOK P c.mt) {t:TypeId} {x i y:Operand} (ho:o.op = .mapUpdate t x i y) (hst:StOK c.ntmps g w a σ) (h:opK0 c σ base o k=some r) (hK:Post c.ntmps k r g w σ base true K):o.wp P a w K Q:=by
 simp only [opK0,ho] at h
 split at h
 ·rename_i av bv vv hx hi hy hdst
  obtain ⟨id,kt,vt,m,rfl,hmt',hobj,hkt,hvt,h⟩:=mapK_some h
  obtain ⟨KT,E,hund,hkT,hvT,_⟩:=hmt _ _ _ hmt'
  cases hb:(bv.val && vv.val) with
  | false=>rw [hb] at h;simp at h
  | true=>
   rw [hb] at h
   simp only [cond_true] at h
   simp only [Bool.and_eq_true] at hb
   obtain ⟨key,kcs,h,hkr,hev⟩:=key_data hst (keyTy_noSl hkt) hb.1 hi h
   obtain ⟨d,dcs,h,hdr,hevd⟩:=key_data hst hvt hb.2 hy h
   obtain ⟨es,ck,hblk,htag,_,_,hrep⟩:=hst.heap.objs _ _ hobj
   have hv:=VOK_mref (ev_ok hst hx).1 hobj
   have hkd:=key_under hkt hkT
   have hik:=key_isKey hkt hkr
   have hg:(getObj (g.blk id)).run P w = .ok (.map es ck) w:=by simp [getObj,Sem.run,hblk]
   have hset:∀ ob,(setObj (g.blk id) ob).run P w = .ok () { w with heap:=w.heap.setIfInBounds (g.blk id) ob }:=fun ob=>by simp [setObj,Sem.run,hblk]
   have hck:=run_checkKey (P:=P) (w:=w) hkd hik false 9999
   have key:∃ es' ck',(Instr.mapUpdate t (.map (some (g.blk id))) (mkV kt.sk.isAgg kcs) (mkV vt.sk.isAgg dcs)).run P w = .ok () { w with heap:=w.heap.setIfInBounds (g.blk id) (.map es' ck') }∧MapRep w g kt vt es'.toList (mput (keyEq kt) m key d):=by
    rcases find_ok hkt hkr hrep with ⟨f1,f2,f3⟩ | ⟨j,e,v,cs,f1,f2,f3,f4,f5,f6,f7⟩
    ·have hfk:=run_findKey (P:=P) (w:=w) hkd f1
     refine ⟨es.push ⟨mkV kt.sk.isAgg kcs,mkV vt.sk.isAgg dcs,ck⟩,ck+1,?_,?_⟩
     ·simp [Instr.mapUpdate,run_underlying hund,hg,hck,hfk,hset]
     ·rw [Array.toList_push];exact f3 d dcs ck hdr
    ·have hfk:=run_findKey (P:=P) (w:=w) hkd f1
     have hks:=run_keyThatStays (P:=P) (w:=w) hik
     have hej:es[j]? = some e:=by rw [←Array.getElem?_toList];exact f2
     refine ⟨es.modify j fun e=>{ e with key:=mkV kt.sk.isAgg kcs,val:=mkV vt.sk.isAgg dcs },ck,?_,?_⟩
     ·simp [Instr.mapUpdate,run_underlying hund,hg,hck,hfk,hset,hej,f3,hks]
     ·rw [Array.toList_modify];exact f7 d dcs hdr
   obtain ⟨es',ck',hrun,hrep'⟩:=key
   obtain ⟨hst',hext,hfr⟩:=map_turn (ck:=ck') hst hobj hrep'
   refine wp_skip hdst ?_ hst' hext (fun n _ hn=>hfr n hn) rfl h (fun h=>Bool.noConfusion h) hK
   simp only [execOp,ho,hv,hev,hevd]
   simp [hrun]
 ·simp at h
theorem run_slice {t E:TypeId} {s:Nat} (hund:P.underlying t=some (.slice E)) (hs:(sizeOf E).run P w = .ok s w) (ad:Option Addr) (len cap:Nat) (lo hi:Option Value) (l h:Int) (hlc:len≤cap)
  (hlo:(lo=none∧l=0)∨∃ k,lo=some (.int k l)) (hhi:(hi=none∧h=len)∨∃ k,hi=some (.int k h)) (h0:0≤l) (h1:l≤h) (h2:h≤(len:Int)) :
  (Instr.sliceAt t (.slice ad len cap) lo hi none).run P w = .ok (.slice (if cap-l.toNat=0 then ad else ad.map (·.add (l.toNat*s))) (h-l).toNat (cap-l.toNat)) w:=by
 have hb:∀ k code,(Instr.sliceBound (.int k h) cap code).run P w = .ok h.toNat w:=fun k code=>run_sliceBound w k h cap code (by omega) (by omega)
 have hb2:∀ (k:IntKind) code (y:Nat),l≤(y:Int)→(Instr.sliceBound (.int k l) y code).run P w = .ok l.toNat w:=fun k code y hy=>run_sliceBound w k l y code h0 hy
 have e1:(cap=l.toNat)=(cap-l.toNat=0):=propext (by constructor <;> omega)
 have e2:h.toNat-l.toNat=(h-l).toNat:=by omega
 have e3:len-l.toNat=((len:Int)-l).toNat:=by omega
 rcases hlo with ⟨rfl,rfl⟩ | ⟨k,rfl⟩ <;> rcases hhi with ⟨rfl,rfl⟩ | ⟨k',rfl⟩
 ·simp [Instr.sliceAt,Instr.slice,Instr.sliceBounds,run_underlying hund,hs]
 ·simp [Instr.sliceAt,Instr.slice,Instr.sliceBounds,run_underlying hund,hs,hb]
 ·have:=hb2 k .sliceB len (by omega)
  simp [Instr.sliceAt,Instr.slice,Instr.sliceBounds,run_underlying hund,hs,this,e1,e3]
 ·have:=hb2 k .sliceB h.toNat (by omega)
  simp [Instr.sliceAt,Instr.slice,Instr.sliceBounds,run_underlying hund,hs,hb,this,e1,e2]
theorem evI_ok {σ:St} (hst:StOK c.ntmps g w a σ) {x:Option Operand} {n:Option Int} (h:evI σ x=some n):(x.map a.eval=none∧n=none)∨∃ k i,x.map a.eval=some (.int k i)∧n=some i:=by
 cases x with
 | none=>simp only [evI,Option.some.injEq] at h;exact .inl ⟨rfl,h.symm⟩
 | some x=>
  simp only [evI] at h
  split at h
  ·rename_i k i hx
   simp only [Option.some.injEq] at h
   exact .inr ⟨k,i,by simp [(VOK_int (ev_ok hst hx).1).1],h.symm⟩
  ·simp at h
theorem op_slice (htt:TtOK P c.tt) {t:TypeId} {x:Operand} {lo hi:Option Operand} (ho:o.op = .slice t x lo hi none) (hst:StOK c.ntmps g w a σ) (h:opK0 c σ base o k=some r):Yield P o a w g σ c k r:=by
 simp only [opK0,ho] at h
 split at h
 ·rename_i av ow u l hn hx hu hlo hhi
  have hT:=htt _ _ hu
  simp only [TyOK] at hT
  obtain ⟨⟨E,hund,hE⟩,_⟩:=hT
  obtain ⟨ex,ef⟩:=ev_ok hst hx
  clear ef
  have hlo':(lo.map a.eval=none∧l.getD 0=0)∨∃ k,lo.map a.eval=some (.int k (l.getD 0)):=by
   rcases evI_ok hst hlo with ⟨h1,rfl⟩ | ⟨k,i,h1,rfl⟩
   ·exact .inl ⟨h1,rfl⟩
   ·exact .inr ⟨k,h1⟩
  have hhi':∀ n:Nat,(hi.map a.eval=none∧hn.getD (n:Int)=n)∨∃ k,hi.map a.eval=some (.int k (hn.getD (n:Int))):=fun n=>by
   rcases evI_ok hst hhi with ⟨h1,rfl⟩ | ⟨k,i,h1,rfl⟩
   ·exact .inl ⟨h1,rfl⟩
   ·exact .inr ⟨k,h1⟩
  have hsz:∀ w',(sizeOf E).run P w' = .ok u.size w':=hE.info.sizeOf
  unfold sliceK at h
  split at h
  ·-- nil
   have hv:=VOK_nil.1 ex
   obtain ⟨hc,h⟩:=chk_some h
   simp only [Bool.and_eq_true,decide_eq_true_eq] at hc
   refine yld (v:=.slice none 0 0) (fun w' _=>?_) (VOK_nil.2 rfl) (fun m _=>by simp [AVal.ids]) h
   have:=run_slice (w:=w') hund (hsz w') none 0 0 _ _ (l.getD 0) (hn.getD ((0:Nat):Int)) (Nat.le_refl _) hlo' (hhi' 0) (by omega) (by simp;omega) (by simp;omega)
   simp only [execOp,ho,hv,Option.map_none]
   rw [hc.1] at this
   simp only [Int.ofNat_zero] at this
   rw [show hn.getD 0=0 from hc.2] at this
   simp [this]
  ·-- read-only data
   rename_i t' d
   cases hs:t'.sk.same u.sk with
   | false=>rw [hs] at h;simp at h
   | true=>
    rw [hs] at h
    have hsk:=Sk.same_eq hs
    have hus:u.size=t'.size:=by rw [←Ty.sk_size,←Ty.sk_size,hsk]
    simp only [cond_true] at h
    obtain ⟨hc,h⟩:=chk_some h
    simp only [Bool.and_eq_true,decide_eq_true_eq] at hc
    obtain ⟨⟨c0,c1⟩,c2⟩:=hc
    simp only [VOK] at ex
    obtain ⟨cs,⟨hro,ad,cap,rfl,h1,h2,h3⟩,hv⟩:=ex
    have hv':a.eval x = .slice ad (List.length d) cap:=hv
    have hlen:=sub_length d (l.getD 0) (hn.getD (List.length d:Int)) c0 c1 c2
    refine yld (v:=.slice (if cap-(l.getD 0).toNat=0 then ad else ad.map (·.add ((l.getD 0).toNat*u.size))) (hn.getD (List.length d:Int)-l.getD 0).toNat (cap-(l.getD 0).toNat)) (fun w' _=>?_) ?_ (fun m _=>by simp [AVal.ids]) h
    ·have:=run_slice (w:=w') hund (hsz w') ad (List.length d) cap _ _ (l.getD 0) (hn.getD (List.length d:Int)) h1 hlo' (hhi' _) c0 c1 c2
     simp only [execOp,ho,hv',Option.map_none]
     simp [this]
    ·have hln:(sub d (l.getD 0) (hn.getD (List.length d:Int))).length=(hn.getD (List.length d:Int)-l.getD 0).toNat:=by rw [hlen];omega
     refine ⟨_,⟨hro,_,cap-(l.getD 0).toNat,rfl,by rw [hln];omega,by omega,fun hne=>?_⟩,by rw [hln];rfl⟩
     have hpos:0 < (hn.getD (List.length d:Int)-l.getD 0).toNat:=by rw [←hln];exact List.length_pos_iff.2 hne
     have hdn:d≠[]:=by intro he;subst he;simp at c2 hpos;omega
     obtain ⟨b,off,cc,e,fz,rfl,htag,hcell,hsz',hel⟩:=h3 hdn
     refine ⟨b,off+(l.getD 0).toNat*t'.size,cc,e,fz,?_,htag,hcell,?_,fun i hi=>?_⟩
     ·rw [if_neg (by omega)]
      simp only [Option.map_some,Addr.add_lit,hus]
     ·rw [hln]
      have:(hn.getD (List.length d:Int)-l.getD 0).toNat+(l.getD 0).toNat≤List.length d:=by omega
      have:=Nat.mul_le_mul_right t'.size this
      rw [Nat.add_mul] at this
      omega
     ·have hi3:(l.getD 0).toNat+i < List.length d:=by rw [hln] at hi;omega
      have hg:=sub_get d (l.getD 0) (hn.getD (List.length d:Int)) i hi hi3
      rw [hg]
      have e1:off+(l.getD 0).toNat*t'.size+i*t'.size=off+((l.getD 0).toNat+i)*t'.size:=by rw [Nat.add_mul];omega
      rw [e1]
      exact hel _ hi3
  ·-- an owned row
   rename_i id ep
   obtain ⟨t',d,hobj,_,hro,h⟩:=fetch_ok hst.heap h
   cases hs:t'.sk.same u.sk with
   | false=>rw [hs] at h;simp at h
   | true=>
    rw [hs] at h
    have hsk:=Sk.same_eq hs
    have hus:u.size=t'.size:=by rw [←Ty.sk_size,←Ty.sk_size,hsk]
    simp only [cond_true] at h
    obtain ⟨hc,h⟩:=chk_some h
    simp only [Bool.and_eq_true,decide_eq_true_eq] at hc
    obtain ⟨⟨c0,c1⟩,c2⟩:=hc
    simp only [VOK] at ex
    obtain ⟨cs,⟨v,rfl,hone,hv⟩,hv'⟩:=ex
    have e1:=(hv _ _ _ hobj).2 rfl
    obtain ⟨_,ad,cap,_,hsv,h1,h2,_⟩:=hst.heap.objs _ _ hobj
    have hvx:a.eval x = .slice ad (List.length d) cap:=by rw [hv'];show v=_;rw [e1,hsv]
    refine yld (v:=subSlice (g.sv id []) t'.size (l.getD 0) (hn.getD (List.length d:Int))) (fun w' _=>?_) ?_ (fun m hm=>?_) h
    ·have:=run_slice (w:=w') hund (hsz w') ad (List.length d) cap _ _ (l.getD 0) (hn.getD (List.length d:Int)) h1 hlo' (hhi' _) c0 c1 c2
     simp only [execOp,ho,hvx,Option.map_none,hsv,subSlice]
     rw [hus] at this
     simp [this]
    ·simp only [VOK]
     refine ⟨[subSlice (g.sv id []) t'.size (l.getD 0) (hn.getD (List.length d:Int))],⟨_,rfl,by rw [hsv];rfl,fun t2 l2 e2 ho2=>?_⟩,rfl⟩
     rw [hobj] at ho2
     simp only [Option.some.injEq,Obj.row.injEq] at ho2
     obtain ⟨rfl,hl2,rfl⟩:=ho2
     have hl2:=eq_of_heq hl2
     subst hl2
     exact ⟨Nat.le_refl _,fun _=>⟨rfl,c0,c1,c2,rfl⟩⟩
    ·simp only [AVal.ids,List.mem_singleton]
     intro he;subst he
     have:=hm.objs;rw [hobj] at this;simp at this
  ·simp at h
 ·simp at h
theorem run_slice3 {t E:TypeId} {s:Nat} (hund:P.underlying t=some (.slice E)) (hs:(sizeOf E).run P w = .ok s w) (ad:Option Addr) (len cap:Nat) (kh km:IntKind) (h m:Int) (h0:0≤h) (h1:h≤m) (h2:m≤(cap:Int)) :
  (Instr.sliceAt t (.slice ad len cap) none (some (.int kh h)) (some (.int km m))).run P w = .ok (.slice (if m.toNat=0 then ad else ad.map (·.add (0*s))) h.toNat m.toNat) w:=by
 have hb:∀ code,(Instr.sliceBound (.int km m) cap code).run P w = .ok m.toNat w:=fun code=>run_sliceBound w km m cap code (by omega) (by omega)
 have hb2:∀ code,(Instr.sliceBound (.int kh h) m.toNat code).run P w = .ok h.toNat w:=fun code=>run_sliceBound w kh h m.toNat code h0 (by omega)
 simp [Instr.sliceAt,Instr.slice,Instr.sliceBounds,run_underlying hund,hs,hb,hb2]
theorem op_slice3 (htt:TtOK P c.tt) {t:TypeId} {x:Operand} {lo hi:Option Operand} {mx:Operand} (ho:o.op = .slice t x lo hi (some mx)) (hst:StOK c.ntmps g w a σ) (h:opK0 c σ base o k=some r)
  (hK:Post c.ntmps k r g w σ base mo K):o.wp P a w K Q:=by
 cases lo with
 | some lo=>simp [opK0,ho] at h
 | none=>
 cases hi with
 | none=>simp [opK0,ho] at h
 | some hi=>
 simp only [opK0,ho] at h
 split at h
 ·rename_i id ep kh hn km m ow u hx hhi hmx hu
  split at h
  ·rename_i t' l e hobj
   cases hb:(Nat.beq e ep && t'.sk.same u.sk) with
   | false=>rw [hb] at h;simp at h
   | true=>
    rw [hb] at h
    simp only [cond_true] at h
    simp only [Bool.and_eq_true] at hb
    have hee:=Nat.eq_of_beq_eq_true hb.1
    subst hee
    have hsk:=Sk.same_eq hb.2
    have hus:u.size=t'.size:=by rw [←Ty.sk_size,←Ty.sk_size,hsk]
    obtain ⟨hc,h⟩:=chk_some h
    simp only [Bool.and_eq_true,decide_eq_true_eq] at hc
    obtain ⟨⟨c0,c1⟩,c2⟩:=hc
    have c0:@LE.le Int Int.instLEInt 0 hn:=c0
    have c1:@LE.le Int Int.instLEInt hn m:=c1
    have c2:@LE.le Int Int.instLEInt m (l.length:Int):=c2
    have hT:=htt _ _ hu
    simp only [TyOK] at hT
    obtain ⟨⟨E,hund,hE⟩,_⟩:=hT
    obtain ⟨ex,ef⟩:=ev_ok hst hx
    obtain ⟨vh,_⟩:=VOK_int (ev_ok hst hhi).1
    obtain ⟨vm,_⟩:=VOK_int (ev_ok hst hmx).1
    simp only [VOK] at ex
    obtain ⟨cs,⟨v,rfl,hone,hv⟩,hv'⟩:=ex
    have e1:=(hv _ _ _ hobj).2 rfl
    obtain ⟨hro,ad,cap,_,hsv,hlc,hcm,hrow⟩:=hst.heap.objs _ _ hobj
    have hv2:a.eval x = .slice ad l.length cap:=by rw [←hsv,←e1];exact hv'
    have hlen:(sub l 0 hn).length=hn.toNat:=by rw [sub_length l 0 hn (Int.le_refl 0) c0 (by omega)];simp
    have hrun:=run_slice3 (P:=P) (w:=w) hund (hE.info.sizeOf w) ad l.length cap kh km hn m c0 c1 (by omega)
    have hok:ObjOK w (svG g id (.slice (if m.toNat=0 then ad else ad.map (·.add (0*u.size))) hn.toNat m.toNat)) (σ.setObj id (.row t' (sub l 0 hn) (e+1))).objs id (.row t' (sub l 0 hn) (e+1)):=by
     refine ⟨hro,(if m.toNat=0 then ad else ad.map (·.add (0*u.size))),m.toNat,by rw [hlen];simp [svG],by rw [hlen];simp [svG],by rw [hlen];omega,by omega,?_⟩
     rcases hrow with ⟨rfl,hl,rfl⟩ | ⟨b,off,c',ee,rfl,htag,hcell,hsz,hel⟩
     ·left
      rw [hl] at c2
      simp only [List.length_nil] at c2
      exact ⟨by simp,List.eq_nil_of_length_eq_zero (by rw [hlen];omega),by omega⟩
     ·right
      have hmul:m.toNat*t'.size≤cap*t'.size:=Nat.mul_le_mul_right _ (by omega)
      refine ⟨b,off,c',ee,by split <;> simp [Addr.add],htag,hcell,by omega,fun i hi=>?_⟩
      have hi':i < (sub l 0 hn).length:=hi
      have hi3:(0:Int).toNat+i < l.length:=by simp;omega
      have:=Rep.anyOwn (o':=none) hro (hel ((0:Int).toNat+i) hi3)
      have hg:=sub_get l 0 hn i hi' hi3
      refine Rep.anyOwn hro (o:=none) ?_
      have h2:(sub l 0 hn).get ⟨i,hi'⟩=l.get ⟨(0:Int).toNat+i,hi3⟩:=hg
      show Rep w _ none t' ((sub l 0 hn).get ⟨i,hi'⟩) _
      rw [h2]
      have e0:(0:Int).toNat+i=i:=by simp
      have:=Rep.kept (show RoKept w g w (svG g id (.slice (if m.toNat=0 then some ⟨b,off,none⟩ else (some ⟨b,off,none⟩:Option Addr).map (·.add (0*u.size))) hn.toNat m.toNat)) from ⟨fun b hb=>⟨hb,rfl⟩⟩) this
      simpa [e0] using this
    obtain ⟨h1,h2,h3⟩:=svG_turn hst hobj (Nat.lt_succ_self e) hok
    refine wp_done (v:=.slice (if m.toNat=0 then ad else ad.map (·.add (0*u.size))) hn.toNat m.toNat) (g:=g) (base:=base) ?_ h1 h2 (fun n _ hfn=>⟨h3 n hfn,by simp only [AVal.ids,List.mem_singleton];intro he;subst he;have:=hfn.objs;rw [hobj] at this;simp at this⟩) rfl ?_ h (fun _=>Agree.refl w) hK
    ·simp only [execOp,ho,hv2,vh,vm,Option.map_some,Option.map_none]
     simp [hrun]
    ·exact VOK_ref (u:=t') (l:=sub l 0 hn) (by simp [St.setObj,upd_same]) (by simp [svG]) rfl
  ·simp at h
 ·simp at h
end
end Go.Kz
namespace Go.Kz
variable {R:Type}
def EqsOK (P : Program) (eqs : Nat → Bool) : Prop := ∀ T, eqs T = true → P.stoodInHeld T = false ∧ P.eqGuardType P.depth T = false ∧ ∀ fs, P.underlying T = some (.struct fs) → ∀ f ∈ fs.toList, f.name ≠ "_"
def eqsB (P:Program):List Nat→Bool
 | []=>true
 | T :: l=>(!P.stoodInHeld T && !P.eqGuardType P.depth T && (match P.underlying T with
  | some (.struct fs) => fs.toList.all fun f => !(f.name == "_")
  | some (.array _ _)=>true
  | _=>false)) && eqsB P l
theorem eqsB_ok {P:Program}:{l:List Nat}→eqsB P l=true→EqsOK P (fun T=>memN T l)
 | [],_,_,h=>by simp [memN] at h
 | T :: l,hb,T',h=>by
  simp only [eqsB,Bool.and_eq_true,Bool.not_eq_true'] at hb
  simp only [memN] at h
  cases he:Nat.beq T T' with
  | false=>rw [he] at h;exact eqsB_ok hb.2 T' h
  | true=>
   obtain rfl:=Nat.eq_of_beq_eq_true he
   refine ⟨hb.1.1.1,hb.1.1.2,?_⟩
   have h1:=hb.1.2
   split at h1
   ·rename_i fs hu
    intro fs' hu' f hf
    rw [hu] at hu'
    cases hu'
    have:=List.all_eq_true.1 h1 f hf
    simpa using this
   ·rename_i hu
    intro fs' hu'
    rw [hu] at hu'
    cases hu'
   ·simp at h1
theorem eqIn_key {P:Program} {w w':World} {g:Ghost} {t:Ty} {T:TypeId} {d e:t.den} {cs es:List Value} (D:Nat) (hk:keyTy t=true) (hT:TyOK P t T) (h:Rep w g none t d cs) (h':Rep w g none t e es) :
  ∃ u v,cs=[u]∧es=[v]∧(Op.equalIn (D+1) T u v).run P w' = .ok (keyEq t d e) w':=by
 cases t <;> simp [keyTy] at hk <;> simp only [TyOK] at hT
 ·obtain ⟨rfl,_⟩:=h
  obtain ⟨rfl,_⟩:=h'
  refine ⟨_,_,rfl,rfl,?_⟩
  rw [run_equalIn_int w' D T _ _ _ _ hT.1]
  congr 1
 ·cases h;cases h'
  exact ⟨_,_,rfl,rfl,run_equalIn_bool w' D T _ _ hT.1⟩
 ·obtain ⟨s,rfl,hs,_⟩:=h
  obtain ⟨s',rfl,hs',_⟩:=h'
  refine ⟨_,_,rfl,rfl,?_⟩
  rw [run_equalIn_string w' D T _ _ hT.1,ByteArray.toList_eq,ByteArray.toList_eq]
  congr 1
  rw [Bool.eq_iff_iff]
  simp [keyEq,hs,hs']
theorem eqFields_ok {P : Program} {w w' : World} {g : Ghost} (D : Nat) {xs ys : Array Value} : {t : Ty} → {fs : List Field} → {off : Nat} → {d e : t.den} → {cs es : List Value} → eqTy t = true → FsOK P t fs off → (∀ f ∈ fs, f.name ≠ "_") →
  Rep w g none t d cs→Rep w g none t e es→xs.toList.drop off=cs→ys.toList.drop off=es→(Op.eqFields (D+1) xs ys fs).run P w' = .ok (eqD t d e) w'
 | .unit,[],off,d,e,cs,es,_,_,_,_,_,_,_=>by simp [Op.eqFields,eqD]
 | .unit,_ :: _,off,d,e,cs,es,_,hf,_,_,_,_,_=>by simp [FsOK] at hf
 | .pair a b,[],off,d,e,cs,es,_,hf,_,_,_,_,_=>by simp [FsOK] at hf
 | .pair a b,f :: fs,off,(x,u),(y,v),cs,es,ht,hf,hn,h,h',hx,hy=>by
  simp only [eqTy,Bool.and_eq_true] at ht
  simp only [FsOK] at hf
  obtain ⟨c1,c2,rfl,h1,h2⟩:=h
  obtain ⟨e1,e2,rfl,h3,h4⟩:=h'
  obtain ⟨p,q,rfl,rfl,hrun⟩:=eqIn_key (w':=w') D ht.1 hf.2.1 h1 h3
  have hsz:a.size=1:=by have:=h1.len;simpa using this.symm
  have hpl:P.plainKey f.type=true:=by
   have:=key_under ht.1 hf.2.1
   unfold Program.plainKey
   rw [this]
   have hk:=ht.1
   cases a <;> simp [keyTy] at hk <;> rfl
  have getx:xs[off]? = some p:=by
   have:(xs.toList.drop off)[0]? = some p:=by rw [hx];rfl
   rw [List.getElem?_drop] at this;simpa using this
  have gety:ys[off]? = some q:=by
   have:(ys.toList.drop off)[0]? = some q:=by rw [hy];rfl
   rw [List.getElem?_drop] at this;simpa using this
  have hxt:xs.toList.drop (off+a.size)=c2:=by
   rw [hsz,←List.drop_drop,hx];rfl
  have hyt:ys.toList.drop (off+a.size)=e2:=by
   rw [hsz,←List.drop_drop,hy];rfl
  have ih:=eqFields_ok (w':=w') D ht.2 hf.2.2 (fun f hf=>hn f (by simp [hf])) h2 h4 hxt hyt
  have hn0 : f.name ≠ "_" := hn f (by simp)
  have p1:=run_part_plain w' hpl getx
  have p2:=run_part_plain w' hpl gety
  simp only [Op.eqFields,hf.1,hn0,ne_eq,not_false_eq_true,if_true,Sem.run_bind,p1,p2,hrun,Result.andThen_ok]
  simp only [eqD]
  cases keyEq a x y with
  | false=>simp
  | true=>simpa using ih
 | .int _,_,_,_,_,_,_,ht,_,_,_,_,_,_=>by simp [eqTy] at ht
 | .bool,_,_,_,_,_,_,ht,_,_,_,_,_,_=>by simp [eqTy] at ht
 | .str,_,_,_,_,_,_,ht,_,_,_,_,_,_=>by simp [eqTy] at ht
 | .arr _ _,_,_,_,_,_,_,_,hf,_,_,_,_,_=>by simp [FsOK] at hf
 | .sl _ _,_,_,_,_,_,_,ht,_,_,_,_,_,_=>by simp [eqTy] at ht
 | .ptr _,_,_,_,_,_,_,ht,_,_,_,_,_,_=>by simp [eqTy] at ht
 | .fn _ _,_,_,_,_,_,_,ht,_,_,_,_,_,_=>by simp [eqTy] at ht
theorem eqTy_noSl:{t:Ty}→eqTy t=true→t.noSl=true
 | .unit,_=>rfl
 | .pair a b,h=>by
  simp only [eqTy,Bool.and_eq_true] at h
  simp only [Ty.noSl,keyTy_noSl h.1,eqTy_noSl h.2,Bool.and_self]
 | .int _,h=>by simp [eqTy] at h
 | .bool,h=>by simp [eqTy] at h
 | .str,h=>by simp [eqTy] at h
 | .arr _ a,h=>by
  simp only [eqTy] at h
  simp only [Ty.noSl,keyTy_noSl h]
 | .sl _ _,h=>by simp [eqTy] at h
 | .ptr _,h=>by simp [eqTy] at h
 | .fn _ _,h=>by simp [eqTy] at h
section
variable {P:Program} {o:Oper} {a:Act} {w:World} {c:Ctx} {σ:St} {g:Ghost} {k:St→Option R} {r:R} {base:Nat}
theorem eqItems_ok {w':World} (D:Nat) {xs ys:Array Value} {t:Ty} {E:TypeId} (hk:keyTy t=true) (hE:TyOK P t E):(l m:List t.den)→(j:Nat)→l.length=m.length→
  (∀ (i:Nat) (h:i < l.length),Rep w g none t (l.get ⟨i,h⟩) (seg xs.toList (j+i) 1))→(∀ (i:Nat) (h:i < m.length),Rep w g none t (m.get ⟨i,h⟩) (seg ys.toList (j+i) 1))→
  (Op.eqItems (D+1) E 1 xs ys (List.range' j l.length)).run P w' = .ok (listEq (keyEq t) l m) w'
 | [],[],j,_,_,_=>by simp [Op.eqItems,listEq]
 | x :: l,y :: m,j,hl,hx,hy=>by
  have ih:=eqItems_ok (w':=w') D hk hE l m (j+1) (by simpa using hl) (fun i h=>by
   have:=hx (i+1) (by simpa using h)
   rw [show j+1+i=j+(i+1) from by omega];exact this) (fun i h=>by
   have:=hy (i+1) (by simpa using h)
   rw [show j+1+i=j+(i+1) from by omega];exact this)
  have h1:=hx 0 (by simp)
  have h2:=hy 0 (by simp)
  simp only [Nat.add_zero] at h1 h2
  obtain ⟨p,q,e1,e2,hrun⟩:=eqIn_key (w':=w') D hk hE h1 h2
  have getx:xs[j]? = some p:=by
   have:=congrArg (fun l=>l[0]?) e1
   simpa [seg] using this
  have gety:ys[j]? = some q:=by
   have:=congrArg (fun l=>l[0]?) e2
   simpa [seg] using this
  have hpl:P.plainKey E=true:=by
   have:=key_under hk hE
   unfold Program.plainKey
   rw [this]
   cases t <;> simp [keyTy] at hk <;> rfl
  have p1:=run_part_plain w' hpl getx
  have p2:=run_part_plain w' hpl gety
  have hrun':(Op.equalIn (D+1) E p q).run P w' = .ok (keyEq t x y) w':=hrun
  simp only [List.length_cons,List.range'_succ,Op.eqItems,Nat.mul_one,Sem.run_bind,p1,p2,hrun',Result.andThen_ok,listEq]
  cases keyEq t x y with
  | false=>simp
  | true=>simpa using ih
 | [],_ :: _,_,hl,_,_=>by simp at hl
 | _ :: _,[],_,hl,_,_=>by simp at hl
theorem op_binOp' (htt:TtOK P c.tt) (heq:EqsOK P c.eqs) {op:BinOp} {t t':TypeId} {x y:Operand} (ho:o.op = .binOp op t x y t') (hst:StOK c.ntmps g w a σ) (h:opK0 c σ base o k=some r):Yield P o a w g σ c k r:=by
 refine op_binOp htt (fun ax ay hx hy u htu h=>?_) ho hst h
 cases hb:(c.eqs t && eqTy u && ax.val && ay.val) with
 | false=>rw [hb] at h;simp at h
 | true=>
  rw [hb] at h
  simp only [cond_true] at h
  simp only [Bool.and_eq_true] at hb
  obtain ⟨⟨⟨hq,hty⟩,hvx⟩,hvy⟩:=hb
  have hno:=eqTy_noSl hty
  obtain ⟨d,cs,h,hr,hev⟩:=key_data hst hno hvx hx h
  obtain ⟨e,es,h,hr',hev'⟩:=key_data hst hno hvy hy h
  have hT:=htt _ _ htu
  obtain ⟨hs,hgd,hnm⟩:=heq _ hq
  have hag:u.sk.isAgg=true:=by
   cases u <;> simp [eqTy] at hty <;> first | rfl | (simp only [TyOK] at hT)
  have hrun:∀ w',(Op.equal t (.agg cs.toArray) (.agg es.toArray)).run P w' = .ok (eqD u d e) w':=fun w'=>by
   show (Op.equalIn (9999+1) t _ _).run P w'=_
   cases u with
   | pair ta tb=>
    simp only [TyOK] at hT
    obtain ⟨⟨fs,hu,hfs⟩,_⟩:=hT
    have hfo:P.fieldsOf t=fs:=by simp [Program.fieldsOf,hu]
    rw [run_equalIn_struct w' 9999 t _ _ (by rw [hfo];exact hu) hs,hfo]
    exact eqFields_ok 9998 hty hfs (hnm fs hu) hr hr' (by simp) (by simp)
   | arr n ta=>
    simp only [eqTy] at hty
    simp only [TyOK] at hT
    obtain ⟨⟨E,hu,hE⟩,_⟩:=hT
    obtain ⟨i,z,hi,hsz,_⟩:=hE.info.info
    have hs1:ta.size=1:=by cases ta <;> simp [keyTy] at hty <;> rfl
    have hce:P.cellsOf E=1:=by simp [Program.cellsOf,hi,hsz,hs1]
    rw [run_equalIn_array w' 9999 _ _ hu hi,hce]
    obtain ⟨l1,l2,l3⟩:=hr
    obtain ⟨m1,m2,m3⟩:=hr'
    have:=eqItems_ok (P:=P) (w:=w) (g:=g) (w':=w') 9998 (xs:=cs.toArray) (ys:=es.toArray) hty hE d e 0 (l1.trans m1.symm) (fun i h=>by
     have:=l3 i h
     rw [hs1,Nat.mul_one] at this
     simpa [stp] using this) (fun i h=>by
     have:=m3 i h
     rw [hs1,Nat.mul_one] at this
     simpa [stp] using this)
    rw [List.range_eq_range',←l1]
    exact this
   | unit=>simp only [TyOK] at hT
   | int _=>simp [eqTy] at hty
   | bool=>simp [eqTy] at hty
   | str=>simp [eqTy] at hty
   | sl _ _=>simp [eqTy] at hty
   | ptr _=>simp [eqTy] at hty
   | fn _ _=>simp [eqTy] at hty
  have ex:a.eval x = .agg cs.toArray:=by rw [hev];simp [mkV,hag]
  have ey:a.eval y = .agg es.toArray:=by rw [hev'];simp [mkV,hag]
  refine wp_plain (f:=fun v=>σ.putK c o.dst v k) (s:=binOp op t (.agg cs.toArray) (.agg es.toArray)) rfl ?_
   (fun w v hv=>by simp [execOp,ho,ex,ey,run_eqGuard_agg w op t x y _ _ hgd,hv])
  cases op <;> simp only [eqRes] at h
  case eql=>exact Plain.bool h (fun w=>by simp only [binOp,Sem.run_bind,hrun,Result.andThen_ok,Sem.run_pure])
  case neq=>exact Plain.bool h (fun w=>by simp only [binOp,Sem.run_bind,hrun,Result.andThen_ok,Sem.run_pure])
  all_goals simp at h
end
end Go.Kz
namespace Go.Kz
variable {R:Type}
section
variable {P:Program} {o:Oper} {a:Act} {w:World} {c:Ctx} {σ:St} {g:Ghost} {k:St→Option R} {r:R} {base:Nat}
theorem run_partV {T:TypeId} {u:Ty} (hT:TyOK P u T) (cs:List Value) (off:Nat) (hs:off+u.size≤cs.length) (w:World) :
  (part T cs.toArray off).run P w = .ok (mkV u.sk.isAgg (seg cs off u.size)) w:=by
 have hag:=run_isAgg hT w
 unfold part
 rw [Sem.run_bind,hag]
 cases hu:u.sk.isAgg with
 | true=>
  have hsz:=hT.info.sizeOf w
  simp only [Result.andThen_ok,if_true,Sem.run_bind,hsz,Sem.run_pure]
  congr 1
  simp only [mkV,if_true,Value.agg.injEq]
  apply Array.toList_inj.1
  simp [seg,List.extract]
 | false=>
  have h1:u.size=1:=by cases u <;> simp [Ty.sk,Sk.isAgg] at hu <;> simp [Ty.size]
  have hlt:off < cs.length:=by omega
  have hg:cs.toArray[off]? = some cs[off]:=by simp [hlt]
  simp only [Result.andThen_ok,Bool.false_eq_true,if_false,hg,Sem.run_pure]
  congr 1
  simp only [mkV,Bool.false_eq_true,if_false,seg,h1]
  rw [List.drop_eq_getElem_cons hlt]
  rfl
theorem op_indexV (htt:TtOK P c.tt) {t:TypeId} {x i:Operand} (ho:o.op = .index t x i) (hst:StOK c.ntmps g w a σ) (h:opK0 c σ base o k=some r):Yield P o a w g σ c k r:=by
 simp only [opK0,ho] at h
 split at h
 ·rename_i n t' l ki j m u hx hi hu
  have hT:=htt _ _ hu
  obtain ⟨ex,ef⟩:=ev_ok hst hx
  obtain ⟨vi,_⟩:=VOK_int (ev_ok hst hi).1
  cases hs:(Nat.beq n m && t'.sk.same u.sk) with
  | false=>rw [hs] at h;simp at h
  | true=>
   rw [hs] at h
   simp only [Bool.and_eq_true] at hs
   have hnm:n=m:=Nat.eq_of_beq_eq_true hs.1
   subst hnm
   have hsk:=Sk.same_eq hs.2
   have hsz:u.size=t'.size:=by rw [←Ty.sk_size,←Ty.sk_size,hsk]
   simp only [cond_true,Option.bind_eq_some_iff] at h
   obtain ⟨d,hd,h⟩:=h
   obtain ⟨h0,hi',rfl,hlt⟩:=idx_some hd
   simp only [TyOK] at hT
   obtain ⟨⟨E,hund,hE⟩,_⟩:=hT
   simp only [VOK] at ex
   obtain ⟨cs,⟨hro,hl,hcl,hel⟩,hv⟩:=ex
   have hjn:j.toNat < n:=by rw [←hl];exact hi'
   have hmul:(j.toNat+1)*t'.size≤n*t'.size:=Nat.mul_le_mul_right _ hjn
   rw [Nat.add_mul] at hmul
   have hv':a.eval x = .agg cs.toArray:=by rw [hv];rfl
   have hjlt:(j:Int) < (n:Int):=by rw [←hl];exact hlt
   refine yld (v:=mkV u.sk.isAgg (seg cs (j.toNat*t'.size) u.size)) ?_ ?_ (fun m _=>by simp [AVal.ids]) h
   ·intro w' _
    have hsE:=hE.info.sizeOf w'
    have hp:=run_partV hE cs (j.toNat*u.size) (by rw [hsz];omega) w'
    rw [hsz] at hp hsE
    simp [execOp,ho,hv',vi,Instr.index,asIntOf,run_underlying hund,h0,hjlt,hsE,hp,hsz]
   ·simp only [VOK]
    refine ⟨seg cs (j.toNat*t'.size) t'.size,⟨by simpa [Ty.isRo] using hro,hel _ hi'⟩,by rw [hsz,←hsk];rfl⟩
 ·simp at h
theorem op_fieldV (htt:TtOK P c.tt) {t:TypeId} {x:Operand} {i:Nat} (ho:o.op = .field t x i) (hst:StOK c.ntmps g w a σ) (h:opK0 c σ base o k=some r):Yield P o a w g σ c k r:=by
 simp only [opK0,ho] at h
 split at h
 ·rename_i av u hx hu
  have hT:=htt _ _ hu
  obtain ⟨ex,ef⟩:=ev_ok hst hx
  cases hs:(av.val && av.sk.same u.sk && (tyAt u (fieldPath i)).isSome) with
  | false=>rw [hs] at h;simp at h
  | true=>
   rw [hs] at h
   simp only [cond_true] at h
   simp only [Bool.and_eq_true] at hs
   have hsk:=Sk.same_eq hs.1.2
   obtain ⟨hag,_,_,_⟩:=val_isAgg hs.1.1
   obtain ⟨cs,hok,hmk,_⟩:=VOK_valueCells hs.1.1 ex
   obtain ⟨av',off,h,hoff,hpart,hids⟩:=getA_rep hok h
   obtain ⟨xa,ya,rfl⟩:=tyAt_pair hs.2
   simp only [TyOK] at hT
   obtain ⟨⟨fs,hund,hfs⟩,_⟩:=hT
   obtain ⟨f,s,h1,h2,h3,o',h4,h5⟩:=field_ok hfs hs.2
   rw [hsk,h4] at hoff
   simp only [Option.some.injEq,Prod.mk.injEq] at hoff
   obtain ⟨rfl,hss⟩:=hoff
   have hf:fs[i]? = some f:=by rw [←Array.getElem?_toList];exact h1
   have ho2:f.offset=o':=by omega
   cases hb:av'.val with
   | false=>rw [hb] at h;simp at h
   | true=>
    rw [hb] at h
    simp only [cond_true] at h
    obtain ⟨hag',hn1,hn2,hn3⟩:=val_isAgg hb
    have hle:=Sk.off_le h4
    have hlen:=hok.len
    rw [hsk] at hlen
    rw [Ty.sk_size] at hle hlen
    rw [Ty.sk_size] at hle
    have hszs:s.size=av'.sk.size:=by rw [←hss,Ty.sk_size]
    have hv':a.eval x = .agg cs.toArray:=by rw [hmk,hag,hsk];rfl
    refine yld (v:=mkV s.sk.isAgg (seg cs o' s.size)) ?_ ?_ (fun m hm=>hids m (ef m hm)) h
    ·intro w' _
     have hp:=run_partV h3 cs o' (by omega) w'
     simp [execOp,ho,hv',Instr.field,run_underlying hund,hf,asAgg,ho2,hp]
    ·refine VOK_of_cells hpart ?_ hn1 hn2
     rw [hag',←hss,hszs,hss]
 ·simp at h
end
end Go.Kz
namespace Go.Kz
variable {R:Type}
theorem zeroCells_list (z:Array Value) (n:Nat) (hz:0 < z.size):(Builtin.zeroCells z n).toList=(List.replicate n z.toList).flatten:=by
 rw [←madeCells_list z n hz]
 congr 1
theorem clearL_length {α:Type} (z:α) (l:List α) (a b:Int):(clearL z l a b).length=l.length:=by simp [clearL]
theorem clearL_get {α:Type} (z:α) (l:List α) (a b:Int) (i:Nat) (h:i < (clearL z l a b).length) (h':i < l.length) :
  (clearL z l a b).get ⟨i,h⟩=if a≤(i:Int)∧(i:Int) < b then z else l.get ⟨i,h'⟩:=by
 simp [clearL,List.getD_eq_getElem?_getD,h']
theorem clearL_none {α:Type} (z:α) (l:List α) (a b:Int) (hab:b≤a):clearL z l a b=l:=by
 apply List.ext_getElem (clearL_length z l a b)
 intro i h1 h2
 have:=clearL_get z l a b i h1 h2
 simp only [List.get_eq_getElem] at this
 rw [this,if_neg (by omega)]
theorem setObj_self {σ:St} {id:Nat} {o:Obj} (h:σ.objs id=some o):σ.setObj id o=σ:=by
 cases σ
 simp only [St.setObj,St.mk.injEq,true_and]
 simp only at h
 refine ⟨?_,trivial⟩
 funext i
 by_cases hi:i=id
 ·subst hi;rw [upd_same,h]
 ·rw [upd_other _ _ hi]
section
variable {P:Program} {o:Oper} {a:Act} {w:World} {K:Act→World→Prop} {Q:Exit→Act→World→Prop} {c:Ctx} {σ:St} {g:Ghost} {k:St→Option R} {r:R} {base:Nat}
theorem run_clear_op {x:Operand} {args:Array Operand} {ts:Array TypeId} {t:TypeId} {v:Value} {w':World} (ho:o.op = .call { callee:=.builtin .clear,args:=args,argTypes:=ts }) (ha:args.toList=[x]) (ht:ts.toList=[t])
  (h:∀ ty,(Builtin.clear_ #[t] ty #[a.eval x]).run P w = .ok v w'):(execOp a.eval o).run P w = .ok (.value v) w':=by
 have e1:args = #[x]:=by apply Array.toList_inj.1;simpa using ha
 have e2:ts = #[t]:=by apply Array.toList_inj.1;simpa using ht
 subst e1;subst e2
 simp [execOp,ho,resolve,invoke,builtin,h]
theorem same_some {t u:Ty} (h:(Ty.same t u).isSome=true):t=u:=by
 cases hs:Ty.same t u with
 | none=>rw [hs] at h;simp at h
 | some e=>exact e.down
theorem row_clear {id:Nat} {t:Ty} {l:List t.den} {z:t.den} {e b off cap:Nat} {cc:Array Value} {ee:TypeId} {av bv:Int} (hro:t.isRo=true) (hz:t.zero=some z)
  (h0:0≤av) (hab:av≤bv) (hbl:bv≤(l.length:Int)) (hlc:l.length≤cap) (hcm:cap≤maxLen) (hsv:g.sv id [] = .slice (some ⟨b,off,none⟩) l.length cap)
  (htag:g.tag b = .row id []) (hcell:w.heap[b]? = some (.cells cc ee (0,0))) (hsz:off+cap*t.size≤cc.size)
  (hel:∀ (i:Nat) (h:i < l.length),Rep w g (some (id,[.idx i])) t (l.get ⟨i,h⟩) (seg cc.toList (off+i*t.size) t.size)) (objs:Objs) :
  ObjOK (w.setRow b (splice cc.toList (off+av.toNat*t.size) (List.replicate (bv-av).toNat (zeroCells t)).flatten).toArray) g objs id (.row t (clearL z l av bv) e):=by
 have hccl:cc.toList.length=cc.size:=Array.length_toList
 have hzl:(List.replicate (bv-av).toNat (zeroCells t)).flatten.length=(bv-av).toNat*t.size:=by rw [length_flatten_replicate,zeroCells_len]
 have hmul:(av.toNat+(bv-av).toNat)*t.size≤cap*t.size:=Nat.mul_le_mul_right _ (by omega)
 rw [Nat.add_mul] at hmul
 have hRo:RoKept w g (w.setRow b (splice cc.toList (off+av.toNat*t.size) (List.replicate (bv-av).toNat (zeroCells t)).flatten).toArray) g:=(setRow_rewrote (id:=id) _ (.inl ⟨[],htag⟩)).ro
 refine ⟨hro,some ⟨b,off,none⟩,cap,by rw [clearL_length,hsv],by rw [clearL_length,hsv],by rw [clearL_length];exact hlc,hcm,.inr ⟨b,off,_,ee,rfl,htag,setRow_heap w b cc _ ee _ hcell,?_,fun j hj=>?_⟩⟩
 ·rw [List.size_toArray,splice_length _ _ _ (by rw [hzl,hccl];omega),hccl];exact hsz
 ·have hj':j < l.length:=by rw [clearL_length] at hj;exact hj
  have hjcap:(j+1)*t.size≤cap*t.size:=Nat.mul_le_mul_right _ (by omega)
  rw [Nat.add_mul] at hjcap
  refine Rep.anyOwn hro (o:=none) ?_
  rw [clearL_get z l av bv j hj hj']
  by_cases hin:av≤(j:Int)∧(j:Int) < bv
  ·rw [if_pos hin]
   obtain ⟨m,hm⟩:∃ m,j=av.toNat+m:=⟨j-av.toNat,by omega⟩
   have hmm:m < (bv-av).toNat:=by omega
   have h3:(m+1)*t.size≤(bv-av).toNat*t.size:=Nat.mul_le_mul_right _ hmm
   rw [Nat.add_mul] at h3
   have e1:off+j*t.size=(off+av.toNat*t.size)+m*t.size:=by rw [hm,Nat.add_mul];omega
   rw [e1,seg_splice_inside _ _ _ _ _ (by rw [hzl];omega) (by rw [hzl,hccl];omega)]
   have:=seg_flatten_replicate (bv-av).toNat (zeroCells t) m hmm
   rw [zeroCells_len] at this
   rw [List.toList_toArray] at *
   rw [this]
   exact zero_rep hro hz
  ·rw [if_neg hin]
   have hold:=(Rep.anyOwn (o':=none) hro (hel j hj')).kept hRo
   rcases Int.lt_or_le (j:Int) av with hlt | hge
   ·have h3:(j+1)*t.size≤av.toNat*t.size:=Nat.mul_le_mul_right _ (by omega)
    rw [Nat.add_mul] at h3
    rw [seg_splice_before _ _ _ _ _ (by omega) (by rw [hccl];omega)]
    exact hold
   ·have h3:(av.toNat+(bv-av).toNat)*t.size≤j*t.size:=Nat.mul_le_mul_right _ (by omega)
    rw [Nat.add_mul] at h3
    rw [seg_splice_after _ _ _ _ _ (by rw [hzl];omega) (by rw [hzl,hccl];omega)]
    exact hold
theorem op_clear (htt:TtOK P c.tt) {args:Array Operand} {ts:Array TypeId} (ho:o.op = .call { callee:=.builtin .clear,args:=args,argTypes:=ts }) (hst:StOK c.ntmps g w a σ) (h:opK0 c σ base o k=some r)
  (hK:Post c.ntmps k r g w σ base true K):o.wp P a w K Q:=by
 simp only [opK0,ho] at h
 split at h
 ·rename_i x t hargs hts
  split at h
  ·rename_i id ep av bv ow u hx hu
   split at h
   ·rename_i t' l e hobj
    cases hb:(Nat.beq e ep && (Ty.same t' u).isSome) with
    | false=>rw [hb] at h;simp at h
    | true=>
     rw [hb] at h
     simp only [cond_true] at h
     simp only [Bool.and_eq_true] at hb
     have hee:=Nat.eq_of_beq_eq_true hb.1
     subst hee
     have htu:=same_some hb.2
     subst htu
     split at h
     ·rename_i z hz
      have hT:=htt _ _ hu
      simp only [TyOK] at hT
      obtain ⟨⟨E,hund,hE⟩,_⟩:=hT
      obtain ⟨ex,ef⟩:=ev_ok hst hx
      simp only [VOK] at ex
      obtain ⟨cs,⟨v,rfl,hone,hv⟩,hv'⟩:=ex
      obtain ⟨_,h0,hab,hbl,e1⟩:=(hv _ _ _ hobj).2 rfl
      obtain ⟨hro,ad,cap,_,hsv,hlc,hcm,hrow⟩:=hst.heap.objs _ _ hobj
      have hv2:a.eval x=subSlice (.slice ad l.length cap) t'.size av bv:=by rw [←hsv,←e1];exact hv'
      by_cases hn:(bv-av).toNat=0
      ·have hcl:clearL z l av bv=l:=clearL_none _ _ _ _ (by omega)
       rw [hcl,setObj_self hobj] at h
       refine wp_done (v:=.tuple #[]) (g':=g) (w':=w) (σ':=σ) (run_clear_op ho hargs hts fun ty=>?_) hst (Ext.refl w g) (fun m _ hf=>⟨hf,by simp [AVal.ids]⟩) rfl ?_ h (fun h=>Bool.noConfusion h) hK
       ·rw [hv2]
        simp only [subSlice,hn]
        by_cases hc:cap-av.toNat=0
        ·cases ad <;> simp [Builtin.clear_,run_underlying hund,hc]
        ·cases ad <;> simp [Builtin.clear_,run_underlying hund,hc]
       ·simp [VOK,VsOK]
      ·rcases hrow with ⟨rfl,hl,rfl⟩ | ⟨b,off,cc,ee,rfl,htag,hcell,hsz,hel⟩
       ·rw [hl] at hbl;simp at hbl;omega
       ·obtain ⟨i,zv,hi1,hi2,hi3,hi4,hi5,hi6⟩:=hE.info.info
        have hzs:zv.cells.size=t'.size:=by rw [←Array.length_toList,hi5,zeroCells_len]
        have hzc:(Builtin.zeroCells zv.cells (bv-av).toNat).toList=(List.replicate (bv-av).toNat (zeroCells t')).flatten:=by
         rw [zeroCells_list _ _ (by rw [hzs,←hi2];exact hi6),hi5]
        have hccl:cc.toList.length=cc.size:=Array.length_toList
        have hzl:(List.replicate (bv-av).toNat (zeroCells t')).flatten.length=(bv-av).toNat*t'.size:=by rw [length_flatten_replicate,zeroCells_len]
        have hmul:(av.toNat+(bv-av).toNat)*t'.size≤cap*t'.size:=Nat.mul_le_mul_right _ (by omega)
        rw [Nat.add_mul] at hmul
        have hst':=run_storeCells_at P b (off+av.toNat*t'.size) ee (List.replicate (bv-av).toNat (zeroCells t')).flatten 0 cc w hcell (by rw [hzl];omega) (fun x hx=>by
         obtain ⟨y,hy,hxy⟩:=List.mem_flatten.1 hx
         rw [(List.mem_replicate.1 hy).2] at hxy
         exact Rep.one (w:=w) (g:=g) (zero_rep hro hz) x hxy)
        simp only [Nat.add_zero] at hst'
        have hRw:=setRow_rewrote (w:=w) (g:=g) (id:=id) (b0:=b) (splice cc.toList (off+av.toNat*t'.size) (List.replicate (bv-av).toNat (zeroCells t')).flatten).toArray (.inl ⟨[],htag⟩)
        have hobj':=row_clear (e:=e) hro hz h0 hab hbl hlc hcm hsv htag hcell hsz (fun i hi=>hel i hi) (σ.setObj id (.row t' (clearL z l av bv) e)).objs
        have hst2:=hRw.st hst (o':=.row t' (clearL z l av bv) e) (.inr (.inl ⟨t',l,clearL z l av bv,e,e,hobj,rfl,.inr ⟨rfl,clearL_length _ _ _ _,fun _=>rfl⟩⟩)) hobj'
        refine wp_done (v:=.tuple #[]) (run_clear_op ho hargs hts fun ty=>?_) hst2 hRw.ext (fun m _ hf=>⟨hRw.fresh (by rw [hobj];simp) (fun y hy=>by simp at hy) hf,by simp [AVal.ids]⟩) rfl ?_ h (fun h=>Bool.noConfusion h) hK
        ·rw [hv2]
         obtain ⟨n,hn'⟩:∃ n,(bv-av).toNat=n+1:=⟨(bv-av).toNat-1,by omega⟩
         simp only [subSlice]
         rw [if_neg (by omega)]
         rw [hzc.symm] at hst'
         simp only [hn'] at hst' ⊢
         simp [Builtin.clear_,run_underlying hund,zeroValue,typeInfo,hi1,hi4,Addr.add_lit,hst',splice]
         rw [hn'] at hzc
         rw [hzc,←Array.length_toList,hzc,length_flatten_replicate]
        ·simp [VOK,VsOK]
     ·simp at h
   ·simp at h
  ·simp at h
 ·simp at h
end
end Go.Kz
namespace Go.Kz
variable {R:Type}
theorem copy_min {α:Type} {l m:List α} {a b:Int} (h0:0≤a) (hab:a≤b) (hbl:b≤(l.length:Int)):a.toNat+Nat.min m.length (b-a).toNat≤l.length:=by
 have:=Nat.min_le_right m.length (b-a).toNat
 have e:Nat.min m.length (b-a).toNat≤(b-a).toNat:=this
 omega
theorem copyL_length {α:Type} (l m:List α) {a b:Int} (h0:0≤a) (hab:a≤b) (hbl:b≤(l.length:Int)):(copyL l a b m).length=l.length:=by
 have h1:=copy_min (m:=m) h0 hab hbl
 have h2:Nat.min m.length (b-a).toNat≤m.length:=Nat.min_le_left ..
 simp only [copyL,List.length_append,List.length_take,List.length_drop]
 generalize Nat.min m.length (b-a).toNat=n at *
 omega
theorem copyL_get {α:Type} (l m:List α) {a b:Int} (h0:0≤a) (hab:a≤b) (hbl:b≤(l.length:Int)) (i:Nat) (h:i < (copyL l a b m).length) :
  (∃ j,∃ hj:j < m.length,i=a.toNat+j∧j < Nat.min m.length (b-a).toNat∧(copyL l a b m).get ⟨i,h⟩=m.get ⟨j,hj⟩)∨
  (∃ hl:i < l.length,(i < a.toNat∨a.toNat+Nat.min m.length (b-a).toNat≤i)∧(copyL l a b m).get ⟨i,h⟩=l.get ⟨i,hl⟩):=by
 have hlen:=copyL_length l m h0 hab hbl
 have h1:=copy_min (m:=m) h0 hab hbl
 have h2:Nat.min m.length (b-a).toNat≤m.length:=Nat.min_le_left ..
 have hil:i < l.length:=by rw [←hlen];exact h
 have e:(copyL l a b m)[i]? = if i < a.toNat then l[i]? else if i < a.toNat+Nat.min m.length (b-a).toNat then m[i-a.toNat]? else l[i]? := by
  simp only [copyL]
  generalize Nat.min m.length (b-a).toNat=n at *
  by_cases c1:i < a.toNat
  ·rw [if_pos c1,List.getElem?_append_left (by simp;omega),List.getElem?_append_left (by simp;omega),List.getElem?_take,if_pos c1]
  ·rw [if_neg c1]
   by_cases c2:i < a.toNat+n
   ·rw [if_pos c2,List.getElem?_append_left (by simp;omega),List.getElem?_append_right (by simp;omega),List.length_take,List.getElem?_take]
    rw [if_pos (by omega)]
    congr 1;omega
   ·rw [if_neg c2,List.getElem?_append_right (by simp;omega),List.getElem?_drop]
    congr 1
    simp only [List.length_append,List.length_take]
    omega
 have e2:(copyL l a b m)[i]? = some ((copyL l a b m).get ⟨i,h⟩):=by rw [List.getElem?_eq_getElem h];rfl
 rw [e2] at e
 generalize Nat.min m.length (b-a).toNat=n at *
 by_cases c1:i < a.toNat
 ·rw [if_pos c1,List.getElem?_eq_getElem hil] at e
  exact .inr ⟨hil,.inl c1,by simpa using e⟩
 ·rw [if_neg c1] at e
  by_cases c2:i < a.toNat+n
  ·have hj:i-a.toNat < m.length:=by omega
   rw [if_pos c2,List.getElem?_eq_getElem hj] at e
   exact .inl ⟨i-a.toNat,hj,by omega,by omega,by simpa using e⟩
  ·rw [if_neg c2,List.getElem?_eq_getElem hil] at e
   exact .inr ⟨hil,.inr (by omega),by simpa using e⟩
theorem copyL_none {α:Type} (l m:List α) {a b:Int} (hn:Nat.min m.length (b-a).toNat=0):copyL l a b m=l:=by
 simp [copyL,hn]
section
variable {P:Program} {o:Oper} {a:Act} {w:World} {K:Act→World→Prop} {Q:Exit→Act→World→Prop} {c:Ctx} {σ:St} {g:Ghost} {k:St→Option R} {r:R} {base:Nat}
theorem run_copy_op {x y:Operand} {args:Array Operand} {ts:Array TypeId} {t t':TypeId} {v:Value} {w':World} (ho:o.op = .call { callee:=.builtin .copy,args:=args,argTypes:=ts }) (ha:args.toList=[x,y]) (ht:ts.toList=[t,t'])
  (h:∀ ty,(Builtin.copy_ #[t,t'] ty #[a.eval x,a.eval y]).run P w = .ok v w'):(execOp a.eval o).run P w = .ok (.value v) w':=by
 have e1:args = #[x,y]:=by apply Array.toList_inj.1;simpa using ha
 have e2:ts = #[t,t']:=by apply Array.toList_inj.1;simpa using ht
 subst e1;subst e2
 simp [execOp,ho,resolve,invoke,builtin,h]
theorem row_copy {id:Nat} {t:Ty} {l m:List t.den} {news:List Value} {x:Value} {e b off cap:Nat} {cc:Array Value} {ee:TypeId} {av bv:Int} (hro:t.isRo=true)
  (h0:0≤av) (hab:av≤bv) (hbl:bv≤(l.length:Int)) (hlc:l.length≤cap) (hcm:cap≤maxLen) (hsv:g.sv id [] = .slice (some ⟨b,off,none⟩) l.length cap)
  (htag:g.tag b = .row id []) (hcell:w.heap[b]? = some (.cells cc ee (0,0))) (hsz:off+cap*t.size≤cc.size)
  (hel:∀ (i:Nat) (h:i < l.length),Rep w g (some (id,[.idx i])) t (l.get ⟨i,h⟩) (seg cc.toList (off+i*t.size) t.size)) (htail:Tail P w g t x m news) (objs:Objs) :
  ObjOK (w.setRow b (splice cc.toList (off+av.toNat*t.size) (news.take (Nat.min m.length (bv-av).toNat*t.size))).toArray) g objs id (.row t (copyL l av bv m) e):=by
 have hccl:cc.toList.length=cc.size:=Array.length_toList
 have hmn:=copy_min (m:=m) h0 hab hbl
 have h2:Nat.min m.length (bv-av).toNat≤m.length:=Nat.min_le_left ..
 have hlen:=copyL_length l m h0 hab hbl
 have hget:=copyL_get l m h0 hab hbl
 generalize hn:Nat.min m.length (bv-av).toNat=n at *
 have hnl:=htail.length
 have hnm:n*t.size≤m.length*t.size:=Nat.mul_le_mul_right _ h2
 have hzl:(news.take (n*t.size)).length=n*t.size:=by rw [List.length_take,hnl];omega
 have hmul:(av.toNat+n)*t.size≤cap*t.size:=Nat.mul_le_mul_right _ (by omega)
 rw [Nat.add_mul] at hmul
 have hRo:RoKept w g (w.setRow b (splice cc.toList (off+av.toNat*t.size) (news.take (n*t.size))).toArray) g:=(setRow_rewrote (id:=id) _ (.inl ⟨[],htag⟩)).ro
 refine ⟨hro,some ⟨b,off,none⟩,cap,by rw [hlen,hsv],by rw [hlen,hsv],by rw [hlen];exact hlc,hcm,.inr ⟨b,off,_,ee,rfl,htag,setRow_heap w b cc _ ee _ hcell,?_,fun j hj=>?_⟩⟩
 ·rw [List.size_toArray,splice_length _ _ _ (by rw [hzl,hccl];omega),hccl];exact hsz
 ·refine Rep.anyOwn hro (o:=none) ?_
  have hjl:j < l.length:=by rw [hlen] at hj;exact hj
  have hjcap:(j+1)*t.size≤cap*t.size:=Nat.mul_le_mul_right _ (by omega)
  rw [Nat.add_mul] at hjcap
  rcases hget j hj with ⟨i,hi,e1,hin,e2⟩ | ⟨hl,hout,e2⟩
  ·rw [e2]
   have h3:(i+1)*t.size≤n*t.size:=Nat.mul_le_mul_right _ hin
   rw [Nat.add_mul] at h3
   have e3:off+j*t.size=(off+av.toNat*t.size)+i*t.size:=by rw [e1,Nat.add_mul];omega
   rw [e3,List.toList_toArray,seg_splice_inside _ _ _ _ _ (by rw [hzl];omega) (by rw [hzl,hccl];omega)]
   have e4:seg (news.take (n*t.size)) (i*t.size) t.size=seg news (i*t.size) t.size:=by
    simp only [seg]
    rw [List.drop_take,List.take_take]
    congr 1;omega
   rw [e4]
   exact (htail.elts i hi).kept hRo
  ·rw [e2]
   have hold:=(Rep.anyOwn (o':=none) hro (hel j hl)).kept hRo
   rw [List.toList_toArray]
   rcases hout with hlt | hge
   ·have h3:(j+1)*t.size≤av.toNat*t.size:=Nat.mul_le_mul_right _ (by omega)
    rw [Nat.add_mul] at h3
    rw [seg_splice_before _ _ _ _ _ (by omega) (by rw [hccl];omega)]
    exact hold
   ·have h3:(av.toNat+n)*t.size≤j*t.size:=Nat.mul_le_mul_right _ hge
    rw [Nat.add_mul] at h3
    rw [seg_splice_after _ _ _ _ _ (by rw [hzl];omega) (by rw [hzl,hccl];omega)]
    exact hold
theorem copyAt_ok (htt:TtOK P c.tt) {args:Array Operand} {ts:Array TypeId} {x y:Operand} {t t2:TypeId} (ho:o.op = .call { callee:=.builtin .copy,args:=args,argTypes:=ts }) (hargs:args.toList=[x,y]) (hts:ts.toList=[t,t2])
  {ow:Bool} {u:Ty} (hu:c.tt t=some (.sl ow u)) {bv2:AVal} (hy:VOK w g σ.objs bv2 (a.eval y)) (hst:StOK c.ntmps g w a σ) {id ep:Nat} {av bv:Int}
  (hx:∀ (t':Ty) (l:List t'.den) (e:Nat),σ.objs id=some (.row t' l e)→e=ep→0≤av∧av≤bv∧bv≤(l.length:Int)∧∀ ad cap,g.sv id [] = .slice ad l.length cap→l.length≤cap→∃ cap',a.eval x = .slice (ad.map fun ad=>ad.add (av.toNat*t'.size)) (bv-av).toNat cap'∨((bv-av).toNat=0∧∃ ad',a.eval x = .slice ad' 0 cap'))
  (h:(copyAt σ u id ep av bv bv2 fun n σ=>σ.putK c o.dst (.data (.int .i64) n) k)=some r)
  (hK:Post c.ntmps k r g w σ base true K):o.wp P a w K Q:=by
 unfold copyAt at h
 split at h
 ·rename_i t' l e hobj
  cases hb:(Nat.beq e ep && (Ty.same t' u).isSome) with
  | false=>rw [hb] at h;simp at h
  | true=>
  rw [hb] at h
  simp only [cond_true] at h
  simp only [Bool.and_eq_true] at hb
  have hee:=Nat.eq_of_beq_eq_true hb.1
  subst hee
  have htu:=same_some hb.2
  subst htu
  obtain ⟨hro,hval,h,hnv⟩:=tailK_some h
  obtain ⟨m,news,h,htail⟩:=tail_ok (P:=P) hst.heap hro hy h hval hnv
  have hT:=htt _ _ hu
  simp only [TyOK] at hT
  obtain ⟨⟨E,hund,hE⟩,_⟩:=hT
  obtain ⟨i,zv,hi1,hi2,hi3,hi4,hi5,hi6⟩:=hE.info.info
  obtain ⟨_,ad,cap,_,hsv,hlc,hcm,hrow⟩:=hst.heap.objs _ _ hobj
  obtain ⟨h0,hab,hbl,hxe⟩:=hx _ _ _ hobj rfl
  obtain ⟨cap',hxe⟩:=hxe ad cap hsv hlc
  have hsize:∀ w':World,(sizeOf E).run P w' = .ok t'.size w':=fun w'=>by simp [sizeOf,typeInfo,hi1,hi2]
  have hmn:=copy_min (m:=m) h0 hab hbl
  have h2:Nat.min m.length (bv-av).toNat≤m.length:=Nat.min_le_left ..
  have h3:Nat.min m.length (bv-av).toNat≤(bv-av).toNat:=Nat.min_le_right ..
  have hpre:=htail.pre _ h2 w rfl
  have hlenx:=htail.len w rfl
  have hint:VOK w g (σ.setObj id (.row t' (copyL l av bv m) e)).objs (.data (.int .i64) (copyN m av bv)) (goInt (Nat.min m.length (bv-av).toNat)):=by
   refine VOK_int_mk ⟨?_,?_⟩
   ·show (-9223372036854775808:Int)≤_;unfold copyN;omega
   ·show _≤(9223372036854775807:Int);unfold copyN;unfold maxLen at hcm;omega
  by_cases hn:Nat.min m.length (bv-av).toNat=0
  ·have hcl:=copyL_none l m hn
   rw [hcl,setObj_self hobj] at h hint
   refine wp_done (v:=goInt 0) (g':=g) (w':=w) (σ':=σ) (run_copy_op ho hargs hts fun ty=>?_) hst (Ext.refl w g) (fun m' _ hf=>⟨hf,by simp [AVal.ids]⟩) rfl (by rw [hn] at hint;exact hint) h (fun h=>Bool.noConfusion h) hK
   rw [hn] at hpre
   rw [Nat.zero_mul,List.take_zero] at hpre
   rcases hxe with hxe | ⟨hz,ad',hxe⟩
   ·rw [hxe]
    cases ad with
    | none=>simp [Builtin.copy_,run_underlying hund,hlenx,hsize,hn,hpre]
    | some ad=>simp [Builtin.copy_,run_underlying hund,hlenx,hsize,hn,hpre,storeCells]
   ·rw [hxe]
    rw [hz] at hn
    cases ad' with
    | none=>simp [Builtin.copy_,run_underlying hund,hlenx,hsize,hpre]
    | some ad=>simp [Builtin.copy_,run_underlying hund,hlenx,hsize,hpre,storeCells]
  ·rcases hrow with ⟨rfl,hl,rfl⟩ | ⟨b,off,cc,ee,rfl,htag,hcell,hsz,hel⟩
   ·rw [hl] at hmn;simp only [List.length_nil] at hmn;omega
   ·have hccl:cc.toList.length=cc.size:=Array.length_toList
    have hnl:=htail.length
    have hnm:Nat.min m.length (bv-av).toNat*t'.size≤m.length*t'.size:=Nat.mul_le_mul_right _ h2
    have hzl:(news.take (Nat.min m.length (bv-av).toNat*t'.size)).length=Nat.min m.length (bv-av).toNat*t'.size:=by rw [List.length_take,hnl];omega
    have hmul:(av.toNat+Nat.min m.length (bv-av).toNat)*t'.size≤cap*t'.size:=Nat.mul_le_mul_right _ (by omega)
    rw [Nat.add_mul] at hmul
    have hst':=run_storeCells_at P b (off+av.toNat*t'.size) ee (news.take (Nat.min m.length (bv-av).toNat*t'.size)) 0 cc w hcell (by rw [hzl];omega) (fun x hx=>htail.one x (List.mem_of_mem_take hx))
    simp only [Nat.add_zero] at hst'
    have hRw:=setRow_rewrote (w:=w) (g:=g) (id:=id) (b0:=b) (splice cc.toList (off+av.toNat*t'.size) (news.take (Nat.min m.length (bv-av).toNat*t'.size))).toArray (.inl ⟨[],htag⟩)
    have hobj':=row_copy (P:=P) (e:=e) hro h0 hab hbl hlc hcm hsv htag hcell hsz (fun i hi=>hel i hi) htail (σ.setObj id (.row t' (copyL l av bv m) e)).objs
    have hst2:=hRw.st hst (o':=.row t' (copyL l av bv m) e) (.inr (.inl ⟨t',l,copyL l av bv m,e,e,hobj,rfl,.inr ⟨rfl,copyL_length l m h0 hab hbl,fun _=>rfl⟩⟩)) hobj'
    refine wp_done (v:=goInt (Nat.min m.length (bv-av).toNat)) (run_copy_op ho hargs hts fun ty=>?_) hst2 hRw.ext (fun m' _ hf=>⟨hRw.fresh (by rw [hobj];simp) (fun y hy=>by simp at hy) hf,by simp [AVal.ids]⟩) rfl ?_ h (fun h=>Bool.noConfusion h) hK
    ·rcases hxe with hxe | ⟨hz,_⟩
     ·rw [hxe]
      simp only [Option.map_some,Addr.add_lit]
      simp [Builtin.copy_,run_underlying hund,hlenx,hsize,hpre,hst',splice]
     ·omega
    ·exact VOK_int_mk (by
      refine ⟨?_,?_⟩
      ·show (-9223372036854775808:Int)≤_;unfold copyN;omega
      ·show _≤(9223372036854775807:Int);unfold copyN;unfold maxLen at hcm;omega)
 ·simp at h
theorem op_copy (htt:TtOK P c.tt) {args:Array Operand} {ts:Array TypeId} (ho:o.op = .call { callee:=.builtin .copy,args:=args,argTypes:=ts }) (hst:StOK c.ntmps g w a σ) (h:opK0 c σ base o k=some r)
  (hK:Post c.ntmps k r g w σ base true K):o.wp P a w K Q:=by
 simp only [opK0,ho] at h
 split at h
 ·rename_i x y t t2 hargs hts
  split at h
  ·rename_i xv yv ow u hx hy hu
   obtain ⟨ex,efx⟩:=ev_ok hst hx
   obtain ⟨ey,efy⟩:=ev_ok hst hy
   unfold copyK at h
   split at h
   ·rename_i id ep av bv
    refine copyAt_ok htt ho hargs hts hu ey hst (fun t' l e hobj he=>?_) h hK
    subst he
    simp only [VOK] at ex
    obtain ⟨cs,⟨v,rfl,hone,hv⟩,hv'⟩:=ex
    obtain ⟨_,h0,hab,hbl,e1⟩:=(hv _ _ _ hobj).2 rfl
    refine ⟨h0,hab,hbl,fun ad cap hsv hlc=>?_⟩
    have hv2:a.eval x=subSlice (.slice ad l.length cap) t'.size av bv:=by rw [←hsv,←e1];exact hv'
    simp only [subSlice] at hv2
    refine ⟨cap-av.toNat,?_⟩
    by_cases hc:cap-av.toNat=0
    ·rw [if_pos hc] at hv2
     have hz:(bv-av).toNat=0:=by omega
     rw [hz] at hv2
     exact .inr ⟨hz,ad,hv2⟩
    ·rw [if_neg hc] at hv2
     exact .inl hv2
   ·rename_i id ep
    split at h
    ·rename_i t1 l1 e1 hobj1
     refine copyAt_ok htt ho hargs hts hu ey hst (fun t' l e hobj he=>?_) h hK
     subst he
     rw [hobj] at hobj1
     simp only [Option.some.injEq,Obj.row.injEq] at hobj1
     obtain ⟨rfl,h1,_⟩:=hobj1
     have h1:=eq_of_heq h1
     subst h1
     simp only [VOK] at ex
     obtain ⟨cs,⟨v,rfl,hone,hv⟩,hv'⟩:=ex
     have e2:=(hv _ _ _ hobj).2 rfl
     refine ⟨Int.le_refl _,by omega,by omega,fun ad cap hsv hlc=>⟨cap,.inl ?_⟩⟩
     rw [show a.eval x=g.sv id [] from by rw [←e2];exact hv',hsv]
     cases ad with
     | none=>simp
     | some ad=>simp [Addr.add]
    ·simp at h
   ·simp at h
  ·simp at h
 ·simp at h
end
end Go.Kz
namespace Go.Kz
variable {R:Type}
def CtOK (P:Program) (ct:Nat→Bool):Prop:=∀ t,ct t=true→∃ d,P.underlying t=some d∧∀ ms,d≠.interface ms
def ctB (P:Program):List Nat→Bool
 | []=>true
 | t :: l=>(match P.underlying t with
  | some (.interface _)=>false
  | some _=>true
  | none=>false) && ctB P l
theorem ctB_ok {P:Program}:{l:List Nat}→ctB P l=true→CtOK P (fun t=>memN t l)
 | [],_,_,h=>by simp [memN] at h
 | t :: l,hb,t',h=>by
  simp only [ctB,Bool.and_eq_true] at hb
  simp only [memN] at h
  cases he:Nat.beq t t' with
  | false=>rw [he] at h;exact ctB_ok hb.2 t' h
  | true=>
   obtain rfl:=Nat.eq_of_beq_eq_true he
   have h1:=hb.1
   split at h1
   ·simp at h1
   ·rename_i d hd hu
    exact ⟨d,hu,fun ms he=>hd ms he⟩
   ·simp at h1
def MsAt (P:Program) (t:Nat) (nm:String) (f:Nat):Option Nat→Prop
 | none=>∀ v w,(method (P.types.size+Made.depth) t v nm).run P w = .ok (f,v) w
 | some E=>∀ (ad:Addr) x w,(loadVar E ad).run P w = .ok x w→(method (P.types.size+Made.depth) t (.pointer (some ad)) nm).run P w = .ok (f,x) w
def MsOK (P:Program) (ms:Nat→String→Option (Nat×Option Nat)):Prop:=∀ t nm f d,ms t nm=some (f,d)→MsAt P t nm f d
def getMs:List (Nat×String×Nat×Option Nat)→Nat→String→Option (Nat×Option Nat)
 | [],_,_=>none
 | (t,nm,f,d) :: l,t',nm'=>cond (Nat.beq t t' && nm == nm') (some (f,d)) (getMs l t' nm')
def ptrTo (P:Program) (t:Nat):Option Nat:=match P.underlying t with
 | some (.pointer E)=>some E
 | _=>none
def recvB (P:Program) (t:Nat) (p:Bool):Option Nat→Bool
 | none=>p && (ptrTo P t).isSome
 | some E=>!p && (match ptrTo P t with
  | some E'=>Nat.beq E E'
  | none=>false)
def ms1 (P:Program) (t:Nat) (nm:String) (f:Nat) (d:Option Nat):Bool:=match P.info? t with
 | some i=>match i.methods.find? (·.name == nm) with
  | some m=>m.path.isEmpty && (match m.func with
   | some (f',p)=>Nat.beq f f' && recvB P t p d
   | none=>false)
  | none=>false
 | none=>false
def msB (P:Program):List (Nat×String×Nat×Option Nat)→Bool
 | []=>true
 | (t,nm,f,d) :: l=>ms1 P t nm f d && msB P l
theorem ptrTo_some {P:Program} {t E:Nat} (h:ptrTo P t=some E):P.underlying t=some (.pointer E):=by
 unfold ptrTo at h
 split at h
 ·rename_i E' hu
  simp only [Option.some.injEq] at h
  rw [hu,h]
 ·simp at h
theorem run_wrap {P:Program} {w:World} (ts:Array TypeId) (t:TypeId) (ad:Addr) (s m:ByteArray):(Builtin.ssaWrapNilChk_ ts t #[.pointer (some ad),.string s,.string m]).run P w = .ok (.pointer (some ad)) w:=rfl
theorem ms1_ok {P:Program} {t:Nat} {nm:String} {f:Nat} {d:Option Nat} (h:ms1 P t nm f d=true):MsAt P t nm f d:=by
 obtain ⟨n,hn⟩:∃ n,P.types.size+Made.depth=n+1:=⟨P.types.size+(Made.depth-1),by simp [Made.depth]⟩
 unfold ms1 at h
 split at h
 ·rename_i i hi
  split at h
  ·rename_i m hm
   simp only [Bool.and_eq_true] at h
   obtain ⟨hp,h⟩:=h
   have hpath:m.path = #[]:=by simpa using hp
   split at h
   ·rename_i f' p hf
    simp only [Bool.and_eq_true] at h
    obtain ⟨h1,h2⟩:=h
    obtain rfl:=Nat.eq_of_beq_eq_true h1
    cases d with
    | none=>
     simp only [recvB,Bool.and_eq_true] at h2
     obtain ⟨rfl,h2⟩:=h2
     obtain ⟨E,hE⟩:=Option.isSome_iff_exists.1 h2
     have hu:=ptrTo_some hE
     intro v w
     rw [hn]
     simp [method,typeInfo,hi,hm,hpath,follow,hf,receiverAt,run_underlying hu,Place.get]
    | some E=>
     simp only [recvB,Bool.and_eq_true,Bool.not_eq_true'] at h2
     obtain ⟨rfl,h2⟩:=h2
     split at h2
     ·rename_i E' hE
      obtain rfl:=Nat.eq_of_beq_eq_true h2
      have hu:=ptrTo_some hE
      intro ad x w hx
      rw [hn]
      simp [method,typeInfo,hi,hm,hpath,follow,hf,receiverAt,run_underlying hu,Place.get,run_wrap,strVal,asAddr,hx]
     ·simp at h2
   ·simp at h
  ·simp at h
 ·simp at h
theorem msB_ok {P:Program}:{l:List (Nat×String×Nat×Option Nat)}→msB P l=true→MsOK P (getMs l)
 | [],_,_,_,_,_,h=>by simp [getMs] at h
 | (t,nm,f,d) :: l,hb,t',nm',f',d',h=>by
  simp only [msB,Bool.and_eq_true] at hb
  simp only [getMs] at h
  cases he:(Nat.beq t t' && nm == nm') with
  | false=>rw [he] at h;exact msB_ok hb.2 t' nm' f' d' h
  | true=>
   rw [he] at h
   simp only [cond_true,Option.some.injEq,Prod.mk.injEq] at h
   simp only [Bool.and_eq_true,beq_iff_eq] at he
   obtain rfl:=Nat.eq_of_beq_eq_true he.1
   obtain rfl:=he.2
   obtain ⟨rfl,rfl⟩:=h
   exact ms1_ok hb.1
section
variable {P:Program} {o:Oper} {a:Act} {w:World} {c:Ctx} {σ:St} {g:Ghost} {k:St→Option R} {r:R} {base:Nat}
theorem vok_ifc {objs:Objs} {t:Nat} {av:AVal} {x:Value} (hv:av.val=true) (h:VOK w g objs av x):VOK w g objs (.ifc t av) (.iface t x):=by
 obtain ⟨cs,h1,h2,_⟩:=VOK_valueCells hv h
 simp only [VOK]
 exact ⟨[.iface t x],⟨x,cs,rfl,h1,h2⟩,rfl⟩
theorem vok_ifc_inv {objs:Objs} {t:Nat} {av:AVal} {x:Value} (hv:av.val=true) (h:VOK w g objs (.ifc t av) x):∃ y,x = .iface t y∧VOK w g objs av y:=by
 simp only [VOK] at h
 obtain ⟨cs,⟨y,cs',rfl,h1,h2⟩,h3⟩:=h
 refine ⟨y,h3,?_⟩
 obtain ⟨_,hn1,hn2,_⟩:=val_isAgg hv
 exact VOK_of_cells h1 h2 hn1 hn2
theorem op_makeInterface (hct:CtOK P c.ct) {t:TypeId} {x:Operand} (ho:o.op = .makeInterface t x) (hst:StOK c.ntmps g w a σ) (h:opK0 c σ base o k=some r):Yield P o a w g σ c k r:=by
 simp only [opK0,ho] at h
 split at h
 ·rename_i av hx
  cases hb:(av.val && c.ct t) with
  | false=>rw [hb] at h;simp at h
  | true=>
   rw [hb] at h
   simp only [cond_true] at h
   simp only [Bool.and_eq_true] at hb
   obtain ⟨e1,e2⟩:=ev_ok hst hx
   obtain ⟨d,hu,hd⟩:=hct t hb.2
   refine yld (v:=.iface t (a.eval x)) (fun w' _=>?_) (vok_ifc hb.1 e1) (fun m hm=>by have:=e2 m hm;simpa [AVal.ids] using this) h
   have:(Instr.makeInterface t (a.eval x)).run P w' = .ok (.iface t (a.eval x)) w':=by
    unfold Instr.makeInterface
    rw [Sem.run_bind,run_underlying hu,Result.andThen_ok]
    cases d <;> first | rfl | exact absurd rfl (hd _)
   simp [execOp,ho,this]
 ·simp at h
theorem op_typeAssert (hct:CtOK P c.ct) {t xt:TypeId} {x:Operand} {ok:Bool} (ho:o.op = .typeAssert x xt t ok) (hst:StOK c.ntmps g w a σ) (h:opK0 c σ base o k=some r):Yield P o a w g σ c k r:=by
 simp only [opK0,ho] at h
 split at h
 ·rename_i u av hx
  cases hb:(Nat.beq u t && c.ct t && av.val) with
  | false=>rw [hb] at h;simp at h
  | true=>
   rw [hb] at h
   simp only [cond_true] at h
   simp only [Bool.and_eq_true] at hb
   have htu:=Nat.eq_of_beq_eq_true hb.1.1
   subst htu
   obtain ⟨e1,e2⟩:=ev_ok hst hx
   obtain ⟨y,hy,hvy⟩:=vok_ifc_inv hb.2 e1
   obtain ⟨d,hu,hd⟩:=hct _ hb.1.2
   have hrun:∀ w':World,(Instr.typeAssert (a.eval x) xt u ok).run P w' = .ok (if ok then .tuple #[y,.bool true] else y) w':=fun w'=>by
    unfold Instr.typeAssert
    rw [Sem.run_bind,run_underlying hu,Result.andThen_ok,hy]
    cases d <;> first | (exact absurd rfl (hd _)) | (cases ok <;> simp)
   cases ok with
   | true=>
    simp only [cond_true] at h
    refine yld (v:=.tuple #[y,.bool true]) (fun w' _=>by simp [execOp,ho,hrun]) ?_ (fun m hm=>by have:=e2 m hm;simpa [AVal.ids] using this) h
    simp only [VOK]
    refine ⟨[y,.bool true],rfl,?_⟩
    simp only [VsOK]
    exact ⟨_,_,rfl,hvy,_,_,rfl,VOK_bool_mk true,rfl⟩
   | false=>
    simp only [cond_false] at h
    exact yld (v:=y) (fun w' _=>by simp [execOp,ho,hrun]) hvy (fun m hm=>by have:=e2 m hm;simpa [AVal.ids] using this) h
 ·simp at h
theorem appendC_un {objs:Objs}:{av:AVal}→{vs:List Value}→VsOK w g objs av vs→appendC av .un=av
 | .pr a b,vs,h=>by
  simp only [VsOK] at h
  obtain ⟨v,rest,rfl,_,h⟩:=h
  simp only [appendC]
  rw [appendC_un h]
 | .un,_,_=>rfl
 | .data _ _,_,h=>by simp [VsOK] at h
 | .nilS,_,h=>by simp [VsOK] at h
 | .ref _ _ _,_,h=>by simp [VsOK] at h
 | .view _ _ _ _ _,_,h=>by simp [VsOK] at h
 | .bptr _ _,_,h=>by simp [VsOK] at h
 | .eptr _ _ _,_,h=>by simp [VsOK] at h
 | .mref _,_,h=>by simp [VsOK] at h
 | .nv _ _ _ _,_,h=>by simp [VsOK] at h
 | .clos _ _,_,h=>by simp [VsOK] at h
 | .ifc _ _,_,h=>by simp [VsOK] at h
 | .agg _,_,h=>by simp [VsOK] at h
 | .tup _,_,h=>by simp [VsOK] at h
theorem callK_fn {σ:St} {n fid:Nat} {all:AVal} {f:AVal→St→Option R} {r:R} (h:callK c σ n (.clos fid .un) all f=some r) (hu:appendC all .un=all):(match pickC all (c.env fid) with
   | some (.pure p res F)=>callPure σ n all p res F f
   | _=>none)=some r:=by
 unfold callK at h
 simp only [calleeOf,leafC,cond_true,hu] at h
 exact h
theorem invK_ok (htt:TtOK P c.tt) (hms:MsOK P c.ms) {x:Operand} {nm:String} {args:Array Operand} {ts:Array TypeId} (ho:o.op = .call { callee:=.invoke x nm,args:=args,argTypes:=ts }) (hst:StOK c.ntmps g w a σ)
  {xv av:AVal} (hx:ev σ x=some xv) (ha:evs σ args.toList=some av) {F:AVal→AVal→Option R} {r:R} (h:invK c σ nm xv av F=some r) :
  ∃ fid all vals,(execOp a.eval o).run P w=(callFunc fid vals.toArray).run P w∧VsOK w g σ.objs all vals∧appendC all .un=all∧F (.clos fid .un) all=some r:=by
 unfold invK at h
 split at h
 ·rename_i t v
  obtain ⟨e1,ef⟩:=ev_ok hst hx
  obtain ⟨e2,_⟩:=evs_ok hst ha
  cases hval:v.val with
  | false=>rw [hval] at h;simp at h
  | true=>
  rw [hval] at h
  simp only [cond_true] at h
  obtain ⟨y,k3,hvy⟩:=vok_ifc_inv hval e1
  have hargs:args.map a.eval=(args.toList.map a.eval).toArray:=by apply Array.toList_inj.1;rw [Array.toList_map]
  have app:appendC (.pr v av) .un = .pr v av:=by simp only [appendC];rw [appendC_un e2]
  have appl:∀ lv:AVal,appendC (.pr lv av) .un = .pr lv av:=fun lv=>by simp only [appendC];rw [appendC_un e2]
  have call:∀ (m:Nat) (u:Value),(method (P.types.size+Made.depth) t y nm).run P w = .ok (m,u) w→(execOp a.eval o).run P w=(callFunc m (u :: args.toList.map a.eval).toArray).run P w:=by
   intro m u hm
   have e5:(#[Value.iface t y]++args.map a.eval).extract 1 (#[Value.iface t y]++args.map a.eval).size=args.map a.eval:=by
    apply Array.toList_inj.1
    rw [Array.toList_extract]
    simp
    exact List.take_of_length_le (by simp)
   have e4:(invoke (.fn (.method nm) #[]) (#[Value.iface t y]++args.map a.eval)).run P w=(callFunc m (#[u]++args.map a.eval)).run P w:=by
    have h0:(#[Value.iface t y]++args.map a.eval)[0]? = some (.iface t y):=by rw [Array.getElem?_append_left (show 0 < 1 from Nat.one_pos)];rfl
    unfold invoke
    rw [h0]
    simp only [e5,callMethod,Sem.run_bind,run_program,Result.andThen_ok,hm]
   have e6 : #[u]++args.map a.eval=(u :: args.toList.map a.eval).toArray:=by rw [hargs];simp
   rw [←e6,←e4]
   simp [execOp,ho,resolve,k3]
  unfold recvK at h
  split at h
  ·rename_i m hm
   exact ⟨m,_,_,call m y (hms _ _ _ _ hm y w),by simp only [VsOK];exact ⟨_,_,rfl,hvy,e2⟩,app,h⟩
  ·rename_i m E hm
   split at h
   ·rename_i u hu
    obtain ⟨lv,b,off,cc,e,fz,hv,hcell,hle,hok,hfr,hput⟩:=loadK_ok (n:=c.ntmps) (xv:=y) hst hvy (fun m hm=>by have:=ef m hm;simpa [AVal.ids] using this) h
    cases hb:(lv.val && u.sk.same lv.sk) with
    | false=>rw [hb] at hput;simp at hput
    | true=>
     rw [hb] at hput
     simp only [cond_true] at hput
     simp only [Bool.and_eq_true] at hb
     have hsk:=Sk.same_eq hb.2
     obtain ⟨hag,hn1,hn2,hn3⟩:=val_isAgg hb.1
     have hsz:u.size=lv.sk.size:=by rw [←hsk,Ty.sk_size]
     have hrun:=run_loadVar (P:=P) (w:=w) (htt _ _ hu) hcell (by rw [hsz];exact hle)
     have hmm:=hms _ _ _ _ hm ⟨b,off,none⟩ _ w hrun
     rw [←hv] at hmm
     refine ⟨m,_,_,call m _ hmm,?_,appl _,hput⟩
     simp only [VsOK]
     refine ⟨_,_,rfl,VOK_of_cells hok ?_ hn1 hn2,e2⟩
     rw [hag,←hsk,hsz,hsk]
   ·simp at h
  ·simp at h
 ·simp at h
end
end Go.Kz
namespace Go.Kz
variable {R:Type}
structure CtxOK (P:Program) (c:Ctx):Prop where
 tt:TtOK P c.tt
 mt:MtOK P c.mt
 eqs:EqsOK P c.eqs
 ct:CtOK P c.ct
 ms:MsOK P c.ms
 env:EnvOK P c.env
section
variable {P:Program} {o:Oper} {a:Act} {w:World} {K:Act→World→Prop} {Q:Exit→Act→World→Prop} {c:Ctx} {σ:St} {g:Ghost} {k:St→Option R} {r:R} {base:Nat} {mo:Bool}
theorem op_yield (hc:CtxOK P c) (hy:isY o=true) (hst:StOK c.ntmps g w a σ) (h:opK c σ base o k=some r):Yield P o a w g σ c k r:=by
 simp only [isY,Bool.and_eq_true,Bool.not_eq_true'] at hy
 obtain ⟨hj,hy⟩:=hy
 simp only [opK,hj,cond_false] at h
 cases ho:o.op with
 | move x=>exact op_move (.inl ho) hst h
 | assign x=>exact op_move (.inr ho) hst h
 | pick t x y=>exact op_pick ho hst h
 | binOp op t x y t'=>exact op_binOp' hc.tt hc.eqs ho hst h
 | unOp op t x=>exact op_unOp ho hst h
 | convert t t' x=>exact op_convert hc.tt ho hst h
 | indexAddr t x i=>exact op_index hc.tt ho hst h
 | fieldAddr t x i=>exact op_field hc.tt ho hst h
 | nilCheck x=>exact op_nilCheck ho hst h
 | load t x=>exact op_load hc.tt ho hst h
 | extract x i=>exact op_extract ho hst h
 | lookup t x i ok=>exact op_lookup hc.mt ho hst h
 | slice t x lo hi mx=>cases mx with
  | none=>exact op_slice hc.tt ho hst h
  | some mx=>simp [isY0,ho] at hy
 | build t ps=>exact op_build hc.tt ho hst h
 | index t x i=>exact op_indexV hc.tt ho hst h
 | field t x i=>exact op_fieldV hc.tt ho hst h
 | makeInterface t x=>exact op_makeInterface hc.ct ho hst h
 | typeAssert x xt t ok=>exact op_typeAssert hc.ct ho hst h
 | makeFunc f first cap=>
  cases f with
  | func f=>exact op_makeFunc ho hst h
  | _=>simp [opK0,ho] at h
 | call cl=>
  obtain ⟨callee,args,ts⟩:=cl
  cases callee with
  | builtin b=>
   cases b with
   | len=>exact op_len ho hc.tt hc.mt hst h
   | max=>exact op_max ho hst h
   | min=>exact op_min ho hst h
   | _=>simp [isY0,ho] at hy
  | _=>simp [isY0,ho] at hy
 | _=>simp [isY0,ho] at hy
theorem op_junk (hj:isJunk o=true) (hst:StOK c.ntmps g w a σ) (h:k (σ.unset o.dst)=some r) (hK:Post c.ntmps k r g w σ base (isM o) K):o.wp P a w K Q:=by
 have ho:∃ v,o.op = .assign (.const v):=by
  unfold isJunk at hj
  split at hj
  ·exact ⟨_,by assumption⟩
  ·exact ⟨_,by assumption⟩
  ·exact ⟨_,by assumption⟩
  ·simp at hj
 obtain ⟨v,ho⟩:=ho
 unfold Oper.wp
 have hrun:(execOp a.eval o).run P w = .ok (.value (a.eval (.const v))) w:=by simp [execOp,ho]
 rw [hrun,Oper.upon_value]
 refine hK _ g _ w h (hst.putU o.dst _) (Ext.refl _ _) (fun m _ hm=>hm.unset o.dst) ?_ (fun _=>Agree.refl w)
 cases o.dst <;> rfl
theorem op_ok (hc:CtxOK P c) (hst:StOK c.ntmps g w a σ) (hfr:∀ m,base≤m→m < base+8→Fresh g σ m) (h:opK c σ base o k=some r) (hK:Post c.ntmps k r g w σ base (isM o) K):o.wp P a w K Q:=by
 have hf:Fresh g σ base:=hfr base (Nat.le_refl _) (by omega)
 cases hj:isJunk o with
 | true=>
  simp only [opK,hj,cond_true] at h
  exact op_junk hj hst h hK
 | false=>
 cases hy:isY o with
 | true=>exact (op_yield hc hy hst h).wp hst hK
 | false=>
  simp only [opK,hj,cond_false] at h
  simp only [isY,hj,Bool.not_false,Bool.true_and] at hy
  cases ho:o.op with
  | alloc t=>exact op_alloc hc.tt ho hst hf h hK
  | box t x=>exact op_box ho hst hf h hK
  | makeSlice t x y=>exact op_makeSlice hc.tt ho hst hf h hK
  | buildSlice t n ps=>exact op_buildSlice hc.tt ho hst hf h hK
  | slice t x lo hi mx=>cases mx with
   | none=>simp [isY0,ho] at hy
   | some mx=>exact op_slice3 hc.tt ho hst h hK
  | store t x y=>exact op_store hc.tt ho hst h (by simpa [isM,ho] using hK)
  | mapUpdate t x i y=>exact op_mapUpdate hc.mt ho hst h (by simpa [isM,ho] using hK)
  | makeMap t rs=>cases rs with
   | none=>exact op_makeMap ho hst hf h hK
   | some _=>simp [opK0,ho] at h
  | call cl=>
   obtain ⟨callee,args,ts⟩:=cl
   cases callee with
   | builtin b=>
    cases b with
    | append=>exact op_append hc.tt ho hst hf h (by simpa [isM,ho] using hK)
    | clear=>exact op_clear hc.tt ho hst h (by simpa [isM,ho] using hK)
    | copy=>exact op_copy hc.tt ho hst h (by simpa [isM,ho] using hK)
    | _=>first | (simp [isY0,ho] at hy;done) | (simp [opK0,ho] at h;done)
   | value x=>
    simp only [opK0,ho] at h
    split at h
    ·rename_i gv av hx ha
     exact op_call hc.env ho rfl hst hfr hx ha h hK
    ·simp at h
   | invoke x m=>
    simp only [opK0,ho] at h
    split at h
    ·rename_i xv av hx ha
     obtain ⟨fid,all,vals,hrun,hall,hu,h⟩:=invK_ok hc.tt hc.ms ho hst hx ha h
     exact op_callG hc.env hrun hall hst hfr (callK_fn h hu) hK
    ·simp at h
  | _=>first | (simp [isY0,ho] at hy;done) | (simp [opK0,ho] at h;done)
end
end Go.Kz
