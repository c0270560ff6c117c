/-
  Lengths, addresses, loads.
-/
import Derived.Test.YtmoggdcmpoobpaaGreatDoorKzL
import Derived.MapKept
import Derived.Laws.MakeOwn
set_option linter.unusedVariables false
set_option linter.unusedSimpArgs false
namespace Go.Kz
variable {R:Type}
section
variable {P:Program}{o:Oper}{a:Act}{w:World}{K:Act->World->Prop}{Q:Exit->Act->World->Prop}{c:Ctx}{σ:St}{g:z8}{k:St->Option R}{r:R}{base:Nat}
theorem KC{b:Bool}{x:Option R}{r:R}(h:cond b x none=some r):b=true/\x=some r:=by
 grind
theorem qT{b:Bool}{x:Option R}(h:qV b x=some r):b=true/\x=some r:=by
 grind[qV]
def zaq(P:Program)(kt:Ty)(K:TypeId): Prop := qZ P kt K/\(jG kt=false->P.stoodInHeld K=false /\ ∀fs, P.underlying K=some (.struct fs) -> ∀f ∈ fs.toList, f.name ≠ "_")
def Hl(P:Program)(mt:Nat->Option (Ty×Ty)):Prop:=∀t kt vt,mt t=some (kt,vt)->∃K E,P.underlying t=some (.map K E)/\zaq P kt K/\qZ P vt E/\∃i z,P.info? E=some i/\i.zero=some z/\z=jl vt.sk.isAgg z.cells.toList
theorem QA{σ:St}{mt:Option (Ty×Ty)}{a:z7}{f:(id:Nat)->(kt vt:Ty)->List (kt.den×vt.den)->Option R}{r:R}(h:Xj σ mt a f=some r):
  ∃id kt vt m,a=.qF id/\mt=some (kt,vt)/\σ.z6 id=some (.map kt vt m)/\kTy kt=true/\vt.yV=true/\f id kt vt m=some r:=by
 unfold Xj at h;split at h
 ·rename_i id Xv X8;split at h
  ·rename_i kt vt m zg
   cases hc:((Ty.same kt Xv).isSome&&(Ty.same vt X8).isSome&&kTy kt&&vt.yV) with
   |false=>grind
   |true=>
    rw[hc]at h;simp only[zA,Z31]at hc;obtain⟨⟨⟨⟨e1,_⟩,⟨e2,_⟩⟩,hk⟩,hv⟩:=hc;obtain rfl:=e1.down;obtain rfl:=e2.down
    grind
  grind
 grind
theorem j7.length{w:World}{g:z8}{kt vt:Ty}:{es:List MapEntry}->{m:List (kt.den×vt.den)}->j7 w g kt vt es m->es.length=m.length
 |[],[],_=>rfl
 |_::_,(_,_)::_,⟨_,_,h⟩=>by simp[h.length]
 |[],_::_,h=>h.elim
 |_::_,[],h=>h.elim
theorem Qo{w:World}{g:z8}{z6:qQ}{id:Nat}{v:Value}{kt vt:Ty}{m:List (kt.den×vt.den)}(h:qy w g z6 (.qF id) v)(ho:z6 id=some (.map kt vt m)):v=.map (some (g.qY id)):=by
 simp only[qy]at h;obtain⟨cs,⟨x,rfl,_,hx⟩,hv⟩:=h;rw[hv];exact hx _ _ _ ho
theorem zkm{args:Array Operand}{ts:Array TypeId}(ho:o.op=.call { callee:=.builtin .len,args:=args,argTypes:=ts })(wi:gH P c.tt)(Sq:Hl P c.mt)
  (zq:zP c.ntmps g w a σ) (h:qq c σ base o k=some r):vH P o a w g σ c k r:=by
 simp only[qq,ho]at h;split at h
 ·rename_i x t hargs QH;split at h
  ·rename_i av ot u hx LA;have hT:=wi _ _ LA;simp only[qZ]at hT;obtain⟨⟨E,qB,_⟩,_⟩:=hT;obtain⟨ex,ef⟩:=qH zq hx;clear ef;have key:∃n:Nat,(∃b cp,a.eval x=.slice b n cp)/\n<=maxLen/\(σ.qM c o.dst (.data (.int .i64) (n:Int)) k=some r):=by
    unfold z0v at h;split at h
    ·have:=Jq.1 ex
     grind
    ·rename_i ow t' l;simp only[qy]at ex;obtain⟨cs,⟨qU,zN⟩,hv⟩:=ex
     cases ow with
     |true=>grind[Ty.zW]
     |false=>
      obtain⟨b,cp,rfl,h1,h2,_⟩:=zN;exact⟨_,⟨b,cp,hv⟩,by omega,h⟩
    ·obtain⟨t',l,zg,rfl,_,h⟩:=kR zq.heap h;simp only[qy]at ex;obtain⟨cs,⟨v,rfl,qN,hv⟩,je⟩:=ex;have e1:=(hv _ _ _ zg).2 rfl;obtain⟨b,cp,_,yU,h1,h2,_⟩:=(zq.heap.z6 _ _ zg).2;refine⟨l.length,⟨b,cp,?_⟩,by omega,h⟩;rw[<-yU,<-e1];exact je
    ·rename_i id p ep av bv;obtain⟨t',l,zg,rfl,_,h⟩:=kR zq.heap h;simp only[qy]at ex;obtain⟨cs,⟨v,rfl,qN,hv⟩,je⟩:=ex;obtain⟨_,h0,Kh,Vo,e1⟩:=(hv _ _ _ zg).2 rfl;obtain⟨b,cp,_,yU,h1,h2,_⟩:=(zq.heap.z6 _ _ zg).2;refine⟨(bv-av).toNat,⟨if cp-av.toNat=0 then b else b.map (·.add (av.toNat*t'.size)),cp-av.toNat,?_⟩,by omega,?_⟩
     ·rw[je];show v=_;rw[e1,yU];rfl
     grind
    ·obtain⟨t',l0,e,i,_,v',l,zg,Fo,zN,h,_,_⟩:=Gv zq.heap h;simp only[qy]at ex;obtain⟨cs,⟨v,rfl,qN,hv⟩,je⟩:=ex;have e1:=((hv _ _ _ _ _ zg).2 Fo).1 rfl;obtain⟨b,cp,_,yU,h1,h2,_⟩:=zN;refine⟨l.length,⟨b,cp,?_⟩,by omega,h⟩;rw[<-yU,<-e1];exact je
    grind
   obtain⟨n,⟨b,cp,hv⟩,hn,h⟩:=key;refine Qy (v:=.int .i64 n) ?_ (vB ?_) (λm _=>by simp[z7.ids]) h
   ·intro w' _;have e1:args=#[x]:=by grind
    have e2:ts=#[t]:=by grind
    simp_all[execOp,resolve,invoke,builtin,Builtin.len_,run_underlying,goInt]
   grind[maxLen,IntKind.min,IntKind.max,IntKind.bits]
  ·rename_i l hx LA;have hT:=wi _ _ LA;simp only[qZ]at hT;obtain⟨s,hv,hl,hs⟩:=PU (l:=l) (qH zq hx).1;subst hl;have ql:s.data.toList.length=s.size:=gT;refine Qy (v:=.int .i64 s.size) ?_ (by grind[vB,maxLen,IntKind.min,IntKind.max,IntKind.bits]) (λm _=>by simp[z7.ids]) h;intro w' _;have e1:args=#[x]:=by grind
   have e2:ts=#[t]:=by grind
   simp_all[execOp,resolve,invoke,builtin,Builtin.len_,run_underlying,goInt]
  ·rename_i av hx LA _;obtain⟨id,kt,vt,m,rfl,D8,zg,_,_,h⟩:=QA h;obtain⟨hlen,h⟩:=qT h;obtain⟨K,E,qB,_,_⟩:=Sq _ _ _ D8;obtain⟨ex,_⟩:=qH zq hx;obtain⟨es,ck,hblk,ze,_,_,zN,_⟩:=zq.heap.z6 _ _ zg;have hv:=Qo ex zg;have hl:=zN.length;have yP:g.qY id<w.heap.size:=zq.heap.tags _ (by grind);refine Qy (v:=.int .i64 m.length) ?_ (vB ?_) (λm _=>by simp[z7.ids]) h
   ·intro w' w8;replace w8:=w8 (by simp[isP,ho]);have e1:args=#[x]:=by grind
    have e2:ts=#[t]:=by grind
    subst e1;subst e2;have Zk:w'.heap[g.qY id]? = some (.map es ck):=by rw[w8 _ yP];exact hblk
    simp_all[getObj,Sem.run,execOp,resolve,invoke,builtin,Builtin.len_,run_underlying,goInt]
   grind[room,IntKind.min,IntKind.max,IntKind.bits]
  grind
 grind
theorem j8.sizeOf{T:TypeId}{t:Ty}(h:j8 P T t)(w:World):(sizeOf T).run P w=.ok t.size w:=by
 obtain⟨i,z,hi,hs,_⟩:=h.info;simp[Go.sizeOf,typeInfo,hi,hs]
theorem run_indexAt_slice{T E:TypeId}{t:Ty}(hT:P.underlying T=some (.slice E))(hE:j8 P E t)(b off len cap:Nat)(ki:IntKind)(i:Int)(h0:0<=i)(h1:i<len)(w:World):
  (Instr.indexAt T (.slice (some ⟨b,off,none⟩) len cap) (.int ki i)).run P w=.ok (.pointer (some ⟨b,off+i.toNat*t.size,none⟩)) w:=by
 have hs:=hE.sizeOf w;simp_all[Instr.indexAt,asIntOf,run_underlying,Addr.add_lit]
theorem x6{T E:TypeId}{t:Ty}{n:Nat}(hT:P.underlying T=some (.array n E))(hE:j8 P E t)(b off:Nat)(ki:IntKind)(i:Int)(h0:0<=i)(h1:i<n)(w:World):
  (Instr.indexAt T (.pointer (some ⟨b,off,none⟩)) (.int ki i)).run P w=.ok (.pointer (some ⟨b,off+i.toNat*t.size,none⟩)) w:=by
 have hs:=hE.sizeOf w;simp_all[Instr.indexAt,Instr.sureAddr,asIntOf,run_underlying,Addr.add_lit]
theorem GG{I:Type}{l:List I}{i:Int}(h:wY l i=true):0<=i/\i<(l.length:Int):=by
 grind[wY]
theorem Cm{t:TypeId}{x i:Operand}{id:Nat}{p:Path}{ep:Nat}{ow':Bool}{u':Ty}{j:Int}{ki:IntKind}(hT:qZ P (.sl ow' u') t)(ho:o.op=.indexAddr t x i)(zq:zP c.ntmps g w a σ)
  (hx:ev σ x=some (.nv false id p ep)) (vi:a.eval i=.int ki j) (ef:∀m,zu g σ m->m∉(z7.nv false id p ep).ids) (ex:qy w g σ.z6 (.nv false id p ep) (a.eval x))
  (h:(ZN σ id p ep λt l=>cond (t.sk.same u'.sk) (qV (wY l j) (σ.qM c o.dst (.nv true id (p++[.idx j]) (xL σ id)) k)) none)=some r):vH P o a w g σ c k r:=by
 simp only[qZ]at hT;obtain⟨⟨E,qB,hE⟩,_⟩:=hT;obtain⟨t0,l0,e0,i0,_,t',l,zg,Fo,zN,h,hq,xx,gX⟩:=Gv zq.heap h
 cases hs:t'.sk.same u'.sk with
 |false=>grind
 |true=>
  rw[hs]at h;have po:=Sk.qJ hs;have ql:u'.size=t'.size:=by grind[Ty.zX]
  simp only[zJ]at h;obtain⟨u6,h⟩:=qT h;obtain⟨h0,yP⟩:=GG u6;simp only[qy]at ex;obtain⟨cs,⟨v,rfl,qN,hv⟩,je⟩:=ex;have e1:=((hv _ _ _ _ _ zg).2 Fo).1 rfl;obtain⟨ad,cp,_,yU,h1,h2,h3⟩:=zN;rcases h3 with⟨_,hl,_⟩|⟨bk,off,cc,e,rfl,ze,zZ,Xw,vw⟩
  ·omega
  ·have xy:a.eval x=.slice (some ⟨bk,off,none⟩) l.length cp:=by rw[<-yU,<-e1];exact je
   refine Qy (v:=.pointer (some ⟨bk,off+j.toNat*t'.size,none⟩)) ?_ ?_ (λm hm=>by grind[z7.ids]) h
   ·intro w' _;simp[execOp,ho,xy,vi,run_indexAt_slice qB hE.info bk off _ cp ki j h0 yP w',ql]
   ·simp only[qy];refine⟨_,⟨_,rfl,rfl,λt1 l1 e1 i1 h1 jk=>?_⟩,rfl⟩;rw[zg]at jk;simp only[zI,Obj.nest.injEq]at jk;obtain⟨rfl,_,rfl,rfl,_⟩:=jk;have u6:xL σ id=i0:=by simp[xL,zg]
    rw[u6];refine⟨jq _,λ_=>⟨λh=>(by simp at h),λ_=>⟨by simp,bk,off+j.toNat*t'.size,ug (x:=xx) hq gX (by simpa using yU),rfl⟩⟩⟩
theorem Cn{t:TypeId}{x i:Operand}{id:Nat}{ep:Nat}{ow':Bool}{u':Ty}{j:Int}{ki:IntKind}(hT:qZ P (.sl ow' u') t)(ho:o.op=.indexAddr t x i)(zq:zP c.ntmps g w a σ)
  (vi:a.eval i=.int ki j) (ef:∀m,zu g σ m->m∉(z7.nv false id [] ep).ids) (ex:qy w g σ.z6 (.nv false id [] ep) (a.eval x))
  (h:(LI σ id ep u' j λv=>σ.qM c o.dst v k)=some r):vH P o a w g σ c k r:=by
 simp only[qZ]at hT;obtain⟨⟨E,qB,hE⟩,_⟩:=hT;unfold LI at h;split at h
 ·rename_i t' l e n hp zg
  cases hs:(Nat.beq e ep&&t'.sk.same u'.sk) with
  |false=>grind
  |true=>
   rw[hs]at h;simp only[zA]at hs;have Fs:=zE hs.1;subst Fs;have po:=Sk.qJ hs.2;have ql:u'.size=t'.size:=by grind[Ty.zX]
   simp only[zJ]at h;obtain⟨u6,h⟩:=qT h;obtain⟨h0,yP⟩:=GG u6;simp only[qy]at ex;obtain⟨cs,⟨v,rfl,qN,hv⟩,je⟩:=ex;have e1:=((hv _ _ _ _ _ zg).2 rfl).1 rfl;obtain⟨bk,off,cp,yU⟩:=(zq.heap.z6 _ _ zg).head;have xy:a.eval x=.slice (some ⟨bk,off,none⟩) l.length cp:=by rw[<-yU,<-e1];exact je
   refine Qy (v:=.pointer (some ⟨bk,off+j.toNat*t'.size,none⟩)) ?_ ?_ (λm hm=>by grind[z7.ids]) h
   ·intro w' _;simp[execOp,ho,xy,vi,run_indexAt_slice qB hE.info bk off _ cp ki j h0 yP w',ql]
   ·simp only[qy];refine⟨_,⟨_,rfl,rfl,λt1 l1 e1 i1 h1 jk=>?_⟩,rfl⟩;rw[zg]at jk;simp only[zI,Obj.nest.injEq]at jk;obtain⟨rfl,_,rfl,rfl,_⟩:=jk;refine⟨jq _,λ_=>⟨λh=>(by simp at h),λ_=>⟨by simp,bk,off+j.toNat*t'.size,?_,rfl⟩⟩⟩
    grind[place]
 grind
theorem Bb:{u:Ty}->{fs:List Field}->{j6 i:Nat}->vC P u fs j6->(vP u (qL i)).isSome=true->
  ∃f s,fs[i]? = some f/\vP u (qL i)=some s/\qZ P s f.type/\∃o,u.sk.off (qL i)=some (o,s.sk)/\j6+o=f.offset
 |.pair a b,f::fs,j6,0,h,hi=>by
  simp_all[vC,qL,vP,Ty.sk,Sk.off]
 |.pair a b,f::fs,j6,i+1,h,hi=>by
  simp only[vC]at h;simp only[qL,vP]at hi;obtain⟨f',s,h1,h2,h3,o,h4,h5⟩:=Bb h.2.2 hi
  grind[qL,vP,Ty.sk,Sk.off,Ty.zX]
 |.pair _ _,[],_,_,h,_=>by simp[vC]at h
 |.unit,_,_,i,_,hi=>by cases i<;>simp[qL,vP]at hi
 |.int _,_,_,_,h,_=>by simp[vC]at h
 |.bool,_,_,_,h,_=>by simp[vC]at h
 |.str,_,_,_,h,_=>by simp[vC]at h
 |.arr _ _,_,_,_,h,_=>by simp[vC]at h
 |.sl _ _,_,_,_,h,_=>by simp[vC]at h
 |.ptr _,_,_,_,h,_=>by simp[vC]at h
 |.fn _ _,_,_,_,h,_=>by simp[vC]at h
 |.tree _,_,_,_,h,_=>by simp[vC]at h
theorem DP{u:Ty}{i:Nat}(h:(vP u (qL i)).isSome=true):∃a b,u=.pair a b:=by
 cases u with
 |pair a b=>grind
 |_=>cases i<;>simp[qL,vP]at h
theorem uM{T:TypeId}{u:Ty}{i:Nat}(hT:qZ P u T)(hi:(vP u (qL i)).isSome=true)(b off:Nat):
  ∃o s,u.sk.off (qL i)=some (o,s)/\∀w,(Instr.fieldAt T (.pointer (some ⟨b,off,none⟩)) i).run P w=.ok (.pointer (some ⟨b,off+o,none⟩)) w:=by
 obtain⟨x,y,rfl⟩:=DP hi;simp only[qZ]at hT;obtain⟨⟨fs,qB,D9⟩,_⟩:=hT;obtain⟨f,s,h1,h2,h3,o,h4,h5⟩:=Bb D9 hi;refine⟨o,s.sk,h4,λw=>?_⟩;have hf:fs[i]? = some f:=by grind
 obtain⟨inf,z,XD,Eu,_,_,_,Fl⟩:=h3.info.info;have va:¬inf.size=0:=by omega
 simp_all[Instr.fieldAt,Instr.sureAddr,run_underlying,fieldPlace,Go.sizeOf,typeInfo,Addr.add_lit]
theorem Vr:{t:Ty}->{d:t.den}->{p:Path}->{f:(u:Ty)->u.den->Option R}->t.zW=true->zR t d p f=some r->(vP t p).isSome=true
 |t,d,[],f,_,_=>by simp[vP]
 |.pair a b,(x,y),.fst::p,f,ht,h=>by simp only[zR]at h;simp only[Ty.zW,zA]at ht;simp only[vP];exact Vr ht.1 h
 |.pair a b,(x,y),.snd::p,f,ht,h=>by simp only[zR]at h;simp only[Ty.zW,zA]at ht;simp only[vP];exact Vr ht.2 h
 |.arr n t,l,.idx i::p,f,ht,h=>by
  simp only[zR,Zh]at h;obtain⟨x,_,h⟩:=h
  simp only[vP];exact Vr (by grind[Ty.zW]) h
 |.sl true t,l,.idx i::p,_,ht,h=>by grind[Ty.zW]
 |.sl false t,l,s::p,_,_,h=>by grind[zR]
 |.sl true t,l,.fst::p,_,_,h=>by simp[zR]at h
 |.sl true t,l,.snd::p,_,_,h=>by simp[zR]at h
 |.int _,_,s::_,_,_,h=>by grind[zR]
 |.bool,_,s::_,_,_,h=>by grind[zR]
 |.str,_,s::_,_,_,h=>by grind[zR]
 |.unit,_,s::_,_,_,h=>by grind[zR]
 |.ptr _,_,s::_,_,_,h=>by grind[zR]
 |.fn _ _,_,s::_,_,_,h=>by grind[zR]
 |.tree _,_,s::_,_,_,h=>by grind[zR]
 |.pair _ _,_,.idx _::_,_,_,h=>by simp[zR]at h
 |.arr _ _,_,.fst::_,_,_,h=>by simp[zR]at h
 |.arr _ _,_,.snd::_,_,_,h=>by simp[zR]at h
theorem Y5:{t u:Ty}->{p:Path}->t.sk=u.sk->(vP t p).isSome=true->(vP u p).isSome=true
 |_,_,[],_,_=>by simp[vP]
 |.pair a b,.pair c d,.fst::p,hs,h=>by simp only[Ty.sk,Sk.pair.injEq]at hs;simp only[vP]at h⊢;exact Y5 hs.1 h
 |.pair a b,.pair c d,.snd::p,hs,h=>by simp only[Ty.sk,Sk.pair.injEq]at hs;simp only[vP]at h⊢;exact Y5 hs.2 h
 |.arr n t,.arr m u,.idx i::p,hs,h=>by simp only[Ty.sk,Sk.arr.injEq]at hs;simp only[vP]at h⊢;exact Y5 hs.2 h
 |.pair a b,u,.fst::p,hs,h=>by cases u<;>simp[Ty.sk]at hs;simp only[vP]at h⊢;exact Y5 hs.1 h
 |.pair a b,u,.snd::p,hs,h=>by cases u<;>simp[Ty.sk]at hs;simp only[vP]at h⊢;exact Y5 hs.2 h
 |.arr n t,u,.idx i::p,hs,h=>by cases u<;>simp[Ty.sk]at hs;simp only[vP]at h⊢;exact Y5 hs.2 h
 |.int _,_,s::_,_,h=>by grind[vP]
 |.bool,_,s::_,_,h=>by grind[vP]
 |.str,_,s::_,_,h=>by grind[vP]
 |.unit,_,s::_,_,h=>by grind[vP]
 |.ptr _,_,s::_,_,h=>by grind[vP]
 |.fn _ _,_,s::_,_,h=>by grind[vP]
 |.tree _,_,s::_,_,h=>by grind[vP]
 |.sl _ _,_,s::_,_,h=>by grind[vP]
 |.pair _ _,_,.idx _::_,_,h=>by simp[vP]at h
 |.arr _ _,_,.fst::_,_,h=>by simp[vP]at h
 |.arr _ _,_,.snd::_,_,h=>by simp[vP]at h
theorem ZY{id:Nat}{p:Path}{ep:Nat}{f:(u:Ty)->u.den->Option R}(h:kZ σ id p ep f=some r):∃t l,σ.z6 id=some (.row t l ep):=by
 grind[kZ,zE]
theorem vk{id:Nat}:{t:Ty}->{pre:Path}->{b off:Nat}->{p q:Path}->{b' K8 o:Nat}->{s s':Sk}->
  place g id t pre b off p=some (b',K8)->Wv t p=some s->s.off q=some (o,s')->place g id t pre b off (p++q)=some (b',K8+o)
 |t,pre,b,off,[],q,b',K8,o,s,s',h,hs,hq=>by
  grind[place,Wv,uk]
 |.pair a c,pre,b,off,.fst::p,q,b',K8,o,s,s',h,hs,hq=>by
  simp only[place,Qm,Wv]at h hs⊢;exact vk h hs hq
 |.pair a c,pre,b,off,.snd::p,q,b',K8,o,s,s',h,hs,hq=>by
  simp only[place,Qm,Wv]at h hs⊢;exact vk h hs hq
 |.arr n t,pre,b,off,.idx i::p,q,b',K8,o,s,s',h,hs,hq=>by
  simp only[place,Qm,Wv]at h hs⊢;exact vk h hs hq
 |.sl true t,pre,b,off,.idx i::p,q,b',K8,o,s,s',h,hs,hq=>by
  simp only[place,Qm,Wv]at h hs⊢;split at h
  ·exact vk h hs hq
  grind
 |.sl false t,_,_,_,s::_,_,_,_,_,_,_,h,_,_=>by grind[place]
 |.sl true t,_,_,_,.fst::_,_,_,_,_,_,_,h,_,_=>by simp[place]at h
 |.sl true t,_,_,_,.snd::_,_,_,_,_,_,_,h,_,_=>by simp[place]at h
 |.int _,_,_,_,s::_,_,_,_,_,_,_,h,_,_=>by grind[place]
 |.bool,_,_,_,s::_,_,_,_,_,_,_,h,_,_=>by grind[place]
 |.str,_,_,_,s::_,_,_,_,_,_,_,h,_,_=>by grind[place]
 |.unit,_,_,_,s::_,_,_,_,_,_,_,h,_,_=>by grind[place]
 |.ptr _,_,_,_,s::_,_,_,_,_,_,_,h,_,_=>by grind[place]
 |.fn _ _,_,_,_,s::_,_,_,_,_,_,_,h,_,_=>by grind[place]
 |.tree _,_,_,_,s::_,_,_,_,_,_,_,h,_,_=>by grind[place]
 |.pair _ _,_,_,_,.idx _::_,_,_,_,_,_,_,h,_,_=>by simp[place]at h
 |.arr _ _,_,_,_,.fst::_,_,_,_,_,_,_,h,_,_=>by simp[place]at h
 |.arr _ _,_,_,_,.snd::_,_,_,_,_,_,_,h,_,_=>by simp[place]at h
end
end Go.Kz
namespace Go.Kz
variable {R:Type}
theorem DK:(t:Ty)->(z3v t).size=t.size
 |.tree k=>(AF k).symm
 |.int _ |.bool |.str |.unit |.pair _ _ |.arr _ _ |.sl _ _ |.ptr _ |.fn _ _=>rfl
theorem z3w:(t:Ty)->(d:t.den)->(zcr t d).ids=[]
 |.tree _,_ |.int _,_ |.bool,_ |.str,_ |.unit,_ |.pair _ _,_ |.arr _ _,_ |.sl _ _,_ |.ptr _,_ |.fn _ _,_=>rfl
theorem zcq{w:World}{g:z8}{ob:qQ}{v:Value}:{t:Ty}->{d:t.den}->qy w g ob (.data (.ptr t) d) v->qy w g ob (zcr t d) v
 |.tree k,x,h=>by
  simp only[qy]at h;simp only[zcr,qy];obtain⟨cs,⟨qU,b,off,c,e,fz,rfl,ht,hb,hs,hr⟩,hv⟩:=h;have hz:(Ty.tree k).size=(Ty.pair (xq k) (xz k)).size:=AF k;rw[hz]at hs hr
  exact⟨_,⟨z52 k,b,off,c,e,fz,rfl,ht,hb,hs,zM.Ks.1 hr⟩,hv⟩
 |.int _,_,h |.bool,_,h |.str,_,h |.unit,_,h |.pair _ _,_,h |.arr _ _,_,h |.sl _ _,_,h |.ptr _,_,h |.fn _ _,_,h=>h
section
variable {P:Program}{o:Oper}{a:Act}{w:World}{K:Act->World->Prop}{Q:Exit->Act->World->Prop}{c:Ctx}{σ:St}{g:z8}{k:St->Option R}{r:R}{base:Nat}
theorem z5h(wi:gH P c.tt){t:TypeId}{x i:Operand}(ho:o.op=.indexAddr t x i)(zq:zP c.ntmps g w a σ)(h:qq c σ base o k=some r):vH P o a w g σ c k r:=by
 simp only[qq,ho]at h;split at h
 ·rename_i av ki j u hx hi hu;have hT:=wi _ _ hu;obtain⟨ex,ef⟩:=qH zq hx;obtain⟨vi,_⟩:=jo (qH zq hi).1;unfold ux at h;split at h
  ·-- read-only slice
   rename_i ow t' l ow' u';simp only[qZ]at hT;obtain⟨⟨E,qB,hE⟩,_⟩:=hT
   cases hs:(z3v t').sk.same u'.sk with
   |false=>grind
   |true=>
    rw[hs]at h;have po:=Sk.qJ hs;have ql:u'.size=t'.size:=by grind[DK,Ty.zX]
    simp only[zJ,Zh]at h;obtain⟨d,hd,h⟩:=h;obtain⟨h0,wu,rfl,yP⟩:=jt hd;simp only[qy]at ex;obtain⟨cs,⟨qU,zN⟩,hv⟩:=ex
    cases ow with
    |true=>grind[Ty.zW]
    |false=>
     obtain⟨b,cp,rfl,h1,h2,h3⟩:=zN;obtain⟨bk,off,cc,e,fz,rfl,ze,zZ,Xw,vw⟩:=h3 (by grind);have je:a.eval x=.slice (some ⟨bk,off,none⟩) (List.length l) cp:=hv;refine Qy (v:=.pointer (some ⟨bk,off+j.toNat*t'.size,none⟩)) ?_ ?_ (λm _=>by simp[z3w]) h
     ·intro w' _;simp[execOp,ho,je,vi,run_indexAt_slice qB hE.info bk off _ cp ki j h0 yP w',ql]
     ·refine zcq ?_;simp only[qy];refine⟨_,⟨by grind[Ty.zW],bk,off+j.toNat*t'.size,cc,e,fz,rfl,ze,zZ,?_,vw _ wu⟩,rfl⟩;have:(j.toNat+1)*t'.size<=List.length l*t'.size:=wI _ wu
      grind
  ·-- pointer to a read-only array
   rename_i n t' l m u';simp only[qZ]at hT;obtain⟨⟨E,qB,hE⟩,_⟩:=hT
   cases hs:(Nat.beq n m&&t'.sk.same u'.sk) with
   |false=>grind
   |true=>
    rw[hs]at h;simp only[zA]at hs;have YL:n=m:=zE hs.1;subst YL;have po:=Sk.qJ hs.2;have ql:u'.size=t'.size:=by grind[Ty.zX]
    simp only[zJ,Zh]at h;obtain⟨d,hd,h⟩:=h;rw[zeb]at hd;obtain⟨h0,wu,rfl,yP⟩:=jt hd;simp only[qy]at ex;obtain⟨cs,⟨qU,bk,off,cc,e,fz,rfl,ze,zZ,Xw,hl,ZA,vw⟩,hv⟩:=ex;have je:a.eval x=.pointer (some ⟨bk,off,none⟩):=hv;have WS:j.toNat<n:=by omega
    have hmul:(j.toNat+1)*t'.size<=n*t'.size:=wI _ WS;rw[kK]at hmul;simp only[Ty.size]at Xw;refine Qy (v:=.pointer (some ⟨bk,off+j.toNat*t'.size,none⟩)) ?_ ?_ (λm _=>by simp[z7.ids]) h
    ·intro w' _;simp[execOp,ho,je,vi,x6 qB hE.info bk off ki j h0 (by omega) w',ql]
    ·simp only[qy];refine⟨_,⟨by grind[Ty.zW],bk,off+j.toNat*t'.size,cc,e,fz,rfl,ze,zZ,by omega,?_⟩,rfl⟩;have:=vw _ wu;simp only[Ty.size]at this;rw[uP _ _ _ _ _ (by omega)]at this;exact this
  ·-- a row of zqb own
   rename_i id p ep ow' u';simp only[qZ]at hT;obtain⟨⟨E,qB,hE⟩,_⟩:=hT;obtain⟨t',l,zg,rfl,qU,h⟩:=kR zq.heap h
   cases hs:t'.sk.same u'.sk with
   |false=>grind
   |true=>
    rw[hs]at h;have po:=Sk.qJ hs;have ql:u'.size=t'.size:=by grind[Ty.zX]
    simp only[zJ]at h;obtain⟨u6,h⟩:=qT h;obtain⟨h0,yP⟩:=GG u6;simp only[qy]at ex;obtain⟨cs,⟨v,rfl,qN,hv⟩,je⟩:=ex;have e1:=(hv _ _ _ zg).2 rfl;obtain⟨ad,cp,_,yU,h1,h2,h3⟩:=(zq.heap.z6 _ _ zg).2;rcases h3 with⟨_,hl,_⟩|⟨bk,off,cc,e,rfl,ze,zZ,Xw,vw⟩
    ·omega
    ·have xy:a.eval x=.slice (some ⟨bk,off,none⟩) l.length cp:=by rw[<-yU,<-e1];exact je
     refine Qy (v:=.pointer (some ⟨bk,off+j.toNat*t'.size,none⟩)) ?_ ?_ (λm hm=>by grind[z7.ids]) h
     ·intro w' _;simp[execOp,ho,xy,vi,run_indexAt_slice qB hE.info bk off _ cp ki j h0 yP w',ql]
     ·simp only[qy];refine⟨_,⟨_,rfl,rfl,λt1 l1 e1 jk=>?_⟩,rfl⟩
      grind[place]
  ·-- a part of a row of zqb own
   rename_i id p ep av bv ow' u';simp only[qZ]at hT;obtain⟨⟨E,qB,hE⟩,_⟩:=hT;obtain⟨t',l,zg,rfl,qU,h⟩:=kR zq.heap h
   cases hs:t'.sk.same u'.sk with
   |false=>grind
   |true=>
    rw[hs]at h;have po:=Sk.qJ hs;have ql:u'.size=t'.size:=by grind[Ty.zX]
    simp only[zJ]at h;obtain⟨u6,h⟩:=qT h;simp only[zA,jc]at u6;obtain⟨h0,yP⟩:=u6;simp only[qy]at ex;obtain⟨cs,⟨v,rfl,qN,hv⟩,je⟩:=ex;obtain⟨_,ha0,Kh,Vo,e1⟩:=(hv _ _ _ zg).2 rfl;obtain⟨ad,cp,_,yU,h1,h2,h3⟩:=(zq.heap.z6 _ _ zg).2;rcases h3 with⟨_,hl,_⟩|⟨bk,off,cc,e,rfl,ze,zZ,Xw,vw⟩
    ·omega
    ·have xy:a.eval x=.slice (some ⟨bk,off+av.toNat*t'.size,none⟩) (bv-av).toNat (cp-av.toNat):=by
      rw[je];show v=_
      grind[j5,Addr.add_lit]
     refine Qy (v:=.pointer (some ⟨bk,off+(av+j).toNat*t'.size,none⟩)) ?_ ?_ (λm hm=>by grind[z7.ids]) h
     ·intro w' _;have q1u:∀x:Int,x<bv-av->x<(((bv-av).toNat:Nat):Int):=λx hx=>by omega
      have hj3:=q1u j yP;have e3:off+av.toNat*t'.size+j.toNat*t'.size=off+(av+j).toNat*t'.size:=by
       have:(av+j).toNat=av.toNat+j.toNat:=by omega
       grind
      simp[execOp,ho,xy,vi,run_indexAt_slice qB hE.info bk _ _ (cp-av.toNat) ki j h0 hj3 w',ql,e3]
     ·simp only[qy];refine⟨_,⟨_,rfl,rfl,λt1 l1 e1 jk=>?_⟩,rfl⟩
      grind[place]
  ·-- a row of rows,or one of its rows: see below
   grind[noP,Cm,Cn]
  ·-- an array zpw is a variable
   rename_i id p m u';simp only[qZ]at hT;obtain⟨⟨E,qB,hE⟩,_⟩:=hT;obtain⟨xc,x',off,cc,e,zg,h2,jH,zZ,ze,hle,QI,zt3⟩:=Qi zq.heap h;split at h2
   ·rename_i n t' l
    cases hs:(Nat.beq n m&&t'.sk.same u'.sk) with
    |false=>grind
    |true=>
     rw[hs]at h2;simp only[zA]at hs;have YL:n=m:=zE hs.1;subst YL;have po:=Sk.qJ hs.2;have ql:u'.size=t'.size:=by grind[Ty.zX]
     simp only[zJ]at h2;obtain⟨u6,h2⟩:=qT h2;obtain⟨h0,yP⟩:=GG u6;have Sj:List.length l=n:=QI.2.1;simp only[qy]at ex;obtain⟨cs,⟨v,rfl,qN,hv⟩,je⟩:=ex;obtain⟨K8,s,kL,uZ⟩:=hv _ zg;rw[jH]at kL;simp only[zI,p8]at kL;obtain⟨rfl,_⟩:=kL;have xy:a.eval x=.pointer (some ⟨g.qY id,off,none⟩):=by rw[je];exact uZ
     refine Qy (v:=.pointer (some ⟨g.qY id,off+j.toNat*t'.size,none⟩)) ?_ ?_ (λm hm=>by grind[z7.ids]) h2
     ·intro w' _;simp[execOp,ho,xy,vi,x6 qB hE.info (g.qY id) off ki j h0 (by omega) w',ql]
     ·simp only[qy];refine⟨_,⟨_,rfl,rfl,λx1 jk=>?_⟩,rfl⟩;rw[zg]at jk;simp only[zI,Obj.cell.injEq]at jk;subst jk;rw[Sk.Z3 _ jH]
      grind[z7.sk,Ty.sk,Sk.off,Ty.zX]
   grind
  ·-- an array zpw is an element of a row
   rename_i id p ep m u';simp only[qZ]at hT;obtain⟨⟨E,qB,hE⟩,_⟩:=hT;split at h
   ·simp at h
   ·rename_i s q;obtain⟨t0,l0,Ht⟩:=ZY h;simp only[qy]at ex;obtain⟨cs,⟨v,rfl,qN,hv⟩,je⟩:=ex;obtain⟨hp,b0,j6,gX,uZ⟩:=(hv _ _ _ Ht).2 rfl;obtain⟨t1,l1,u1,e1,b,off,cc,ee,CR,qU,hk,Oq,gQ,wM,ze,zZ,ql,zN⟩:=xf zq.heap hp h;rw[Ht]at CR;simp only[zI,Obj.row.injEq]at CR;obtain⟨rfl,_,_⟩:=CR;rw[gX]at gQ;simp only[zI,p8]at gQ;obtain⟨rfl,rfl⟩:=gQ;split at hk
    ·rename_i n t' l
     cases hs:(Nat.beq n m&&t'.sk.same u'.sk) with
     |false=>grind
     |true=>
      rw[hs]at hk;simp only[zA]at hs;have YL:n=m:=zE hs.1;subst YL;have po:=Sk.qJ hs.2;have ZX:u'.size=t'.size:=by grind[Ty.zX]
      simp only[zJ]at hk;obtain⟨u6,hk⟩:=qT hk;obtain⟨h0,yP⟩:=GG u6;have Sj:List.length l=n:=zN.1;have xy:a.eval x=.pointer (some ⟨b0,j6,none⟩):=by rw[je];exact uZ
      refine Qy (v:=.pointer (some ⟨b0,j6+j.toNat*t'.size,none⟩)) ?_ ?_ (λm hm=>by grind[z7.ids]) hk
      ·intro w' _;simp[execOp,ho,xy,vi,x6 qB hE.info b0 j6 ki j h0 (by omega) w',ZX]
      ·simp only[qy];refine⟨_,⟨_,rfl,rfl,λt2 l2 e2 jk=>?_⟩,rfl⟩;rw[Ht]at jk;simp only[zI,Obj.row.injEq]at jk;obtain⟨rfl,_,rfl⟩:=jk;refine⟨jq _,λ_=>⟨by simp,b0,j6+j.toNat*t'.size,?_,rfl⟩⟩;refine vk (s':=t'.sk) gX wM ?_
       grind[Ty.sk,Sk.off,Ty.zX]
    grind
  grind
 grind
theorem z5i(wi:gH P c.tt){t:TypeId}{x:Operand}{i:Nat}(ho:o.op=.fieldAddr t x i)(zq:zP c.ntmps g w a σ)(h:qq c σ base o k=some r):vH P o a w g σ c k r:=by
 simp only[qq,ho]at h;split at h
 ·rename_i av u hx hu;have hT:=wi _ _ hu;obtain⟨ex,ef⟩:=qH zq hx;unfold Q4 at h;split at h
  ·rename_i t' d
   cases hs:t'.sk.same u.sk with
   |false=>grind
   |true=>
    rw[hs]at h;simp only[zJ]at h;have po:=Sk.qJ hs;simp only[qy]at ex;obtain⟨cs,⟨qU,b,off,cc,e,fz,rfl,ze,zZ,ql,zN⟩,hv⟩:=ex;have je:a.eval x=.pointer (some ⟨b,off,none⟩):=hv;have gU:t'.zW=true:=by grind[Ty.zW]
    have wM:=Y5 po (Vr gU h);obtain⟨u2,e2,o2,hk,hu2,CO,Ov⟩:=QS gU zN h;obtain⟨o3,s3,ho3,zn⟩:=uM hT wM b off;rw[<-po,CO]at ho3;simp only[zI,p8]at ho3;obtain⟨rfl,_⟩:=ho3;have hle:=Sk.we CO;rw[Ty.zX,Ty.zX]at hle;refine Qy (v:=.pointer (some ⟨b,off+o2,none⟩)) ?_ ?_ (λm _=>by simp[z7.ids]) hk
    ·intro w' _;simp[execOp,ho,je,zn]
    ·simp only[qy];refine⟨_,⟨by grind[Ty.zW],b,off+o2,cc,e,fz,rfl,ze,zZ,by omega,?_⟩,rfl⟩
     grind[uP]
  ·rename_i id p;obtain⟨xc,x',off,cc,e,zg,h2,jH,zZ,ze,hle,QI,zt3⟩:=Qi zq.heap h
   cases hs:(x'.sk.same u.sk&&(vP u (qL i)).isSome) with
   |false=>grind
   |true=>
    rw[hs]at h2;simp only[zJ]at h2;simp only[zA]at hs;have po:=Sk.qJ hs.1;simp only[qy]at ex;obtain⟨cs,⟨v,rfl,qN,hv⟩,je⟩:=ex;obtain⟨K8,s,kL,uZ⟩:=hv _ zg;rw[jH]at kL;simp only[zI,p8]at kL;obtain⟨rfl,_⟩:=kL;have xy:a.eval x=.pointer (some ⟨g.qY id,off,none⟩):=by rw[je];exact uZ
    obtain⟨o3,s3,ho3,zn⟩:=uM hT hs.2 (g.qY id) off;refine Qy (v:=.pointer (some ⟨g.qY id,off+o3,none⟩)) ?_ ?_ (λm hm=>by grind[z7.ids]) h2
    ·intro w' _;simp[execOp,ho,xy,zn]
    ·simp only[qy];refine⟨_,⟨_,rfl,rfl,λx1 jk=>?_⟩,rfl⟩
     grind[Sk.Z3]
  ·rename_i id p ep;split at h
   ·simp at h
   ·rename_i s q;obtain⟨t0,l0,Ht⟩:=ZY h;simp only[qy]at ex;obtain⟨cs,⟨v,rfl,qN,hv⟩,je⟩:=ex;obtain⟨hp,b0,j6,gX,uZ⟩:=(hv _ _ _ Ht).2 rfl;obtain⟨t1,l1,u1,e1,b,off,cc,ee,CR,qU,hk,Oq,gQ,wM,ze,zZ,ql,zN⟩:=xf zq.heap hp h;rw[Ht]at CR;simp only[zI,Obj.row.injEq]at CR;obtain⟨rfl,_,_⟩:=CR;rw[gX]at gQ;simp only[zI,p8]at gQ;obtain⟨rfl,rfl⟩:=gQ
    cases hs:(u1.sk.same u.sk&&(vP u (qL i)).isSome) with
    |false=>grind
    |true=>
     rw[hs]at hk;simp only[zJ]at hk;simp only[zA]at hs;have po:=Sk.qJ hs.1;have xy:a.eval x=.pointer (some ⟨b0,j6,none⟩):=by rw[je];exact uZ
     obtain⟨o3,s3,ho3,zn⟩:=uM hT hs.2 b0 j6;refine Qy (v:=.pointer (some ⟨b0,j6+o3,none⟩)) ?_ ?_ (λm hm=>by grind[z7.ids]) hk
     ·intro w' _;simp[execOp,ho,xy,zn]
     ·simp only[qy];refine⟨_,⟨_,rfl,rfl,λt2 l2 e2 jk=>?_⟩,rfl⟩
      grind[vk]
  ·-- an element of a row of rows
   rename_i id p ep
   cases hho:Zj σ id with
   |true=>
    rw[hho]at h;simp only[zJ]at h;unfold Sz at h;split at h
    ·rename_i j t1 l1 e1 i1 z7p zg;have hb:=(KC h).1;replace h:=(KC h).2;simp only[zA]at hb;have XD:=zE hb.1.1;subst XD;have po:=Sk.qJ hb.1.2;simp only[qy]at ex;obtain⟨cs,⟨v,rfl,qN,hv⟩,je⟩:=ex;obtain⟨hp,b0,j6,gX,uZ⟩:=((hv _ _ _ _ _ zg).2 rfl).2 rfl;have xy:a.eval x=.pointer (some ⟨b0,j6,none⟩):=by rw[je];exact uZ
     obtain⟨o3,s3,ho3,zn⟩:=uM hT hb.2 b0 j6;refine Qy (v:=.pointer (some ⟨b0,j6+o3,none⟩)) ?_ ?_ (λm hm=>by grind[z7.ids]) h
     ·intro w' _;simp[execOp,ho,xy,zn]
     ·simp only[qy];refine⟨_,⟨_,rfl,rfl,λt2 l2 e2 i2 h2 jk=>?_⟩,rfl⟩;rw[zg]at jk;simp only[zI,Obj.nest.injEq]at jk;obtain⟨rfl,_,rfl,rfl,_⟩:=jk;refine⟨jq _,λ_=>⟨λh=>(by simp at h),λ_=>⟨by simp,b0,j6+o3,?_,rfl⟩⟩⟩;have wM:Wv (.sl true t1) [.idx j]=some t1.sk:=by simp[Wv]
      grind[vk]
    grind
   |false=>
   rw[hho]at h;simp only[zU]at h;obtain⟨t1,l1,e1,i1,_,zg,Fo,zN,hk⟩:=Vh zq.heap h;simp only[qy]at ex;obtain⟨cs,⟨v,rfl,qN,hv⟩,je⟩:=ex;obtain⟨hp,b0,j6,gX,uZ⟩:=((hv _ _ _ _ _ zg).2 Fo).2 rfl
   cases p with
   |nil=>grind
   |cons s q=>
    obtain⟨u1,x1,bh,oh,ch,eh,ph,hk,gQ,wM,_,ze,zZ,ql,hr⟩:=Z6 zN hk
    cases hs:(u1.sk.same u.sk&&(vP u (qL i)).isSome) with
    |false=>grind
    |true=>
     rw[hs]at hk;simp only[zJ]at hk;simp only[zA]at hs;have po:=Sk.qJ hs.1;have xy:a.eval x=.pointer (some ⟨b0,j6,none⟩):=by rw[je];exact uZ
     obtain⟨o3,s3,ho3,zn⟩:=uM hT hs.2 b0 j6;refine Qy (v:=.pointer (some ⟨b0,j6+o3,none⟩)) ?_ ?_ (λm hm=>by grind[z7.ids]) hk
     ·intro w' _;simp[execOp,ho,xy,zn]
     ·simp only[qy];refine⟨_,⟨_,rfl,rfl,λt2 l2 e2 i2 h2 jk=>?_⟩,rfl⟩;rw[zg]at jk;simp only[zI,Obj.nest.injEq]at jk;obtain⟨rfl,_,rfl,rfl,_⟩:=jk;have XD:i1=ep:=Fo;refine⟨Z3d XD.symm,λ_=>⟨λh=>(by simp at h),λ_=>⟨by simp,b0,j6+o3,?_,rfl⟩⟩⟩
      grind[vk]
  grind
 grind
theorem DM{T:TypeId}{u:Ty}(hT:qZ P u T)(w:World):(isAgg T).run P w=.ok u.sk.isAgg w:=by
 unfold isAgg;rw[Sem.run_bind]
 cases u with
 |int _=>simp only[qZ]at hT;rw[run_underlying hT.1];rfl
 |bool=>simp only[qZ]at hT;rw[run_underlying hT.1];rfl
 |str=>simp only[qZ]at hT;rw[run_underlying hT.1];rfl
 |unit=>grind[qZ]
 |pair x y=>simp only[qZ]at hT;obtain⟨⟨fs,h,_⟩,_⟩:=hT;rw[run_underlying h];rfl
 |arr n t=>simp only[qZ]at hT;obtain⟨⟨E,h,_⟩,_⟩:=hT;rw[run_underlying h];rfl
 |sl _ t=>simp only[qZ]at hT;obtain⟨⟨E,h,_⟩,_⟩:=hT;rw[run_underlying h];rfl
 |ptr _=>simp only[qZ]at hT;obtain⟨⟨E,h⟩,_⟩:=hT;rw[run_underlying h];rfl
 |fn _ _=>simp only[qZ]at hT;obtain⟨⟨x,y,z,h⟩|⟨x,y,h⟩,_⟩:=hT<;>rw[run_underlying h]<;>rfl
 |tree _=>simp only[qZ]at hT;obtain⟨⟨_,_,fs,h⟩,_⟩:=hT;rw[run_underlying h];rfl
theorem qZ.zq5{T:TypeId}{u:Ty}(hT:qZ P u T)(h:u.sk.isAgg=false):u.size=1:=by
 cases u<;>simp[Ty.sk,Sk.isAgg]at h<;>simp[Ty.size]
theorem Jc{T:TypeId}{u:Ty}(hT:qZ P u T){b off:Nat}{cc:Array Value}{e:TypeId}{fz:Nat×Nat}(hc:w.heap[b]? = some (.cells cc e fz))(hs:off+u.size<=cc.size):
  (loadVar T ⟨b,off,none⟩).run P w=.ok (jl u.sk.isAgg (qi cc.toList off u.size)) w:=by
 have w8:=DM hT w;have hlen:(qi cc.toList off u.size).length=u.size:=yO (by omega);unfold loadVar;rw[Sem.run_bind,w8]
 cases hu:u.sk.isAgg with
 |true=>
  have hl:=run_loadCells_list (P:=P) w ⟨b,off,none⟩ (qi cc.toList off u.size) (λj v hv=>by
   grind[Addr.add_lit,cell_of_row,qi])
  rw[hlen]at hl;have ql:=hT.info.sizeOf w
  simp[hl,ql,jl]
 |false=>
  have h1:=hT.zq5 hu;rw[h1]at hs;have zZ:w.cell? ⟨b,off,none⟩=some cc[off]:=by
   rw[cell_of_row w b off cc e fz hc];grind
  have q0w:qi cc.toList off u.size=[cc[off]]:=by
   grind[qi,List.drop_eq_getElem_cons]
  simp_all[jl]
theorem jh{av:z7}(h:av.val=true):av.isAgg=av.sk.isAgg/\(∀x y,av≠.pr x y)/\av≠.un/\∀x,av≠.jD x:=by
 cases av with
 |agg x=>cases x<;>simp[z7.val]at h<;>simp[z7.isAgg,z7.sk,Sk.isAgg]
 |data t d=>simp[z7.isAgg,z7.sk]
 |pr=>simp[z7.val]at h
 |un=>simp[z7.val]at h
 |jD=>simp[z7.val]at h
 |_=>simp[z7.isAgg,z7.sk,Sk.isAgg]
theorem Lu{n:Nat}{av:z7}{xv:Value}{f:z7->Option R}(zq:zP n g w a σ)(ex:qy w g σ.z6 av xv)(ef:∀m,zu g σ m->m∉av.ids)(h:ZR σ av f=some r):
  ∃lv b off cc e fz,xv=.pointer (some ⟨b,off,none⟩)/\w.heap[b]? = some (.cells cc e fz)/\off+lv.sk.size<=cc.size/\
   jO w g σ.z6 lv (qi cc.toList off lv.sk.size)/\(∀m,zu g σ m->m∉lv.ids)/\f lv=some r:=by
 unfold ZR at h;split at h
 ·rename_i t' d;simp only[qy]at ex;obtain⟨cs,⟨qU,b,off,cc,e,fz,rfl,ze,zZ,ql,zN⟩,hv⟩:=ex;exact⟨.data t' d,b,off,cc,e,fz,hv,zZ,by grind[z7.sk,Ty.zX],⟨by grind[Ty.zW],by grind[z7.sk,Ty.zX]⟩,λm _=>by simp[z7.ids],h⟩
 ·rename_i id p ep;split at h
  ·simp at h
  ·rename_i s q;obtain⟨t0,l0,Ht⟩:=ZY h;simp only[qy]at ex;obtain⟨cs,⟨v,rfl,qN,hv⟩,je⟩:=ex;obtain⟨hp,b0,j6,gX,uZ⟩:=(hv _ _ _ Ht).2 rfl;obtain⟨t1,l1,u1,e1,b,off,cc,ee,CR,qU,hk,Oq,gQ,wM,ze,zZ,ql,zN⟩:=xf zq.heap hp h;rw[Ht]at CR;simp only[zI,Obj.row.injEq]at CR;obtain⟨rfl,_,_⟩:=CR;rw[gX]at gQ;simp only[zI,p8]at gQ;obtain⟨rfl,rfl⟩:=gQ;exact⟨.data u1 e1,b0,j6,cc,ee,(0,0),by rw[je];exact uZ,zZ,by grind[z7.sk,Ty.zX],⟨Oq,by grind[z7.sk,Ty.zX]⟩,λm _=>by simp[z7.ids],hk⟩
 ·rename_i id p;obtain⟨xc,y,off,cc,e,zg,h2,jH,zZ,ze,hle,QI,hi⟩:=Qi zq.heap h;simp only[qy]at ex;obtain⟨cs,⟨v,rfl,qN,hv⟩,je⟩:=ex;obtain⟨K8,s,kL,uZ⟩:=hv _ zg;rw[jH]at kL;simp only[zI,p8]at kL;obtain⟨rfl,_⟩:=kL;exact⟨y,g.qY id,off,cc,e,(0,0),by rw[je];exact uZ,zZ,hle,QI,λm hm=>hi m (hm.cells _ _ zg),h2⟩
 ·rename_i id p ep;obtain⟨t1,l1,e1,i1,_,zg,Fo,zN,hk⟩:=Vh zq.heap h;simp only[qy]at ex;obtain⟨cs,⟨v,rfl,qN,hv⟩,je⟩:=ex;obtain⟨hp,b0,j6,gX,uZ⟩:=((hv _ _ _ _ _ zg).2 Fo).2 rfl
  cases p with
  |nil=>grind
  |cons s q=>
   obtain⟨u1,x1,bh,oh,ch,eh,ph,hk,gQ,wM,_,ze,zZ,ql,hr⟩:=Z6 zN hk;rw[gX]at gQ;simp only[zI,p8]at gQ;obtain⟨rfl,rfl⟩:=gQ
   cases qU:u1.zW with
   |true=>
    rw[qU]at hk
    exact⟨.data u1 x1,b0,j6,ch,eh,(0,0),by rw[je];exact uZ,zZ,by grind[z7.sk,Ty.zX],⟨qU,by grind[z7.sk,Ty.zX,zM.yy]⟩,λm _=>by simp[z7.ids],hk⟩
   |false=>
    rw[qU]at hk;simp only[zU]at hk;split at hk
    ·rename_i v1;obtain⟨ad,cp,Zw,yU,_⟩:=hr;refine⟨.nv false id (s::q) ep,b0,j6,ch,eh,(0,0),by rw[je];exact uZ,zZ,ql,⟨_,Zw,rfl,λt2 l2 e2 i2 h2 jk=>?_⟩,λm hm=>by grind[z7.ids],hk⟩;rw[zg]at jk;simp only[zI,Obj.nest.injEq]at jk;obtain⟨rfl,_,rfl,rfl,_⟩:=jk;have XD:i1=ep:=Fo;exact⟨Z3d XD.symm,λ_=>⟨λ_=>yU.symm,λh=>(by simp at h)⟩⟩
    grind
 grind
theorem zdk(wi:gH P c.tt){t:TypeId}{x:Operand}(ho:o.op=.load t x)(zq:zP c.ntmps g w a σ)(h:qq c σ base o k=some r):vH P o a w g σ c k r:=by
 simp only[qq,ho]at h;split at h
 ·rename_i av u hx hu;have hT:=wi _ _ hu;obtain⟨ex,ef⟩:=qH zq hx;have key:=Lu zq ex ef h;obtain⟨lv,b,off,cc,e,fz,hv,zZ,hle,zc,v7,JU⟩:=key
  cases hb:(lv.val&&u.sk.same lv.sk) with
  |false=>grind
  |true=>
   rw[hb]at JU;simp only[zJ]at JU;simp only[zA]at hb;have po:=Sk.qJ hb.2;obtain⟨w8,WR,GX,Og⟩:=jh hb.1;have ql:u.size=lv.sk.size:=by grind[Ty.zX]
   refine Qy (v:=jl u.sk.isAgg (qi cc.toList off u.size)) ?_ ?_ v7 JU
   ·intro w' PD;replace PD:=PD (by simp[isP,ho]);have zn:=Jc (P:=P) (w:=w') hT ((PD b (Z2p.1 zZ).1).trans zZ) (by rw[ql];exact hle);simp_all[execOp,Instr.loadAt,Instr.sureAddr]
   grind[y8]
 grind
end
end Go.Kz
namespace Go.Kz
variable {R:Type}
structure jB (g:z8) (E4:qQ) (g':z8) (kq:qQ):Prop where
 sv:g'.sv=g.sv
 qY:g'.qY=g.qY
 z6:∀i,kq i=E4 i\/kq i=none
 tag:∀b,g'.tag b=g.tag b\/(g'.tag b=.ro/\∃id,E4 id≠none/\kq id=none/\((∃p,g.tag b=.row id p)\/g.tag b=.box id))
theorem jB.refl(g:z8)(z6:qQ):jB g z6 g z6:=⟨rfl,rfl,λ_=>.inl rfl,λ_=>.inl rfl⟩
theorem jB.trans{g g' g'':z8}{o o' o'':qQ}(h:jB g o g' o')(k:jB g' o' g'' o''):jB g o g'' o'':=by
 refine⟨k.sv.trans h.sv,k.qY.trans h.qY,λi=>?_,λb=>?_⟩
 ·rcases k.z6 i with e|e
  ·rw[e];exact h.z6 i
  ·exact .inr e
 ·rcases k.tag b with e|⟨e,id,hs,hn,ht⟩
  ·rcases h.tag b with e2|⟨e2,id,hs,hn,ht⟩
   ·exact .inl (e.trans e2)
   ·refine .inr ⟨e.trans e2,id,hs,?_,ht⟩;rcases k.z6 id with e3|e3
    ·rw[e3];exact hn
    ·exact e3
  ·rcases h.tag b with e2|⟨e2,_,_,_,_⟩
   ·rw[e2]at ht;refine .inr ⟨e,id,λh0=>?_,hn,ht⟩;rcases h.z6 id with e3|e3
    ·rw[e3]at hs;exact hs h0
    ·exact hs e3
   ·rw[e2]at ht;rcases ht with⟨p,ht⟩|ht<;>simp at ht
theorem jB.ro{g g':z8}{o o':qQ}(h:jB g o g' o')(w:World):zS w g w g':=
 ⟨λb hb=>⟨(h.tag b).elim (λe=>by rw[e,hb]) (λe=>e.1),rfl⟩⟩
theorem jB.same{g g':z8}{o o':qQ}(h:jB g o g' o')(w:World){id:Nat}(hid:o' id≠none):Qr w g w g' id:=by
 refine⟨⟨λq=>by rw[h.sv],λq b hb=>⟨?_,rfl⟩⟩,by rw[h.qY],λhb=>⟨?_,rfl⟩⟩
 ·rcases h.tag b with e|⟨_,vT,_,hn,ht⟩
  ·rw[e,hb]
  ·rw[hb]at ht;rcases ht with⟨p,ht⟩|ht
   ·simp only[Tag.row.injEq]at ht;rw[<-ht.1]at hn;exact absurd hn hid
   ·simp at ht
 ·rcases h.tag (g.qY id) with e|⟨_,vT,_,hn,ht⟩
  ·rw[e,hb]
  ·rw[hb]at ht;rcases ht with⟨p,ht⟩|ht
   ·simp at ht
   ·simp only[Tag.box.injEq]at ht;rw[<-ht]at hn;exact absurd hn hid
theorem jB.kept{w:World}{g g':z8}{o o':qQ}(h:jB g o g' o')(hh:yH w g o)(id:Nat):qu g g' id (o id) (o' id):=by
 rcases h.z6 id with e|e
 ·rw[e];by_cases hn:o' id=none
  ·left;rw[<-e];exact hn
  ·exact qu.same (h.same w hn)
 ·exact .inl e
theorem jB.heap{w:World}{g g':z8}{o o':qQ}(h:jB g o g' o')(hh:yH w g o):yH w g' o':=by
 refine⟨λid x hx=>?_,λb hb=>?_⟩
 ·have hid:o' id≠none:=by rw[hx];simp
  have QF:o id=some x:=by
   rcases h.z6 id with e|e
   ·rw[<-e];exact hx
   ·exact absurd e hid
  exact qz.frame (h.ro w) (h.same w hid) (λa ha vT _=>h.kept hh vT) (hh.z6 id x QF)
 ·refine hh.tags b ?_;rcases h.tag b with e|⟨_,vT,_,_,ht⟩
  ·rw[<-e];exact hb
  ·rcases ht with⟨p,ht⟩|ht<;>rw[ht]<;>simp
theorem jB.ext{w:World}{g g':z8}{o o':qQ}(h:jB g o g' o'):Ext w g w g':=by
 refine⟨rfl,rfl,rfl,jq _,jq _,λb _ ht=>⟨rfl,?_⟩⟩;rcases h.tag b with e|⟨_,vT,_,_,h2⟩
 ·exact e
 ·rcases h2 with⟨p,h2⟩|h2<;>rw[h2]at ht<;>simp at ht
theorem jB.fresh{g g':z8}{σ σ':St}{m:Nat}(h:jB g σ.z6 g' σ'.z6)(hs:σ'.zy=σ.zy)(hf:zu g σ m):zu g' σ' m:=by
 refine⟨?_,λb p hb=>?_,λb hb=>?_,λi av hi=>hf.zy i av (by rw[<-hs];exact hi),λid av hi=>hf.cells id av ?_⟩
 ·rcases h.z6 m with e|e
  ·rw[e];exact hf.z6
  ·exact e
 ·rcases h.tag b with e|⟨e,_⟩
  ·rw[e]at hb;exact hf.row b p hb
  ·rw[e]at hb;simp at hb
 ·rcases h.tag b with e|⟨e,_⟩
  ·rw[e]at hb;exact hf.box b hb
  ·rw[e]at hb;simp at hb
 ·rcases h.z6 id with e|e
  ·rw[<-e];exact hi
  ·rw[e]at hi;simp at hi
theorem jB.st{n:Nat}{w:World}{a:Act}{g g':z8}{σ σ':St}(h:jB g σ.z6 g' σ'.z6)(hs:σ'.zy=σ.zy)(zq:zP n g w a σ):zP n g' w a σ':=by
 refine⟨λi av hi=>?_,h.heap zq.heap,zq.size,zq.defers,zq.known.kept (h.ro w)⟩;rw[hs]at hi;obtain⟨v,hv,zc⟩:=zq.zy i av hi;exact⟨v,hv,qy.frame (h.ro w) (λid _=>h.kept zq.heap id) zc⟩
def uC(g:z8)(id:Nat):z8:={ g with tag:=λb=>match g.tag b with
 |.row i p=>if i=id then .ro else .row i p
 |.box i=>if i=id then .ro else .box i
 |t=>t }
theorem wx{g:z8}{σ:St}(id:Nat)(hid:σ.z6 id≠none):jB g σ.z6 (uC g id) (σ.kill id).z6:=by
 refine⟨rfl,rfl,λi=>?_,λb=>?_⟩
 ·simp only[St.kill,Y4];cases Nat.beq i id<;>simp
 ·simp only[uC]
  cases hb:g.tag b with
  |qw=>left;rfl
  |ro=>left;rfl
  |row i p=>
   by_cases hi:i=id
   ·right;simp only[hi,Z1x];exact⟨trivial,id,hid,by simp[St.kill,Y4],.inl ⟨p,rfl⟩⟩
   ·left;simp[hi]
  |box i=>
   by_cases hi:i=id
   ·right;simp only[hi,Z1x];exact⟨trivial,id,hid,by simp[St.kill,Y4],.inr rfl⟩
   ·left;simp[hi]
theorem Vf{t:Ty}{k:t.den->Option R}{r:R}(h:FC t k=some r):∃o u,∃e:t=.sl o u,k (e ▸ ([]:List u.den))=some r:=by
 cases t with
 |sl o u=>exact⟨o,u,rfl,h⟩
 |_=>simp[FC]at h
theorem gS{w:World}:(n:Nat)->{a:z7}->{u:Ty}->{σ:St}->{g:z8}->{k:u.den->St->Option R}->{r:R}->{cs:List Value}->
  yH w g σ.z6->jO w g σ.z6 a cs->u.zW=true->qO n a u σ k=some r->
  ∃d σ' g',k d σ'=some r/\σ'.zy=σ.zy/\σ'.next=σ.next/\jB g σ.z6 g' σ'.z6/\zM w g' none u d cs
 |0,_,_,_,_,_,_,_,_,_,_,h=>by simp[qO]at h
 |n+1,.data t d,u,σ,g,k,r,cs,hh,zc,hu,h=>by
  simp only[qO]at h;obtain⟨_,h,_,zN⟩:=vr h zc.1
  exact⟨_,σ,g,h,rfl,rfl,.refl _ _,zN _ _ _ zc.2⟩
 |n+1,.za,u,σ,g,k,r,cs,hh,zc,hu,h=>by
  simp only[qO]at h;obtain⟨o,v,rfl,h⟩:=Vf h
  cases o with
  |true=>simp[Ty.zW]at hu
  |false=>
   have Uk:cs=[.slice none 0 0]:=zc;subst Uk
   exact⟨_,σ,g,h,rfl,rfl,.refl _ _,none,0,rfl,jq _,v8 _,λhn=>absurd rfl hn⟩
 |n+1,.ref id p ep,u,σ,g,k,r,cs,hh,zc,hu,h=>by
  cases p with
  |cons s q=>simp[qO]at h
  |nil=>
   simp only[qO]at h;split at h
   ·rename_i t l e ho
    cases hb:Nat.beq e ep with
    |false=>rw[hb]at h;simp at h
    |true=>
     have he:e=ep:=zE hb;subst he;rw[hb]at h;simp only[zJ]at h;obtain⟨v,rfl,_,hv⟩:=zc;have yU:=(hv _ _ _ ho).2 rfl;have zg:=hh.z6 id _ ho;split at h
     ·simp[Ty.zW]at hu
     ·rename_i v' kk;obtain⟨_,h,_,GU⟩:=vr h (Ty.gO _);refine⟨_,σ.kill id,uC g id,h,rfl,rfl,wx id (by rw[ho];simp),?_⟩;have hs:=wx (g:=g) (σ:=σ) id (by rw[ho];simp);have hf:=zM.freeze (hs.ro w) (o:=some (id,[])) (show Jw w g w (uC g id) id [] from⟨λq b hb=>⟨by simp only[uC,JD]at hb⊢;rw[hb];simp,rfl⟩⟩) zg.2;rw[<-yU]at hf;exact GU _ _ _ hf
     ·simp at h
   ·simp at h
 |n+1,.zw id p,u,σ,g,k,r,cs,hh,zc,hu,h=>by
  cases u with
  |ptr u=>
   cases p with
   |cons s q=>simp[qO]at h
   |nil=>
    simp only[qO]at h;split at h
    ·rename_i a ho;obtain⟨hnt,h⟩:=Z5 h;obtain⟨c,e,hc,ht,hca⟩:=(hh.z6 id _ ho).out hnt;have hs:=wx (g:=g) (σ:=σ) id (by rw[ho];simp);have q2k:=jO.frame (kq:=(σ.kill id).z6) (hs.ro w) (λi _=>hs.kept hh i) hca;obtain⟨d,σ',g',hk,h1,h2,h3,zN⟩:=gS n (hs.heap hh) q2k (by simpa[Ty.zW]using hu) h;obtain⟨v,rfl,_,hv⟩:=zc;obtain⟨off,s,jH,rfl⟩:=hv _ ho;simp only[Sk.off,zI,p8]at jH;obtain⟨rfl,_⟩:=jH;have ze:(uC g id).tag (g.qY id)=.ro:=by simp[uC,ht]
     refine⟨d,σ',g',hk,h1,h2,hs.trans h3,g.qY id,0,c,e,(0,0),rfl,((h3.ro w).qY _ ze).1,hc,?_,?_⟩
     ·have:=zN.len;rw[gT]at this;omega
     ·have hl:=zN.len;rw[<-hl,gM];exact zN
    ·simp at h
  |_=>cases p<;>simp[qO]at h
 |n+1,.qW f c,u,σ,g,k,r,cs,hh,zc,hu,h=>by
  cases u with
  |fn f' t=>
   simp only[qO]at h
   cases hb:Nat.beq f f' with
   |false=>rw[hb]at h;simp at h
   |true=>
    rw[hb]at h;have he:f=f':=zE hb;subst he;obtain⟨vs,rfl,hc⟩:=zc;obtain⟨d,σ',g',hk,h1,h2,h3,zN⟩:=gS n (a:=c) hh hc (by simpa[Ty.zW]using hu) h
    exact⟨d,σ',g',hk,h1,h2,h3,vs,rfl,zN⟩
  |_=>simp[qO]at h
 |n+1,.agg c,u,σ,g,k,r,cs,hh,zc,hu,h=>by
  simp only[qO]at h
  exact gS n (a:=c) hh zc hu h
 |n+1,.pr a b,u,σ,g,k,r,cs,hh,zc,hu,h=>by
  cases u with
  |pair t u=>
   simp only[qO]at h;simp only[Ty.zW,zA]at hu;obtain⟨c1,c2,rfl,ha,hb⟩:=zc;obtain⟨x,σ1,g1,Y0,h1,h2,h3,ZS⟩:=gS n hh ha hu.1 h;have Zk:=jO.frame (kq:=σ1.z6) (h3.ro w) (λi _=>h3.kept hh i) hb;obtain⟨y,σ2,g2,Kc,h4,h5,h6,ub⟩:=gS n (h3.heap hh) Zk hu.2 Y0
   exact⟨(x,y),σ2,g2,Kc,h4.trans h1,h5.trans h2,h3.trans h6,c1,c2,rfl,ZS.kept (h6.ro w),ub⟩
  |_=>simp[qO]at h
 |n+1,.un,u,σ,g,k,r,cs,hh,zc,hu,h=>by
  cases u with
  |unit=>
   simp only[qO]at h
   exact⟨(),σ,g,h,rfl,rfl,.refl _ _,zc⟩
  |_=>simp[qO]at h
 |n+1,.view _ _ _ _ _,u,σ,g,k,r,cs,hh,zc,hu,h=>by cases u<;>simp[qO]at h
 |n+1,.jV _ _ _,u,σ,g,k,r,cs,hh,zc,hu,h=>by cases u<;>simp[qO]at h
 |n+1,.qF _,u,σ,g,k,r,cs,hh,zc,hu,h=>by cases u<;>simp[qO]at h
 |n+1,.nv true _ _ _,u,σ,g,k,r,cs,hh,zc,hu,h=>by cases u<;>simp[qO]at h
 |n+1,.nv false _ (_::_) _,u,σ,g,k,r,cs,hh,zc,hu,h=>by cases u<;>simp[qO]at h
 |n+1,.nv false id [] ep,u,σ,g,k,r,cs,hh,zc,hu,h=>by
  simp only[qO]at h;split at h
  ·rename_i t l e i ho
   cases hb:Nat.beq e ep with
   |false=>rw[hb]at h;simp at h
   |true=>
    have he:e=ep:=zE hb;subst he;rw[hb]at h;simp only[zJ]at h;obtain⟨v,rfl,_,hv⟩:=zc;have yU:=((hv _ _ _ _ _ ho).2 rfl).1 rfl;have zg:zM w g (some (id,[])) (.sl true t) l [g.sv id []]:=hh.z6 id _ ho;split at h
    ·rename_i v' kk;obtain⟨_,h,_,GU⟩:=vr h (Ty.gO _);refine⟨_,σ.kill id,uC g id,h,rfl,rfl,wx id (by rw[ho];simp),?_⟩;have hs:=wx (g:=g) (σ:=σ) id (by rw[ho];simp);have hf:=zM.freeze (hs.ro w) (o:=some (id,[])) (show Jw w g w (uC g id) id [] from⟨λq b hb=>⟨by simp only[uC,JD]at hb⊢;rw[hb];simp,rfl⟩⟩) zg;rw[<-yU]at hf;exact GU _ _ _ hf
    ·simp at h
  ·simp at h
 |n+1,.jD _,u,σ,g,k,r,cs,hh,zc,hu,h=>zc.elim
theorem WW.one{F:(k:Nat)->Rec k->List Value->Prop}{w:World}{g:z8}(hF:∀k x cs,F k x cs->∀v∈cs,v.oneCell'=true):{t:Ty}->{d:t.den}->{cs:List Value}->WW F w g t d cs->∀v∈cs,v.oneCell'=true
 |.int _,_,_,h=>by obtain⟨rfl,_⟩:=h;simp[Value.oneCell']
 |.bool,_,_,h=>by cases h;simp[Value.oneCell']
 |.str,_,_,h=>by obtain⟨s,rfl,_⟩:=h;simp[Value.oneCell']
 |.unit,_,_,h=>by cases h;simp
 |.pair a b,(x,y),_,h=>by
  obtain⟨c1,c2,rfl,h1,h2⟩:=h;intro v hv;rcases PH.1 hv with hv|hv
  ·exact WW.one hF h1 v hv
  ·exact WW.one hF h2 v hv
 |.arr n t,l,cs,h=>by
  intro v hv;obtain⟨j,hj,rfl⟩:=Wl.1 hv;have hlen:=h.2.1;have htz:0<t.size:=by
   rcases Z4q t.size with hz|hz
   ·rw[hz]at hlen;omega
   ·exact hz
  have hdiv:j/t.size<n:=Z2g (by rw[DZ];omega);have hi:j/t.size<List.length l:=by rw[h.1];exact hdiv
  have hr:=WW.one hF (h.2.2 (j/t.size) hi);refine hr _ ?_;have hm:=Z23 j htz;have hdm:=Z3e j t.size;have hle:(j/t.size+1)*t.size<=n*t.size:=wI _ hdiv;rw[kK]at hle;refine Wl.2 ⟨j%t.size,?_,?_⟩
  ·rw[yO (by omega)];exact hm
  ·simp only[qi,Z40,Z4r];congr 1
   rw[DZ];exact hdm
 |.sl false t,_,_,h=>by obtain⟨a,cap,rfl,_⟩:=h;simp[Value.oneCell']
 |.tree _,_,_,h=>hF _ _ _ h
theorem pJ.one{w:World}{g:z8}:{n k:Nat}->{x:Rec k}->{cs:List Value}->pJ w g n k x cs->∀v∈cs,v.oneCell'=true
 |n+1,_,_,_,h=>WW.one (λ_ _ _ h=>pJ.one h) h
theorem zM.one{w:World}{g:z8}:{o:Ee}->{t:Ty}->{d:t.den}->{cs:List Value}->zM w g o t d cs->∀v∈cs,v.oneCell'=true
 |_,.int _,_,_,h=>by obtain⟨rfl,_⟩:=h;simp[Value.oneCell']
 |_,.bool,_,_,h=>by cases h;simp[Value.oneCell']
 |_,.str,_,_,h=>by obtain⟨s,rfl,_⟩:=h;simp[Value.oneCell']
 |_,.unit,_,_,h=>by cases h;simp
 |_,.pair a b,(x,y),_,h=>by
  obtain⟨c1,c2,rfl,h1,h2⟩:=h;intro v hv;rcases PH.1 hv with hv|hv
  ·exact zM.one h1 v hv
  ·exact zM.one h2 v hv
 |_,.arr n t,l,cs,h=>by
  intro v hv;obtain⟨j,hj,rfl⟩:=Wl.1 hv;have hlen:=h.2.1;have htz:0<t.size:=by
   rcases Z4q t.size with hz|hz
   ·rw[hz]at hlen;omega
   ·exact hz
  have hdiv:j/t.size<n:=Z2g (by rw[DZ];omega);have hi:j/t.size<List.length l:=by rw[h.1];exact hdiv
  have hr:=zM.one (h.2.2 (j/t.size) hi);refine hr _ ?_;have hm:=Z23 j htz;have hdm:=Z3e j t.size;have hle:(j/t.size+1)*t.size<=n*t.size:=wI _ hdiv;rw[kK]at hle;refine Wl.2 ⟨j%t.size,?_,?_⟩
  ·rw[yO (by omega)];exact hm
  ·simp only[qi,Z40,Z4r];congr 1
   rw[DZ];exact hdm
 |_,.sl false t,_,_,h=>by obtain⟨a,cap,rfl,_⟩:=h;simp[Value.oneCell']
 |some (_,_),.sl true t,_,_,h=>by obtain⟨a,cap,rfl,_⟩:=h;simp[Value.oneCell']
 |none,.sl true t,_,_,h=>h.elim
 |_,.ptr t,_,_,h=>by obtain⟨b,off,c,e,fz,rfl,_⟩:=h;simp[Value.oneCell']
 |_,.fn f t,_,_,h=>by obtain⟨vs,rfl,_⟩:=h;simp[Value.oneCell']
 |_,.tree _,_,_,h=>by obtain⟨n,h⟩:=h;exact h.one
theorem jO.one{w:World}{g:z8}{z6:qQ}:{a:z7}->{cs:List Value}->jO w g z6 a cs->∀v∈cs,v.oneCell'=true
 |.data t d,_,h=>h.2.one
 |.za,_,h=>by cases h;simp[Value.oneCell']
 |.ref _ _ _,_,h=>by obtain⟨v,rfl,h,_⟩:=h;simp[h]
 |.view _ _ _ _ _,_,h=>by obtain⟨v,rfl,h,_⟩:=h;simp[h]
 |.zw _ _,_,h=>by obtain⟨v,rfl,h,_⟩:=h;simp[h]
 |.jV _ _ _,_,h=>by obtain⟨v,rfl,h,_⟩:=h;simp[h]
 |.qF _,_,h=>by obtain⟨v,rfl,h,_⟩:=h;simp[h]
 |.nv _ _ _ _,_,h=>by obtain⟨v,rfl,h,_⟩:=h;simp[h]
 |.qW _ _,_,h=>by obtain⟨v,rfl,_⟩:=h;simp[Value.oneCell']
 | .ZU _ _,_,h=>by obtain⟨v,Dv,rfl,_⟩:=h;simp[Value.oneCell']
 |.agg c,_,h=>jO.one (a:=c) h
 |.jD _,_,h=>h.elim
 |.pr a b,_,h=>by
  obtain⟨c1,c2,rfl,h1,h2⟩:=h;intro v hv;rcases PH.1 hv with hv|hv
  ·exact jO.one h1 v hv
  ·exact jO.one h2 v hv
 |.un,_,h=>by cases h;simp
theorem zM.z63{w:World}{g:z8}{t:Ty}{d:t.den}{cs:List Value}(h:zM w g none t d cs)(ha:t.sk.isAgg=false):∃v,cs=[v]:=by
 have hl:=h.len;have:t.size=1:=by cases t<;>simp[Ty.sk,Sk.isAgg]at ha<;>simp[Ty.size]
 rw[this]at hl;exact Z2f.1 hl
theorem jg{w:World}{g:z8}{z6:qQ}{av:z7}{v:Value}(hv:av.val=true)(h:qy w g z6 av v):∃cs,jO w g z6 av cs/\v=jl av.isAgg cs/\v.cells.toList=cs:=by
 obtain⟨w8,WR,GX,Og⟩:=jh hv;obtain⟨cs,zc,Vw⟩:=gq h Og;refine⟨cs,zc,Vw,?_⟩
 cases ha:av.isAgg with
 |true=>
  rw[ha]at Vw;simp only[jl,Z1x]at Vw
  rw[Vw];rfl
 |false=>
  rw[ha]at Vw;simp only[jl,Z2q,Z1w]at Vw;have hl:=zc.len;have:av.sk.size=1:=by
   rw[w8]at ha;cases po:av.sk<;>rw[po]at ha<;>simp[Sk.isAgg]at ha;rfl
  rw[this]at hl;obtain⟨x,rfl⟩:=Z2f.1 hl;have h1:=zc.one x (by simp);have hx:v=x:=Vw;subst hx;cases v<;>simp[Value.oneCell']at h1<;>rfl
end Go.Kz
namespace Go.Kz
variable {R:Type}
def yx(g:z8)(b0 m:Nat)(tg:Tag)(v:Value):z8 where
 tag:=λb=>if b=b0 then tg else g.tag b
 sv:=λi p=>if i=m then (if p=[] then v else .slice none 0 0) else g.sv i p
 qY:=λi=>if i=m then b0 else g.qY i
section
variable {w:World}{g:z8}{σ:St}{o:Obj}{m:Nat}{tg:Tag}{v:Value}
theorem uU(ht:∀b,g.tag b≠.qw->b<w.heap.size)(ob:Go.Obj):zS w g (w.alloc ob) (yx g w.heap.size m tg v):=
 ⟨λb hb=>by
  have:=ht b (by rw[hb];simp);exact⟨by simp only[yx];rw[qP (by omega)];exact hb,heap_alloc_old w ob this⟩⟩
theorem QU(ht:∀b,g.tag b≠.qw->b<w.heap.size)(ob:Go.Obj){id:Nat}(hid:id≠m):Qr w g (w.alloc ob) (yx g w.heap.size m tg v) id:=by
 refine⟨⟨λq=>by simp[yx,hid],λq b hb=>?_⟩,by simp[yx,hid],λhb=>?_⟩
 ·have:=ht b (by rw[hb];simp);exact⟨by simp only[yx];rw[qP (by omega)];exact hb,heap_alloc_old w ob this⟩
 ·have:=ht (g.qY id) (by rw[hb];simp);exact⟨by simp only[yx];rw[qP (by omega)];exact hb,heap_alloc_old w ob this⟩
theorem QX(ht:∀b,g.tag b≠.qw->b<w.heap.size)(ob:Go.Obj):Ext w g (w.alloc ob) (yx g w.heap.size m tg v):=by
 refine⟨rfl,rfl,rfl,jq _,by simp,λb hb _=>⟨heap_alloc_old w ob hb,?_⟩⟩;simp only[yx];rw[qP (by omega)]
theorem zD{I:Type}(f:Nat->Option I)(i:Nat)(x:Option I):Y4 f i x i=x:=by simp[Y4]
theorem zm{I:Type}(f:Nat->Option I){i j:Nat}(x:Option I)(h:j≠i):Y4 f i x j=f j:=by
 simp only[Y4]
 cases hb:Nat.beq j i with
 |true=>exact absurd (zE hb) h
 |false=>rfl
theorem U3(hh:yH w g σ.z6)(ob:Go.Obj){id:Nat}(hid:id≠m):qu g (yx g w.heap.size m tg v) id (σ.z6 id) ((σ.setObj m o).z6 id):=by
 simp only[St.setObj];rw[zm _ _ hid];exact qu.same (QU hh.tags ob hid)
theorem zP.new{n:Nat}{a:Act}(zq:zP n g w a σ)(hf:zu g σ m)(ob:Go.Obj)(CN:tg≠.qw)
  (zg:qz (w.alloc ob) (yx g w.heap.size m tg v) (σ.setObj m o).z6 m o):zP n (yx g w.heap.size m tg v) (w.alloc ob) a (σ.setObj m o):=by
 refine⟨λi av hi=>?_,⟨λid x hx=>?_,λb hb=>?_⟩,zq.size,zq.defers,zq.known.kept (uU zq.heap.tags ob)⟩
 ·obtain⟨u,hu,zc⟩:=zq.zy i av hi;refine⟨u,hu,qy.frame (uU zq.heap.tags ob) (λid hid=>U3 zq.heap ob ?_) zc⟩;intro he;subst he;exact hf.zy i av hi hid
 ·by_cases hid:id=m
  ·subst hid;simp only[St.setObj,zD,zI]at hx;subst hx;exact zg
  ·have QF:σ.z6 id=some x:=by simpa[St.setObj,zm _ _ hid]using hx
   refine qz.frame (uU zq.heap.tags ob) (QU zq.heap.tags ob hid) (λy hy vT OQ=>U3 zq.heap ob ?_) (zq.heap.z6 id x QF);intro he;subst he;subst hy;exact hf.cells id y QF OQ
 ·simp only[yx]at hb;split at hb
  ·rename_i he;subst he;simp
  ·have:=zq.heap.tags b hb;simp;omega
theorem zu.new{m':Nat}(hm:m'≠m)(wJ:∀p,tg≠.row m' p)(q2p:tg≠.box m')(ho:∀y,o=.cell y->m'∉y.ids)(hf:zu g σ m'):zu (yx g w.heap.size m tg v) (σ.setObj m o) m':=by
 refine⟨by simp only[St.setObj];rw[zm _ _ hm];exact hf.z6,λb p hb=>?_,λb hb=>?_,hf.zy,λid av hi=>?_⟩
 ·simp only[yx]at hb;split at hb
  ·exact wJ p hb
  ·exact hf.row b p hb
 ·simp only[yx]at hb;split at hb
  ·exact q2p hb
  ·exact hf.box b hb
 ·by_cases hid:id=m
  ·subst hid;simp only[St.setObj,zD,zI]at hi;exact ho av hi
  ·simp only[St.setObj]at hi;rw[zm _ _ hid]at hi;exact hf.cells id av hi
end
theorem jN(n:Nat)(cs:List Value)(i:Nat)(h:i<n):qi (List.replicate n cs).flatten (i*cs.length) cs.length=cs:=by
 induction n generalizing i with
 |zero=>omega
 |succ n ih=>
  simp only[Z5h,Z3f]
  cases i with
  |zero=>
   simp only[Z32]
   rw[yJ _ _ _ _ (by omega),gM]
  |succ i=>
   rw[kK,Z41,Z4s];rw[yB _ _ _ _ _ rfl];exact ih i (by omega)
theorem jw(n:Nat)(cs:List Value):(List.replicate n cs).flatten.length=n*cs.length:=by
 induction n with
 |zero=>simp
 |succ n ih=>simp only[Z5h,Z3f,Jz,ih,kK];omega
theorem zke:(k:Nat)->(zq7 k).length=Da k
 |0=>rfl
 |1=>rfl
 |_+2=>rfl
theorem qD:(t:Ty)->(zeroCells t).length=t.size
 |.int _=>rfl
 |.bool=>rfl
 |.str=>rfl
 |.unit=>rfl
 |.pair a b=>by simp only[zeroCells,Jz,Ty.size,qD a,qD b]
 |.arr n t=>by rw[zeroCells,jw,qD t];rfl
 |.sl _ _=>rfl
 |.ptr _=>rfl
 |.fn f _=>by simp only[zeroCells];cases Nat.beq f 999983<;>rfl
 |.tree k=>zke k
theorem vK{w:World}{g:z8}:{t:Ty}->{d:t.den}->t.zW=true->t.zero=some d->zM w g none t d (zeroCells t)
 |.int k,d,_,h=>by
  simp only[Ty.zero,zI]at h;subst h;refine⟨rfl,?_⟩
  cases k<;>simp[IntKind.min,IntKind.max,IntKind.bits,IntKind.signed]
 |.bool,d,_,h=>by simp only[Ty.zero,zI]at h;subst h;rfl
 |.str,d,_,h=>by
  simp only[Ty.zero,zI]at h;subst h
  exact⟨ByteArray.empty,rfl,rfl,v8 _⟩
 |.unit,d,_,h=>rfl
 |.pair a b,d,hr,h=>by
  simp only[Ty.zero]at h;simp only[Ty.zW,zA]at hr;split at h
  ·rename_i x y hx hy;simp only[zI]at h;subst h;exact⟨_,_,rfl,vK hr.1 hx,vK hr.2 hy⟩
  ·simp at h
 |.arr n t,d,hr,h=>by
  simp only[Ty.zero]at h;split at h
  ·rename_i x hx;simp only[zI]at h;subst h;have zN:=vK (w:=w) (g:=g) (by simpa[Ty.zW]using hr) hx;refine⟨by simp,by rw[zeroCells,jw,qD],λi hi=>?_⟩;have wu:i<n:=by simpa using hi
   simp only[R3,List.getElem_replicate,zeroCells];have:=jN n (zeroCells t) i wu;rw[qD]at this;rw[this];exact zN
  ·simp at h
 |.sl false t,d,_,h=>by
  simp only[Ty.zero,zI]at h;subst h
  exact⟨none,0,rfl,jq _,v8 _,λhn=>absurd rfl hn⟩
 |.sl true t,d,hr,h=>by simp[Ty.zW]at hr
 |.ptr _,_,_,h=>by simp[Ty.zero]at h
 |.fn _ _,_,_,h=>by simp[Ty.zero]at h
 |.tree _,_,_,h=>by simp[Ty.zero]at h
theorem kf:{t:Ty}->t.yV=true->t.zW=true
 |.int _,_=>rfl
 |.bool,_=>rfl
 |.str,_=>rfl
 |.unit,_=>rfl
 |.pair a b,h=>by simp only[Ty.yV,zA]at h;simp[Ty.zW,kf h.1,kf h.2]
 |.arr _ t,h=>by simp only[Ty.yV]at h;simp only[Ty.zW];exact kf h
 |.sl _ _,h=>by simp[Ty.yV]at h
 |.ptr _,h=>by simp[Ty.yV]at h
 |.fn _ _,h=>by simp[Ty.yV]at h
 |.tree _,h=>by simp[Ty.yV]at h
theorem Nv(a b:Ty):uF (.pair a b)=(match Ty.zero (.pair a b),(Ty.pair a b).yV with
  |some z,true=>some (.data (.pair a b) z)
  |_,_=>(Qk (.pair a b)).map .agg):=rfl
theorem Nj(a b:Ty):Qk (.pair a b)=(match uF a,Qk b with
  |some x,some y=>some (.pr x y)
  |_,_=>none):=rfl
theorem Th(n:Nat)(t:Ty):uF (.arr n t)=(match Ty.zero (.arr n t),(Ty.arr n t).zW with
  |some z,true=>some (.data (.arr n t) z)
  |_,_=>none):=by
 unfold uF vI;rfl
mutual
theorem A8{w:World}{g:z8}{z6:qQ}:{u:Ty}->{z:z7}->uF u=some z->z.sk=u.sk/\z.ids=[]/\jO w g z6 z (zeroCells u)/\z.val=true
 |.sl o t,z,h=>by
  simp only[uF,vI,zI]at h;subst h
  exact⟨rfl,rfl,rfl,rfl⟩
 |.pair a b,z,h=>by
  rw[Nv]at h;split at h
  ·rename_i d h1 h2;simp only[zI]at h;subst h;have hr:=kf h2;exact⟨rfl,rfl,⟨hr,vK hr h1⟩,rfl⟩
  ·simp only[kT]at h;obtain⟨x,hx,rfl⟩:=h;obtain⟨h1,h2,h3,h4⟩:=I6 (w:=w) (g:=g) (z6:=z6) hx
   exact⟨h1,h2,h3,h4⟩
 |.int k,z,h=>by
  simp only[uF,vI,Ty.zero,Ty.yV,zI]at h;subst h
  exact⟨rfl,rfl,⟨rfl,vK rfl rfl⟩,rfl⟩
 |.bool,z,h=>by
  simp only[uF,vI,Ty.zero,Ty.yV,zI]at h;subst h
  exact⟨rfl,rfl,⟨rfl,vK rfl rfl⟩,rfl⟩
 |.str,z,h=>by
  simp only[uF,vI,Ty.zero,Ty.yV,zI]at h;subst h
  exact⟨rfl,rfl,⟨rfl,vK rfl rfl⟩,rfl⟩
 |.unit,z,h=>by
  simp only[uF,vI,Ty.zero,Ty.yV,zI]at h;subst h
  exact⟨rfl,rfl,⟨rfl,vK rfl rfl⟩,rfl⟩
 |.arr n t,z,h=>by
  rw[Th]at h;split at h
  ·rename_i d h1 h2;simp only[zI]at h;subst h;have hr:=h2;exact⟨rfl,rfl,⟨hr,vK hr h1⟩,rfl⟩
  ·simp at h
 |.ptr t,z,h=>by simp[uF,vI,Ty.zero]at h
 |.fn f t,z,h=>by simp[uF,vI,Ty.zero]at h
 |.tree _,z,h=>by simp[uF,vI,Ty.zero]at h
theorem I6{w:World}{g:z8}{z6:qQ}:{u:Ty}->{z:z7}->Qk u=some z->z.sk=u.sk/\z.ids=[]/\jO w g z6 z (zeroCells u)/\(z7.agg z).val=true
 |.pair a b,z,h=>by
  rw[Nj]at h;split at h
  ·rename_i x y hx hy;simp only[zI]at h;subst h;obtain⟨h1,h2,h3,_⟩:=A8 (w:=w) (g:=g) (z6:=z6) hx;obtain⟨k1,k2,k3,_⟩:=I6 (w:=w) (g:=g) (z6:=z6) hy;exact⟨by simp[z7.sk,Ty.sk,h1,k1],by simp[z7.ids,h2,k2],⟨_,_,rfl,h3,k3⟩,rfl⟩
  ·simp at h
 |.unit,z,h=>by
  simp only[Qk,vI,zI]at h;subst h
  exact⟨rfl,rfl,rfl,rfl⟩
 |.int _,_,h=>by simp[Qk,vI]at h
 |.bool,_,h=>by simp[Qk,vI]at h
 |.str,_,h=>by simp[Qk,vI]at h
 |.arr _ _,_,h=>by simp[Qk,vI]at h
 |.sl _ _,_,h=>by simp[Qk,vI]at h
 |.ptr _,_,h=>by simp[Qk,vI]at h
 |.fn _ _,_,h=>by simp[Qk,vI]at h
 |.tree _,_,h=>by simp[Qk,vI]at h
end
theorem z3k{w:World}{g:z8}{z6:qQ}{id:Nat}{u:Ty}{z:z7}(hid:∀kt vt m,z6 id≠some (.map kt vt m))(h:Rj id u=some z):z.sk=u.sk/\(z.ids=[]\/z.ids=[id])/\jO w g z6 z (zeroCells u)/\z.val=true:=by
 cases u with
 |fn f c=>
  simp only[Rj,zI]at h;subst h;refine⟨rfl,.inr rfl,?_,rfl⟩;simp only[zeroCells];cases Nat.beq f 999983
  ·exact⟨_,rfl,rfl,λkt vt m hm=>absurd hm (hid kt vt m)⟩
  ·exact⟨_,rfl,rfl,λkt vt m hm=>absurd hm (hid kt vt m)⟩
 |ptr t=>
  simp only[Rj,zI]at h;subst h
  exact⟨rfl,.inr rfl,⟨_,rfl,rfl,λkt vt m hm=>absurd hm (hid kt vt m)⟩,rfl⟩
 |_=>
  obtain⟨h1,h2,h3,h4⟩:=A8 (w:=w) (g:=g) (z6:=z6) h;exact⟨h1,.inl h2,h3,h4⟩
section
variable {P:Program}{o:Oper}{a:Act}{w:World}{K:Act->World->Prop}{Q:Exit->Act->World->Prop}{c:Ctx}{σ:St}{g:z8}{k:St->Option R}{r:R}{base:Nat}{mo:Bool}
theorem Wo{ob:Go.Obj}{obj:Obj}{tg:Tag}{v v':Value}{av:z7}(zq:zP c.ntmps g w a σ)(hf:zu g σ base)(CN:tg=.box base\/∃p,tg=.row base p)
  (zn:(execOp a.eval o).run P w=.ok (.value v') (w.alloc ob)) (gA:av.ids=[base])
  (zg:qz (w.alloc ob) (yx g w.heap.size base tg v) (σ.setObj base obj).z6 base obj)
  (zZ:∀y,obj=.cell y->∀m,m≠base->zu g σ m->m∉y.ids)
  (hv:qy (w.alloc ob) (yx g w.heap.size base tg v) (σ.setObj base obj).z6 av v')
  (h:(σ.qM c o.dst av λσ=>k (σ.setObj base obj))=some r) (hK:vz c.ntmps k r g w σ base mo K):o.wp P a w K Q:=by
 have va:tg≠.qw:=by rcases CN with rfl|⟨p,rfl⟩<;>simp
 have qG:=zq.new hf ob va zg;have v7:∀m,(m<base\/base+8<=m)->zu g σ m->zu (yx g w.heap.size base tg v) (σ.setObj base obj) m:=by
  intro m hm wX;have N5:m≠base:=by omega
  refine zu.new N5 (λp=>?_) ?_ (λy hy=>zZ y hy m N5 wX) wX
  ·rcases CN with rfl|⟨p',rfl⟩<;>simp;exact λh=>absurd h.symm N5
  ·rcases CN with rfl|⟨p',rfl⟩<;>simp;exact λh=>N5 h.symm
 unfold Oper.wp;rw[zn,Oper.upon_value];rcases uw h with⟨hd,hk⟩|⟨i,hd,hi,hk⟩
 ·rw[hd];exact hK _ _ _ _ hk qG (QX zq.heap.tags ob) v7 rfl (λ_ b hb=>heap_alloc_old w ob hb)
 ·rw[hd];refine hK _ _ _ _ hk (show zP c.ntmps _ _ _ ((σ.setObj base obj).set i av) from qG.put hi hv) (QX zq.heap.tags ob) (λm hm wX=>?_) rfl (λ_ b hb=>heap_alloc_old w ob hb);exact(v7 m hm wX).set i (by rw[gA];simp;omega)
theorem z3p{ob:Go.Obj}{t:Ty}{d:t.den}{v':Value}{cs:List Value}{vx:Value}(zq:zP c.ntmps g w a σ)(hf:zu g σ base)
  (zn:(execOp a.eval o).run P w=.ok (.value v') (w.alloc ob)) (qU:t.zW=true) (zN:zM (w.alloc ob) (yx g w.heap.size base .ro vx) none t d cs) (hv:v'=jl t.sk.isAgg cs)
  (h:σ.qM c o.dst (.data t d) k=some r) (hK:vz c.ntmps k r g w σ base mo K):o.wp P a w K Q:=by
 have ht:=zq.heap.tags;have pj:∀i,i≠base->qu g (yx g w.heap.size base .ro vx) i (σ.z6 i) (σ.z6 i):=λi hi=>qu.same (QU ht ob hi)
 have qG:zP c.ntmps (yx g w.heap.size base .ro vx) (w.alloc ob) a σ:=by
  refine⟨λi av hi=>?_,⟨λid x hx=>?_,λb hb=>?_⟩,zq.size,zq.defers,zq.known.kept (uU ht ob)⟩
  ·obtain⟨u,hu,zc⟩:=zq.zy i av hi;refine⟨u,hu,qy.frame (uU ht ob) (λid hid=>pj id ?_) zc⟩;intro he;subst he;exact hf.zy i av hi hid
  ·have hid:id≠base:=by intro he;subst he;have:=hf.z6;rw[hx]at this;simp at this
   refine qz.frame (uU ht ob) (QU ht ob hid) (λy hy vT OQ=>pj vT ?_) (zq.heap.z6 id x hx);intro he;subst he;subst hy;exact hf.cells id y hx OQ
  ·simp only[yx]at hb;split at hb
   ·rename_i he;subst he;simp
   ·have:=ht b hb;simp;omega
 have v7:∀m,(m<base\/base+8<=m)->zu g σ m->zu (yx g w.heap.size base .ro vx) σ m:=by
  intro m hm wX;refine⟨wX.z6,λb p hb=>?_,λb hb=>?_,wX.zy,wX.cells⟩
  ·simp only[yx]at hb;split at hb
   ·simp at hb
   ·exact wX.row b p hb
  ·simp only[yx]at hb;split at hb
   ·simp at hb
   ·exact wX.box b hb
 have q0c:qy (w.alloc ob) (yx g w.heap.size base .ro vx) σ.z6 (.data t d) v':=by
  simp only[qy];exact⟨cs,⟨qU,zN⟩,hv⟩
 unfold Oper.wp;rw[zn,Oper.upon_value];rcases uw h with⟨hd,hk⟩|⟨i,hd,hi,hk⟩
 ·rw[hd];exact hK _ _ _ _ hk qG (QX ht ob) v7 rfl (λ_ b hb=>heap_alloc_old w ob hb)
 ·rw[hd];exact hK _ _ _ _ hk (qG.put hi q0c) (QX ht ob) (λm hm wX=>(v7 m hm wX).set i (by simp[z7.ids])) rfl (λ_ b hb=>heap_alloc_old w ob hb)
theorem z5o(wi:gH P c.tt){t:TypeId}(ho:o.op=.alloc t)(zq:zP c.ntmps g w a σ)(hf:zu g σ base)(h:qq c σ base o k=some r)(hK:vz c.ntmps k r g w σ base mo K):o.wp P a w K Q:=by
 simp only[qq,ho]at h;split at h
 ·rename_i z hz;simp only[Zh]at hz;obtain⟨u,hu,hz⟩:=hz;have hT:=wi _ _ hu;obtain⟨i,zv,XD,Eu,_,hi4,hi5,_⟩:=hT.info.info;let g':=yx g w.heap.size base (.box base) undef;let ob:Go.Obj:=.cells zv.cells t;have hz':=z3k (w:=w.alloc ob) (g:=g') (z6:=(σ.setObj base (.cell z)).z6) (id:=base) (λkt vt m hm=>by simp[St.setObj,zD]at hm) hz;refine Wo (ob:=ob) (obj:=.cell z) (tg:=.box base) (v:=undef) (v':=.pointer (some ⟨w.heap.size,0,none⟩)) zq hf (.inl rfl) ?_ rfl ?_ ?_ ?_ h hK
  ·simp only[execOp,ho];simp[Instr.alloc,zeroValue,typeInfo,XD,hi4,newVar,newRow];rfl
  ·refine qz.mk ⟨zv.cells,t,?_,?_,?_⟩
   ·have hb:(yx g w.heap.size base (.box base) undef).qY base=w.heap.size:=by simp[yx]
    rw[hb];exact heap_alloc_new w _
   ·simp[yx]
   ·rw[hi5];exact hz'.2.2.1
  ·intro y hy m hm _;simp only[Obj.cell.injEq]at hy;subst hy;rcases hz'.2.1 with h1|h1<;>rw[h1]<;>simp[hm]
  ·simp only[qy];refine⟨_,⟨_,rfl,rfl,λx _=>?_⟩,rfl⟩;refine⟨0,x.sk,by simp[Sk.off],?_⟩;simp[yx]
 ·simp at h
theorem zkn{t:TypeId}{x:Operand}(ho:o.op=.box t x)(zq:zP c.ntmps g w a σ)(hf:zu g σ base)(h:qq c σ base o k=some r)(hK:vz c.ntmps k r g w σ base mo K):o.wp P a w K Q:=by
 simp only[qq,ho]at h;split at h
 ·rename_i av Kf;obtain⟨ex,ef⟩:=qH zq Kf
  cases hb:av.val with
  |false=>rw[hb]at h;simp at h
  |true=>
   rw[hb]at h;simp only[zJ]at h;obtain⟨cs,zc,Vw,vo⟩:=jg hb ex;let ob:Go.Obj:=.cells (a.eval x).cells t;refine Wo (ob:=ob) (obj:=.cell av) (tg:=.box base) (v:=undef) (v':=.pointer (some ⟨w.heap.size,0,none⟩)) zq hf (.inl rfl) ?_ rfl ?_ ?_ ?_ h hK
   ·simp only[execOp,ho];simp[Instr.box,newVar,newRow];rfl
   ·refine qz.mk ⟨(a.eval x).cells,t,?_,?_,?_⟩
    ·have hb:(yx g w.heap.size base (.box base) undef).qY base=w.heap.size:=by simp[yx]
     rw[hb];exact heap_alloc_new w _
    ·simp[yx]
    ·rw[vo];refine jO.frame (uU zq.heap.tags ob) (λid hid=>U3 zq.heap ob ?_) zc;intro he;subst he;exact ef _ hf hid
   ·intro y hy m _ hm;simp only[Obj.cell.injEq]at hy;subst hy;exact ef m hm
   ·simp only[qy];refine⟨_,⟨_,rfl,rfl,λy _=>?_⟩,rfl⟩;refine⟨0,y.sk,by simp[Sk.off],?_⟩;simp[yx]
 ·simp at h
end
end Go.Kz
namespace Go.Kz
variable {R:Type}
theorem Ja:(A3:List (List Value))->(n:Nat)->(∀cs∈A3,cs.length=n)->(i:Nat)->(h:i<A3.length)->qi A3.flatten (i*n) n=A3.get ⟨i,h⟩
 |cs::A3,n,hl,0,_=>by
  grind[yJ,gM]
 |cs::A3,n,hl,i+1,h=>by
  have h0:=hl cs (by simp);simp only[Z3f];rw[kK,Z41,Z4s (i*n) n,yB _ _ _ _ _ h0.symm];have:=Ja A3 n (λcs Zw=>hl cs (by grind)) i (by grind)
  grind
theorem length_flatten:(A3:List (List Value))->(n:Nat)->(∀cs∈A3,cs.length=n)->A3.flatten.length=A3.length*n
 |[],n,_=>by simp
 |cs::A3,n,hl=>by
  have h0:=hl cs (by simp);have:=length_flatten A3 n (λcs Zw=>hl cs (by grind))
  grind
theorem Z7(z:Array Value)(n:Nat)(hz:0<z.size):(madeCells z (n*z.size)).toList=(List.replicate n z.toList).flatten:=by
 have hlen:(List.replicate n z.toList).flatten.length=n*z.size:=by simp_all
 apply I3
 ·grind[size_madeCells]
 ·intro i h1 h2;rw[hlen]at h2;have hi:i/z.size<n:=Z2g (by grind);have hm:=Z23 i hz;have hs:=jN n z.toList (i/z.size) hi;rw[gT]at hs;have hdm:=Z3e i z.size;have e:(List.replicate n z.toList).flatten[i]? = z.toList[i%z.size]? := by
   grind[qi]
  grind[madeCells]
theorem Kr{P:Program}{c:Ctx}(wi:gH P c.tt){d:Option Nat}{t:TypeId}{o:Bool}{u:Ty}(h:DG c d t=some (.sl o u)):
  ∃E v,P.underlying t=some (.slice E)/\qZ P v E/\v.ro=u.ro:=by
 unfold DG at h;split at h
 ·rename_i u' hd;split at h
  ·rename_i v hv;split at h
   ·rename_i hs _;simp only[zI]at h;subst h;have hT:=wi _ _ hv;have he:=hs.down
    cases v with
    |sl o' v=>
     grind[qZ,Ty.ro]
    |_=>grind[Ty.ro]
   grind
  grind
 ·have hT:=wi _ _ h
  grind[qZ]
theorem xK:(t:Ty)->zeroCells t.ro=zeroCells t
 |.int _=>rfl
 |.bool=>rfl
 |.str=>rfl
 |.unit=>rfl
 |.pair a b=>by simp only[Ty.ro,zeroCells,xK a,xK b]
 |.arr _ t=>by simp only[Ty.ro,zeroCells,xK t]
 |.sl _ _=>rfl
 |.ptr _=>rfl
 |.fn _ _=>rfl
 |.tree _=>rfl
theorem j8.congr{P:Program}{T:TypeId}{u v:Ty}(h:j8 P T v)(e:v.ro=u.ro):j8 P T u:=by
 obtain⟨i,z,h1,h2,h3,h4,h5,h6⟩:=h.info;have hs:v.size=u.size:=by grind[Ty.qo]
 have hz:zeroCells v=zeroCells u:=by grind[xK]
 exact⟨⟨i,z,h1,h2.trans hs,h3,h4,h5.trans hz,h6⟩⟩
section
variable {P:Program}{o:Oper}{a:Act}{w:World}{K:Act->World->Prop}{Q:Exit->Act->World->Prop}{c:Ctx}{σ:St}{g:z8}{k:St->Option R}{r:R}{base:Nat}{mo:Bool}
theorem Fj{u:Ty}{l:List u.den}{cells:Array Value}{e:TypeId}{cap:Nat}(ht:∀b,g.tag b≠.qw->b<w.heap.size)(hu:u.zW=true)
  (hc:l.length<=cap) (hm:cap<=maxLen) (hs:cap*u.size<=cells.size)
  (vw:∀(i:Nat)(h:i<l.length),zM w g none u (l.get ⟨i,h⟩) (qi cells.toList (i*u.size) u.size)) (z6:qQ) (ep:Nat) :
  qz (w.alloc (.cells cells e)) (yx g w.heap.size base (.row base []) (.slice (some ⟨w.heap.size,0,none⟩) l.length cap)) z6 base (.row u l ep):=by
 refine⟨hu,some ⟨w.heap.size,0,none⟩,cap,by simp[yx],by simp[yx],hc,hm,.inr ⟨w.heap.size,0,cells,e,rfl,by simp[yx],heap_alloc_new w _,by omega,λi hi=>?_⟩⟩;rw[Wq];exact zM.yy hu ((vw i hi).kept (uU ht _))
theorem X5{z6:qQ}{u:Ty}{l:List u.den}{v:Value}{b0:Nat}(ho:z6 base=some (.row u l 0))(qN:v.oneCell'=true):
  qy w (yx g b0 base (.row base []) v) z6 (.ref base [] 0) v:=by
 simp only[qy];refine⟨_,⟨v,rfl,qN,λt l' e hx=>?_⟩,rfl⟩
 grind[yx]
theorem D0{t E:TypeId}{u:Ty}{z:u.den}(qB:P.underlying t=some (.slice E))(vN:j8 P E u)(hu:u.zW=true)(hz:u.zero=some z)(ht:∀b,g.tag b≠.qw->b<w.heap.size)
  (kl kc:IntKind) (l m:Int) (Fh:0<=l) (BA:l<=m) (pv:m<=4294967296) (z6:qQ) :
  ∃cells,(Instr.makeSlice t (.int kl l) (.int kc m)).run P w=.ok (.slice (some ⟨w.heap.size,0,none⟩) l.toNat m.toNat) (w.alloc (.cells cells E))/\
   qz (w.alloc (.cells cells E)) (yx g w.heap.size base (.row base []) (.slice (some ⟨w.heap.size,0,none⟩) l.toNat m.toNat)) z6 base (.row u (List.replicate l.toNat z) 0):=by
 obtain⟨i,zv,XD,Eu,Fl,hi4,hi5,hi6⟩:=vN.info;have KJ:(i.bytes:Int)*m<=281474976710656:=by
  have h1:(i.bytes:Int)<=32768:=by omega
  have h2:(i.bytes:Int)*m<=32768*m:=Z42 h1 (by omega);omega
 have zn:=run_make (P:=P) w t E i zv qB XD hi4 kl kc l m Fh BA KJ (by omega);have D4:zv.cells.size=u.size:=by grind[qD]
 have vo:(madeCells zv.cells (m.toNat*i.size)).toList=(List.replicate m.toNat (zeroCells u)).flatten:=by
  grind[Z7]
 have hlen:(List.replicate l.toNat z).length=l.toNat:=by simp
 grind[Fj,maxLen,size_madeCells,jN,qD,vK]
theorem z4t{u:Ty}(h:RK u=true):∃v,u=.sl true v:=by
 unfold RK at h
 grind
theorem Bv{t E:TypeId}{v:Ty}(qB:P.underlying t=some (.slice E))(vN:j8 P E (.sl true v))
  (kl kc:IntKind) (l m:Int) (Fh:0<=l) (BA:l<=m) (pv:m<=4294967296) (z6:qQ) :
  ∃cells,(Instr.makeSlice t (.int kl l) (.int kc m)).run P w=.ok (.slice (some ⟨w.heap.size,0,none⟩) l.toNat m.toNat) (w.alloc (.cells cells E))/\
   qz (w.alloc (.cells cells E)) (yx g w.heap.size base (.row base []) (.slice (some ⟨w.heap.size,0,none⟩) l.toNat m.toNat)) z6 base (.nest (.sl true v) (List.replicate l.toNat ([]:List v.den)) 0 0 none):=by
 obtain⟨i,zv,XD,Eu,Fl,hi4,hi5,hi6⟩:=vN.info;have KJ:(i.bytes:Int)*m<=281474976710656:=by
  have h1:(i.bytes:Int)<=32768:=by omega
  have h2:(i.bytes:Int)*m<=32768*m:=Z42 h1 (by omega);omega
 have zn:=run_make (P:=P) w t E i zv qB XD hi4 kl kc l m Fh BA KJ (by omega);have D4:zv.cells.size=1:=by rw[<-gT,hi5];rfl
 have hi2':i.size=1:=Eu;have vo:(madeCells zv.cells (m.toNat*i.size)).toList=(List.replicate m.toNat (zeroCells (.sl true v))).flatten:=by
  grind[Z7]
 have hlen:(List.replicate l.toNat ([]:List v.den)).length=l.toNat:=by simp
 refine⟨_,zn,?_⟩;show zM _ _ (some (base,[])) (.sl true (.sl true v)) (List.replicate l.toNat ([]:List v.den)) _;refine⟨some ⟨w.heap.size,0,none⟩,m.toNat,by grind[yx],by grind[yx],by omega,by grind[maxLen],.inr ⟨w.heap.size,0,_,E,rfl,by simp[yx],heap_alloc_new w _,?_,λj hj=>?_⟩⟩
 ·grind[size_madeCells]
 ·have gg:j<l.toNat:=by omega
  rw[vo];have:=jN m.toNat (zeroCells (.sl true v)) j (by omega);rw[qD]at this;rw[Wq,this];have pP:(List.replicate l.toNat ([]:List v.den)).get ⟨j,hj⟩=[]:=by simp
  show zM _ _ (some (base,[]++[Step.idx (j:Int)])) (.sl true v) ((List.replicate l.toNat ([]:List v.den)).get ⟨j,hj⟩) _;rw[pP];exact⟨none,0,rfl,by simp[yx],jq _,v8 _,.inl ⟨rfl,rfl,rfl⟩⟩
theorem He{z6:qQ}{u:Ty}{l:List u.den}{v:Value}{b0:Nat}(ho:z6 base=some (.nest u l 0 0 none))(qN:v.oneCell'=true):
  qy w (yx g b0 base (.row base []) v) z6 (.nv false base [] 0) v:=by
 simp only[qy];refine⟨_,⟨v,rfl,qN,λt l' e i h hx=>?_⟩,rfl⟩
 grind[yx]
theorem FU(wi:gH P c.tt){t:TypeId}{x y:Operand}(ho:o.op=.makeSlice t x y)(zq:zP c.ntmps g w a σ)(hf:zu g σ base)(h:qq c σ base o k=some r)(hK:vz c.ntmps k r g w σ base mo K):o.wp P a w K Q:=by
 simp only[qq,ho]at h;split at h
 ·rename_i ow u JZ;split at h
  ·rename_i z kl l kc m hz hx hy
   cases hu:u.zW with
   |false=>
    rw[hu]at h;simp only[zU]at h
    cases hr:RK u with
    |false=>grind
    |true=>
     rw[hr]at h;simp only[zJ]at h;obtain⟨v',rfl⟩:=z4t hr;obtain⟨hb,h⟩:=qT h;simp only[zA,jc]at hb;obtain⟨⟨Fh,BA⟩,pv⟩:=hb;obtain⟨E,v,qB,hv,hvu⟩:=Kr wi JZ;have vN:j8 P E (.sl true v'):=hv.info.congr hvu;obtain⟨vx,_⟩:=jo (qH zq hx).1;obtain⟨vy,_⟩:=jo (qH zq hy).1
     ·simp only[Ty.zero,zI]at hz;subst hz;obtain⟨cells,zn,zg⟩:=Bv (P:=P) (base:=base) (w:=w) (g:=g) qB vN kl kc l m Fh BA pv (σ.setObj base (.nest (.sl true v') (List.replicate l.toNat ([]:List v'.den)) 0 0 none)).z6;refine Wo (tg:=.row base []) zq hf (.inr ⟨[],rfl⟩) ?_ rfl zg (λy hy=>by grind) (He (u:=.sl true v') (l:=List.replicate (Int.toNat l) ([]:List v'.den)) (by simp[St.setObj,zD]) rfl) h hK
      simp_all[execOp]
   |true=>
    rw[hu]at h;simp only[zJ]at h;obtain⟨hb,h⟩:=qT h;simp only[zA,jc]at hb;obtain⟨⟨Fh,BA⟩,pv⟩:=hb;obtain⟨E,v,qB,hv,hvu⟩:=Kr wi JZ;have vN:j8 P E u:=hv.info.congr hvu;obtain⟨vx,_⟩:=jo (qH zq hx).1;obtain⟨vy,_⟩:=jo (qH zq hy).1;obtain⟨cells,zn,zg⟩:=D0 (P:=P) (base:=base) qB vN hu hz zq.heap.tags kl kc l m Fh BA pv (σ.setObj base (.row u (List.replicate l.toNat z) 0)).z6;refine Wo (tg:=.row base []) zq hf (.inr ⟨[],rfl⟩) ?_ rfl zg (λy hy=>by grind) (X5 (u:=u) (l:=List.replicate (Int.toNat l) z) (by simp[St.setObj,zD]) rfl) h hK;simp_all[execOp]
  grind
 grind
theorem BO(off:Nat):(l:List Value)->(j0:Nat)->(cells:Array Value)->off+j0+l.length<=cells.size->
  ((l.zipIdx j0).foldl (λcs (x:Value×Nat)=>cs.setIfInBounds (off+x.2) x.1) cells).toList=zB cells.toList (off+j0) l
 |[],j0,cells,_=>by simp[zB]
 |x::l,j0,cells,h=>by
  simp only[X4]at h;simp only[List.zipIdx_cons,Z33];rw[BO off l (j0+1) _ (by grind)]
  grind[zB,List.take_succ_eq_append_getElem,List.take_set_of_le,List.drop_set_of_lt]
theorem XF{size:Nat}:(vs:List Value)->(j:Nat)->(cells:Array Value)->(∀v∈vs,v.cells.size=size)->(j+vs.length)*size<=cells.size->
  ∃yW,Instr.fill (λi=>some (i*size,size)) cells (zV j vs)=some yW/\
   yW.toList=cells.toList.take (j*size)++(vs.map (·.cells.toList)).flatten++cells.toList.drop ((j+vs.length)*size)
 |[],j,cells,_,h=>⟨cells,rfl,by simp⟩
 |v::vs,j,cells,hv,h=>by
  have h0:=hv v (by simp);simp only[X4]at h;have hmul:(j+(vs.length+1))*size=j*size+size+vs.length*size:=by grind
  have zsl:(j+1+vs.length)*size=j*size+size+vs.length*size:=by grind
  have z8d:=BO (j*size) v.cells.toList 0 cells (by grind);let J2:Array Value:=(v.cells.toList.zipIdx 0).foldl (λcs (x:Value×Nat)=>cs.setIfInBounds (j*size+x.2) x.1) cells;have WY:J2.toList=zB cells.toList (j*size) v.cells.toList:=z8d;have ZX:J2.size=cells.size:=by
   grind[yS]
  obtain⟨yW,h1,h2⟩:=XF vs (j+1) J2 (λu hu=>hv u (by grind)) (by omega);refine⟨yW,?_,?_⟩
  ·grind[zV,Instr.fill,Array.toList_zipIdx]
  ·rw[h2,WY];have LX:v.cells.toList.length=size:=by omega
   have e1:(zB cells.toList (j*size) v.cells.toList).take ((j+1)*size)=cells.toList.take (j*size)++v.cells.toList:=by
    grind[zB,List.take_of_length_le]
   have e2:(zB cells.toList (j*size) v.cells.toList).drop ((j+1+vs.length)*size)=cells.toList.drop ((j+(vs.length+1))*size):=by
    obtain⟨q,hq⟩:∃q,(j+1+vs.length)*size=(j*size+size)+q:=⟨vs.length*size,zsl⟩;have S7:(j+(vs.length+1))*size=j*size+size+q:=by omega
    rw[hq,S7];simp only[zB];rw[Z3a,I4 (by grind),JD,Z1t];congr 1
    grind
   grind
theorem IT{u:Ty}(hu:u.zW=true):{l:List (Nat×Operand)}->{σ:St}->{g:z8}->{k:List u.den->St->Option R}->{r:R}->{n:Nat}->
  zP n g w a σ->parts σ u l k=some r->
  ∃ds σ' g' A3,k ds σ'=some r/\σ'.zy=σ.zy/\σ'.next=σ.next/\jB g σ.z6 g' σ'.z6/\ds.length=l.length/\
   l.map (λx=>(a.eval x.2).cells.toList)=A3/\(∀cs∈A3,cs.length=u.size)/\
   ∀(i:Nat)(h:i<ds.length)(h':i<A3.length),zM w g' none u (ds.get ⟨i,h⟩) (A3.get ⟨i,h'⟩)
 |[],σ,g,k,r,n,zq,h=>⟨[],σ,g,[],h,rfl,rfl,.refl _ _,rfl,rfl,by simp,λi h=>by simp at h⟩
 |(j,x)::l,σ,g,k,r,n,zq,h=>by
  simp only[parts]at h;split at h
  ·rename_i av Kf;obtain⟨ex,ef⟩:=qH zq Kf
   cases hb:av.val with
   |false=>grind
   |true=>
    rw[hb]at h;simp only[zJ]at h;obtain⟨cs,zc,Vw,vo⟩:=jg hb ex;obtain⟨d,σ1,g1,hk,h1,h2,h3,zN⟩:=gS 20 zq.heap zc hu h;obtain⟨ds,σ2,g2,A3,Kc,h4,h5,h6,h7,h8,h9,h10⟩:=IT hu (h3.st h1 zq) hk;refine⟨d::ds,σ2,g2,cs::A3,Kc,h4.trans h1,h5.trans h2,h3.trans h6,by grind,?_,?_,?_⟩
    ·grind
    ·intro c hc;rcases gJ.1 hc with rfl|hc
     ·exact zN.len
     grind
    ·intro i hi wu
     cases i with
     |zero=>exact zN.kept (h6.ro w)
     |succ i=>exact h10 i (by grind) (by grind)
  grind
theorem kn:{l:List (Nat×Operand)}->{j:Nat}->uA j l=true->(f:Operand->Value)->l.map (λx=>(x.1,f x.2))=zV j (l.map λx=>f x.2)
 |[],_,_,_=>rfl
 |(i,x)::l,j,h,f=>by
  simp only[uA,zA]at h;have he:=zE h.1;simp only[Qw,zV,kn h.2 f,he]
theorem Cr(wi:gH P c.tt){t:TypeId}{len:Nat}{ps:Array (Nat×Operand)}(ho:o.op=.buildSlice t len ps)(zq:zP c.ntmps g w a σ)(hf:zu g σ base)
  (zsi:∀ow u,DG c o.dst t=some (.sl ow u)->V3 u=true->len*u.size<=100000->Ar c σ base o.dst u len ps.toList k=some r->o.wp P a w K Q)
  (h:qq c σ base o k=some r) (hK:vz c.ntmps k r g w σ base mo K):o.wp P a w K Q:=by
 simp only[qq,ho]at h;split at h
 ·rename_i ow u JZ
  cases hb:(u.zW&&uA 0 ps.toList&&Nat.beq ps.toList.length len&&Nat.ble (len*u.size) 100000) with
  |false=>
   grind[zL]
  |true=>
   rw[hb]at h;simp only[zJ]at h;simp only[zA]at hb;obtain⟨⟨⟨hu,u6⟩,hlen⟩,Dq⟩:=hb;have hlen:=zE hlen;have Dq:=zL Dq;obtain⟨E,v,qB,hv,hvu⟩:=Kr wi JZ;have vN:j8 P E u:=hv.info.congr hvu;obtain⟨i,zv,XD,Eu,Fl,hi4,hi5,hi6⟩:=vN.info;obtain⟨ds,σ1,g1,A3,hk,h1,h2,h3,h4,h5,h6,h7⟩:=IT hu zq h;have yM:=h3.st h1 zq;have QO:=h3.fresh h1 hf;let vs:List Value:=ps.toList.map λx=>a.eval x.2
   have Uv:∀v∈vs,v.cells.size=u.size:=by
    intro v hv;obtain⟨x,hx,rfl⟩:=pe.1 hv;rw[<-gT]
    grind
   have LX:vs.length=len:=by grind
   let A6:Array Value:=(Array.range (len*i.size)).map (zv.cells[· % zv.cells.size]!);let zx0:Array Value:=(Array.range (len*i.size)).map ((#[]:Array Value)[· % (#[]:Array Value).size]!);have q02:A6.size=len*u.size:=by grind
   obtain⟨cells,Ud,ZA⟩:=XF vs 0 A6 Uv (by grind);have OJ:cells.toList=A3.flatten:=by
    rw[ZA];simp only[Z32,Z29,JD,Wq,LX];rw[I4 (by grind),Hc];rw[<-h5];simp[vs];rfl
   have q7f:A3.length=len:=by grind
   have z7r:ps.toList.map (λx=>(x.1,a.eval x.2))=zV 0 vs:=kn u6 a.eval;have zn:(Instr.buildSlice t len (ps.map λx=>(x.1,a.eval x.2))).run P w=.ok (.slice (some ⟨w.heap.size,0,none⟩) len len) (w.alloc (.cells cells E)):=by
    have hnb:¬(2 ^ 24<len*i.size):=by grind
    unfold Instr.buildSlice;simp only[Sem.run_bind,run_underlying qB,Result.andThen_ok];by_cases hz:len*i.size=0
    ·have Fh:len=0:=by
      rcases Nat.mul_eq_zero.1 hz with h0|h0
      all_goals omega
     simp_all[Go.sizeOf,typeInfo,newRow,Array.range_zero']
    ·have OY:=Ud;simp only[A6]at OY;simp_all[Go.sizeOf,typeInfo,zeroValue,newRow]
   have zg:qz (w.alloc (.cells cells E)) (yx g1 w.heap.size base (.row base []) (.slice (some ⟨w.heap.size,0,none⟩) ds.length len)) (σ1.setObj base (.row u ds 0)).z6 base (.row u ds 0):=by
    refine Fj yM.heap.tags hu ?_ ?_ ?_ (λj hj=>?_) _ _
    ·omega
    ·have:len*1<=len*u.size:=Nat.mul_le_mul_left _ (by omega)
     grind[maxLen]
    all_goals grind[length_flatten,Ja]
   have hdl:ds.length=len:=h4.trans hlen;rw[hdl]at zg;have hK1:vz c.ntmps k r g1 w σ1 base mo K:=by
    intro σ' g' a' w' pg qG qm v7 zsh w8;exact hK σ' g' a' w' pg qG (h3.ext.trans qm) (λm hm wX=>v7 m hm (h3.fresh h1 wX)) (zsh.trans h2) w8
   cases hfz:zmw c o.dst with
   |true=>
    rw[hfz]at hk;simp only[zJ]at hk;obtain⟨_,a',J3,hcs',_,hlc',hcm',q6p⟩:=zg;have zN:zM (w.alloc (.cells cells E)) (yx g1 w.heap.size base .ro (.slice (some ⟨w.heap.size,0,none⟩) len len)) none (.sl false u) ds [.slice (some ⟨w.heap.size,0,none⟩) len len]:=by
     refine⟨some ⟨w.heap.size,0,none⟩,len,by rw[hdl],by omega,?_,λva=>⟨w.heap.size,0,cells,E,(0,0),rfl,by simp[yx],heap_alloc_new w _,?_,λj hj=>?_⟩⟩
     ·omega
     ·grind[length_flatten]
     ·rw[Wq,OJ,Ja A3 u.size h6 j (by omega)];exact(h7 j hj _).kept (uU yM.heap.tags _)
    refine z3p (v':=.slice (some ⟨w.heap.size,0,none⟩) len len) (t:=.sl false u) yM QO ?_ (by grind[Ty.zW]) zN rfl hk hK1
    simp_all[execOp]
   |false=>
   rw[hfz]at hk;simp only[zU]at hk;refine Wo (tg:=.row base []) yM QO (.inr ⟨[],rfl⟩) ?_ rfl zg (λy hy=>by grind) (X5 (u:=u) (l:=ds) (by simp[St.setObj,zD]) rfl) hk hK1;simp_all[execOp]
 grind
end
end Go.Kz
namespace Go.Kz
section
variable {P:Program}{w:World}
theorem ZF{T:TypeId}{t:Ty}(h:j8 P T t)(w:World):(Go.sizeOf T).run P w=.ok t.size w:=by
 obtain⟨i,z,h1,h2,_⟩:=h.info;simp[Go.sizeOf,typeInfo,h1,h2]
end
section
variable {R:Type}{P:Program}{o:Oper}{a:Act}{w:World}{c:Ctx}{σ:St}{g:z8}{k:St->Option R}{r:R}{base:Nat}
def zas(P:Program)(w:World)(g:z8)(σ:St)(a:Act)(u:Ty)(fs:List Field)(off i:Nat)(l:List (Nat×Operand))(av:z7):Prop:=
 ∃pl:List (Nat×Nat),(∀w',(fs.mapM (m:=Sem) λf=>do pure (f.offset,<-Go.sizeOf f.type)).run P w'=.ok pl w')/\(∀m,zu g σ m->m∉av.ids)/\
  ∀(pre:List (Nat×Nat)) (cells:Array Value),pre.length=i->cells.toList.drop off=zeroCells u->off<=cells.size->
   ∃yW,Instr.fill (λi=>(pre++pl).toArray[i]?) cells (l.map λx=>(x.1,a.eval x.2))=some yW/\yW.toList.take off=cells.toList.take off/\yW.size=cells.size/\jO w g σ.z6 av (yW.toList.drop off)
theorem BT{n:Nat}(zq:zP n g w a σ):{u:Ty}->{fs:List Field}->{off i:Nat}->{l:List (Nat×Operand)}->{av:z7}->gp σ u i l=some av->av.sk=u.sk->vC P u fs off->zas P w g σ a u fs off i l av
 |.unit,[],off,i,[],av,h,_,_=>by
  simp only[gp,zI]at h;subst h;refine⟨[],λw'=>rfl,λm _=>by simp[z7.ids],λpre cells _ hz _=>⟨cells,rfl,rfl,rfl,?_⟩⟩
  rw[hz];rfl
 |.unit,_::_,off,i,l,av,_,_,hf=>by simp[vC]at hf
 |.unit,[],off,i,_::_,av,h,_,_=>by simp[gp]at h
 |.pair t u,[],off,i,l,av,_,_,hf=>by simp[vC]at hf
 |.pair t u,f::fs,off,i,l,av,h,hs,hf=>by
  simp only[vC]at hf;obtain⟨f1,f2,f3⟩:=hf;have Uj:(zeroCells t).length=t.size:=qD t;have skip:∀z c,uF t=some z->gp σ u (i+1) l=some c->av=.pr z c->zas P w g σ a (.pair t u) (f::fs) off i l av:=λz c hz hc Kf=>by
   subst Kf;simp only[z7.sk,Ty.sk,Sk.pair.injEq]at hs;obtain⟨z1,z2,z3,z4⟩:=A8 (w:=w) (g:=g) (z6:=σ.z6) hz;obtain⟨pl,p1,p2,p3⟩:=BT zq hc hs.2 f3;exact(⟨(off,t.size)::pl,λw'=>by
    have:=p1 w';simp only[List.mapM_cons,Sem.run_bind,ZF f2.info,Result.andThen_ok,Sem.run_pure,this,f1],λm hm=>by
    simp only[z7.ids,z2,JD];exact p2 m hm,λpre cells xN N2 jH=>by
    have zll:cells.toList.drop (off+t.size)=zeroCells u:=by
     rw[<-Z1t,N2];simp only[zeroCells];rw[<-Uj];exact List.drop_left
    have hlen:off+t.size<=cells.size:=by
     have:=Wm List.length N2;simp only[Z20,zeroCells,Jz,gT,Uj]at this;omega
    obtain⟨yW,q1,q2,q3,q4⟩:=p3 (pre++[(off,t.size)]) cells (by simp[xN]) zll hlen;refine⟨yW,by simpa[XQ]using q1,?_,q3,?_⟩
    ·have:=Wm (List.take off) q2;rw[Z2t,Z2t,Z43 (by omega)]at this;exact this
    ·have e:yW.toList.drop off=zeroCells t++yW.toList.drop (off+t.size):=by
      have h1:yW.toList.drop off=(yW.toList.take (off+t.size)).drop off++yW.toList.drop (off+t.size):=by
       rw[<-Z2y (by simp;omega),Z1v]
      rw[h1,q2];congr 1;rw[Z4n,N2,show off+t.size-off=t.size from by omega,<-Uj];simp only[zeroCells];exact List.take_left
     rw[e];exact⟨_,_,rfl,z3,q4⟩⟩)
  cases l with
  |nil=>
   simp only[gp]at h;split at h
   ·rename_i z c hz hc;simp only[zI]at h;subst h;exact skip z c hz hc rfl
   ·simp at h
  |cons jx l=>
   obtain⟨j,x⟩:=jx;simp only[gp]at h
   cases hj:Nat.beq i j with
   |false=>
    rw[hj]at h;simp only[zU]at h;split at h
    ·rename_i z c hz hc;simp only[zI]at h;subst h;exact skip z c hz hc rfl
    ·simp at h
   |true=>
    have ZP:=zE hj;subst ZP;rw[hj]at h;simp only[zJ]at h;split at h
    ·rename_i v c hv hc
     cases hval:v.val with
     |false=>rw[hval]at h;simp at h
     |true=>
      rw[hval]at h;simp only[zJ,zI]at h;subst h;simp only[z7.sk,Ty.sk,Sk.pair.injEq]at hs;obtain⟨pl,p1,p2,p3⟩:=BT zq hc hs.2 f3;obtain⟨e1,e2⟩:=qH zq hv;obtain⟨cs,c1,c2,c3⟩:=jg hval e1;have ql:(a.eval x).cells.size=t.size:=by rw[<-gT,c3,c1.len,hs.1,Ty.zX]
      refine⟨(off,t.size)::pl,λw'=>by
       have:=p1 w';simp only[List.mapM_cons,Sem.run_bind,ZF f2.info,Result.andThen_ok,Sem.run_pure,this,f1],λm hm=>by
       simp only[z7.ids,PH,not_or];exact⟨e2 m hm,p2 m hm⟩,λpre cells xN N2 jH=>?_⟩
      have hlen:off+t.size<=cells.size:=by
       have:=Wm List.length N2;simp only[Z20,zeroCells,Jz,gT,Uj]at this;omega
      have z8d:=BO off (a.eval x).cells.toList 0 cells (by rw[gT];omega);let J2:Array Value:=((a.eval x).cells.toList.zipIdx 0).foldl (λcs (x:Value×Nat)=>cs.setIfInBounds (off+x.2) x.1) cells;have WY:J2.toList=zB cells.toList off (a.eval x).cells.toList:=z8d;have I0:(a.eval x).cells.toList.length=t.size:=by rw[gT,ql]
      have ZX:J2.size=cells.size:=by
       rw[<-gT,WY,yS _ _ _ (by rw[I0,gT];omega),gT]
      have htk:(cells.toList.take off).length=off:=by simp;omega
      have zll:J2.toList.drop (off+t.size)=zeroCells u:=by
       rw[WY];simp only[zB];rw[Z3a,I4 (by rw[Jz,htk,I0];omega),JD,Jz,htk,I0,Z44,Z3g,<-Z1t,N2];simp only[zeroCells];rw[<-Uj];exact List.drop_left
      obtain⟨yW,q1,q2,q3,q4⟩:=p3 (pre++[(off,t.size)]) J2 (by simp[xN]) zll (by rw[ZX];exact hlen);have z7f:yW.toList.take (off+t.size)=cells.toList.take off++(a.eval x).cells.toList:=by
       rw[q2,WY];simp only[zB];rw[Z39 (by rw[Jz,htk,I0];omega),Z21 (by rw[Jz,htk,I0];omega)]
      refine⟨yW,?_,?_,by rw[q3,ZX],?_⟩
      ·simp only[Qw,Instr.fill];have gX:(pre++(off,t.size)::pl).toArray[i]? = some (off,t.size):=by
        rw[<-xN];simp
       simp only[gX];rw[qP (by rw[ql];simp;omega)];rw[show pre++(off,t.size)::pl=pre++[(off,t.size)]++pl from by simp];rw[<-q1];congr 1;show(a.eval x).cells.zipIdx.foldl _ cells=J2;rw[<-Array.foldl_toList,Array.toList_zipIdx]
      ·have:=Wm (List.take off) z7f;rw[Z2t,Z43 (by omega)]at this;rw[this,Z39 (by omega),Z21 (by omega)]
      ·have e:yW.toList.drop off=(a.eval x).cells.toList++yW.toList.drop (off+t.size):=by
        have h1:yW.toList.drop off=(yW.toList.take (off+t.size)).drop off++yW.toList.drop (off+t.size):=by
         rw[<-Z2y (by simp;omega),Z1v]
        rw[h1,z7f];congr 1;rw[Z3a,I4 (by omega),JD,htk,Z44,Z3g]
       rw[e,c3];exact⟨_,_,rfl,c1,q4⟩
    ·simp at h
 |.int _,fs,_,_,l,_,h,_,_=>by simp[gp]at h
 |.bool,fs,_,_,l,_,h,_,_=>by simp[gp]at h
 |.str,fs,_,_,l,_,h,_,_=>by simp[gp]at h
 |.arr _ _,fs,_,_,l,_,h,_,_=>by simp[gp]at h
 |.sl _ _,fs,_,_,l,_,h,_,_=>by simp[gp]at h
 |.ptr _,fs,_,_,l,_,h,_,_=>by simp[gp]at h
 |.fn _ _,fs,_,_,l,_,h,_,_=>by simp[gp]at h
 |.tree _,fs,_,_,l,_,h,_,_=>by simp[gp]at h
theorem EM{z6:qQ}{t:Ty}:{av:z7}->{vs:List Value}->{f:List t.den->Option R}->{r:R}->qj w g z6 av vs->jG t=true->qg t av f=some r->
  ∃l:List t.den,f l=some r/\l.length=vs.length/\(∀v∈vs,v.cells.size=1)/\∀(i:Nat)(h:i<l.length),zM w g none t (l.get ⟨i,h⟩) (qi ((vs.map (·.cells.toList)).flatten) (i*1) 1)
 |.un,vs,f,r,hv,_,h=>by
  simp only[qj]at hv;subst hv;simp only[qg]at h
  exact⟨[],h,rfl,by simp,λi hi=>by simp at hi⟩
 |.pr (.data u d) c,vs,f,r,hv,hk,h=>by
  simp only[qj]at hv;obtain⟨v,rest,rfl,h1,h2⟩:=hv;simp only[qg]at h;obtain⟨e,h⟩:=yz h;subst e;obtain⟨l,k1,k2,k3,k4⟩:=EM h2 hk h;simp only[qy]at h1;obtain⟨cs,⟨_,zN⟩,hval⟩:=h1;have BU:u.size=1:=by cases u<;>simp[jG]at hk<;>rfl
  have hna:u.sk.isAgg=false:=by cases u<;>simp[jG]at hk<;>rfl
  obtain⟨z,rfl⟩:=zN.z63 hna;have hvz:v=z:=by rw[hval];simp[jl,z7.isAgg,hna]
  have qN:=zN.one z (by simp);have hc:v.cells.toList=[z]:=by
   subst hvz;cases v<;>simp[Value.oneCell']at qN<;>rfl
  refine⟨d::l,k1,by simp[k2],λx hx=>?_,λi hi=>?_⟩
  ·rcases gJ.1 hx with rfl|hx
   ·rw[<-gT,hc];rfl
   ·exact k3 x hx
  ·simp only[Qw,Z3f,hc]
   cases i with
   |zero=>simpa[qi]using zN
   |succ i=>
    have:=k4 i (by simpa using hi);simp only[Z2h]at this⊢;have e3:=yB [z] (rest.map (·.cells.toList)).flatten 1 i 1 rfl;rw[Z4s 1 i]at e3;rw[e3]
    exact this
 |.pr (.za) _,_,_,_,_,_,h=>by simp[qg]at h
 |.pr (.ref _ _ _) _,_,_,_,_,_,h=>by simp[qg]at h
 |.pr (.view _ _ _ _ _) _,_,_,_,_,_,h=>by simp[qg]at h
 |.pr (.zw _ _) _,_,_,_,_,_,h=>by simp[qg]at h
 |.pr (.jV _ _ _) _,_,_,_,_,_,h=>by simp[qg]at h
 |.pr (.qF _) _,_,_,_,_,_,h=>by simp[qg]at h
 |.pr (.nv _ _ _ _) _,_,_,_,_,_,h=>by simp[qg]at h
 |.pr (.qW _ _) _,_,_,_,_,_,h=>by simp[qg]at h
 |.pr (.agg _) _,_,_,_,_,_,h=>by simp[qg]at h
 |.pr (.jD _) _,_,_,_,_,_,h=>by simp[qg]at h
 |.pr (.pr _ _) _,_,_,_,_,_,h=>by simp[qg]at h
 |.pr .un _,_,_,_,_,_,h=>by simp[qg]at h
 |.data _ _,_,_,_,_,_,h=>by simp[qg]at h
 |.za,_,_,_,_,_,h=>by simp[qg]at h
 |.ref _ _ _,_,_,_,_,_,h=>by simp[qg]at h
 |.view _ _ _ _ _,_,_,_,_,_,h=>by simp[qg]at h
 |.zw _ _,_,_,_,_,_,h=>by simp[qg]at h
 |.jV _ _ _,_,_,_,_,_,h=>by simp[qg]at h
 |.qF _,_,_,_,_,_,h=>by simp[qg]at h
 |.nv _ _ _ _,_,_,_,_,_,h=>by simp[qg]at h
 |.qW _ _,_,_,_,_,_,h=>by simp[qg]at h
 |.agg _,_,_,_,_,_,h=>by simp[qg]at h
 |.jD _,_,_,_,_,_,h=>by simp[qg]at h
theorem NP{n0:Nat}(zq:zP n0 g w a σ){u:Ty}(qU:u.zW=true)(hna:u.sk.isAgg=false):∀(n i:Nat) (ps:List (Nat×Operand)) (f:List u.den->Option R),vL σ u n i ps f=some r->
  ∃l,f l=some r/\List.length l=n/\∀cells:Array Value,cells.size=i+n->(∀j,i<=j->j<i+n->[cells[j]?]=(zeroCells u).map some)->
   ∃yW,Instr.fill (λi=>some (i*1,1)) cells (ps.map λx=>(x.1,a.eval x.2))=some yW/\yW.size=cells.size/\(∀j,j<i->yW[j]? = cells[j]?)/\
    ∀(j:Nat)(hj:j<List.length l),∃v,yW[i+j]? = some v/\zM w g none u (List.get l ⟨j,hj⟩) [v]:=by
 have zer:∀{z:u.den},u.zero=some z->∃v,zeroCells u=[v]/\zM w g none u z [v]:=by
  intro z hz;have h1:=vK (w:=w) (g:=g) qU hz;obtain⟨v,hv⟩:=h1.z63 hna;exact⟨v,hv,by rw[<-hv];exact h1⟩
 intro n
 induction n with
 |zero=>
  intro i ps f h
  cases ps with
  |nil=>exact⟨[],h,rfl,λcells hs hz=>⟨cells,rfl,rfl,λ_ _=>rfl,λj hj=>by simp at hj⟩⟩
  |cons x ps=>simp[vL]at h
 |succ n ih=>
  have skip:∀(i:Nat) (ps:List (Nat×Operand)) (f:List u.den->Option R) (z:u.den),u.zero=some z->vL σ u n (i+1) ps (λl=>f (z::l))=some r->
    ∃l,f l=some r/\List.length l=n+1/\∀cells:Array Value,cells.size=i+(n+1)->(∀j,i<=j->j<i+(n+1)->[cells[j]?]=(zeroCells u).map some)->
     ∃yW,Instr.fill (λi=>some (i*1,1)) cells (ps.map λx=>(x.1,a.eval x.2))=some yW/\yW.size=cells.size/\(∀j,j<i->yW[j]? = cells[j]?)/\
      ∀(j:Nat)(hj:j<List.length l),∃v,yW[i+j]? = some v/\zM w g none u (List.get l ⟨j,hj⟩) [v]:=by
   intro i ps f z hz h;obtain⟨v0,hv0,hrz⟩:=zer hz;obtain⟨l,k1,k2,k3⟩:=ih (i+1) ps _ h;refine⟨z::l,k1,by simp[k2],λcells hs N2=>?_⟩;obtain⟨yW,q1,q2,q3,q4⟩:=k3 cells (by omega) λj h1 h2=>N2 j (by omega) (by omega)
   refine⟨yW,q1,q2,λj hj=>q3 j (by omega),λj hj=>?_⟩
   cases j with
   |zero=>
    have:=N2 i (jq _) (by omega);rw[hv0]at this;simp only[Qw,Z2b,CA,Dx]at this
    exact⟨v0,by rw[Ot,q3 i (by omega),this],hrz⟩
   |succ j=>
    obtain⟨v,hv,hr⟩:=q4 j (by simpa using hj);exact⟨v,by rw[<-hv];congr 1;omega,hr⟩
  intro i ps f h
  cases ps with
  |nil=>
   simp only[vL]at h;split at h
   ·rename_i z hz;exact skip i [] f z hz h
   ·simp at h
  |cons x ps=>
   obtain⟨j,x⟩:=x;simp only[vL]at h
   cases ZP:Nat.beq i j with
   |false=>
    rw[ZP,zU]at h;split at h
    ·rename_i z hz;exact skip i _ f z hz h
    ·simp at h
   |true=>
    rw[ZP,zJ]at h;have q1v:=zE ZP;subst q1v;split at h
    ·rename_i t d hx;obtain⟨e,h⟩:=yz h;subst e;obtain⟨l,k1,k2,k3⟩:=ih (i+1) ps _ h;have h1:=(qH zq hx).1;simp only[qy]at h1;obtain⟨cs,⟨_,zN⟩,hval⟩:=h1;obtain⟨z,rfl⟩:=zN.z63 hna;have hvz:a.eval x=z:=by rw[hval];simp[jl,z7.isAgg,hna]
     have qN:=zN.one z (by simp);have hc:(a.eval x).cells=#[z]:=by
      rw[hvz];cases z<;>simp[Value.oneCell']at qN<;>rfl
     refine⟨_,k1,by simp[k2],λcells hs N2=>?_⟩;have wm:(a.eval x).cells.zipIdx.foldl (λcs (y:Value×Nat)=>cs.setIfInBounds (i*1+y.2) y.1) cells=cells.setIfInBounds i z:=by
      rw[hc];simp
     obtain⟨yW,q1,q2,q3,q4⟩:=k3 (cells.setIfInBounds i z) (by simp;omega) λj h1 h2=>by
      rw[Z63 (by omega)];exact N2 j (by omega) (by omega)
     refine⟨yW,?_,by rw[q2];simp,λj hj=>by rw[q3 j (by omega),Z63 (by omega)],λj hj=>?_⟩
     ·simp only[Qw,Instr.fill];rw[qP (by rw[hc];simp;omega)];rw[<-q1];congr 1
     ·cases j with
      |zero=>exact⟨z,by rw[Ot,q3 i (by omega),Array.getElem?_setIfInBounds_self_of_lt (by omega)],zM.yy qU zN⟩
      |succ j=>
       obtain⟨v,hv,hr⟩:=q4 j (by simpa using hj);exact⟨v,by rw[<-hv];congr 1;omega,hr⟩
    ·simp at h
theorem z5m(wi:gH P c.tt){t:TypeId}{ps:Array (Nat×Operand)}(ho:o.op=.build t ps)(zq:zP c.ntmps g w a σ)(h:qq c σ base o k=some r):vH P o a w g σ c k r:=by
 simp only[qq,ho]at h;split at h
 ·-- a struct
  rename_i x y JZ;split at h
  ·rename_i av Ud
   cases hb:av.sk.same (Ty.pair x y).sk with
   |false=>rw[hb]at h;simp at h
   |true=>
    rw[hb]at h;simp only[zJ]at h;have hs:=Sk.qJ hb;have hT:=wi _ _ JZ;simp only[qZ]at hT;obtain⟨⟨fs,hu,hf⟩,vN⟩:=hT;obtain⟨i,z,i1,i2,i3,i4,i5,i6⟩:=vN.info;obtain⟨pl,p1,p2,p3⟩:=BT (P:=P) zq Ud hs hf;obtain⟨cells,q1,_,_,q4⟩:=p3 [] z.cells rfl (by rw[Z3g,i5]) (v8 _);rw[Z3g]at q4;simp only[JD]at q1;have zsr:∀w',(fs.mapM (m:=Sem) λf=>do pure (f.offset,<-Go.sizeOf f.type)).run P w'=.ok pl.toArray w':=λw'=>by
     have hp:=p1 w';rw[Array.mapM_eq_mapM_toList,<-bind_pure_comp];simp only[Sem.run_bind,hp,Result.andThen_ok,Sem.run_pure]
    refine Qy (v:=.agg cells) (λw' _=>?_) ?_ (λm hm=>by have:=p2 m hm;simpa[z7.ids]using this) h
    ·have hz:(zeroValue t).run P w'=.ok z w':=by simp[zeroValue,typeInfo,i1,i4]
     have:(Instr.build t (ps.map λx=>(x.1,a.eval x.2))).run P w'=.ok (.agg cells) w':=by
      unfold Instr.build;simp only[Sem.run_bind,hz,run_underlying hu,Result.andThen_ok,Sem.run_pure,zsr w',Z30,q1]
     simp[execOp,ho,this]
    ·simp only[qy];exact⟨_,by simp only[jO];exact q4,by simp[jl,z7.isAgg]⟩
  ·simp at h
 ·-- an array
  rename_i n u JZ;split at h
  ·rename_i av hev
   cases hb:(uA 0 ps.toList&&Nat.beq ps.toList.length n&&jG u) with
   |false=>
    rw[hb,zU]at h
    cases pX:(u.zW && !u.sk.isAgg) with
    |false=>rw[pX]at h;simp at h
    |true=>
    rw[pX,zJ]at h;simp only[zA,PF]at pX;obtain⟨qU,hna⟩:=pX;have BU:u.size=1:=by cases u<;>simp[Ty.sk,Sk.isAgg]at hna<;>simp[Ty.size]
    obtain⟨l,k1,k2,k3⟩:=NP zq qU hna n 0 ps.toList _ h;have hT:=wi _ _ JZ;simp only[qZ]at hT;obtain⟨⟨E,hu,hE⟩,vN⟩:=hT;obtain⟨i,z,i1,i2,i3,i4,i5,i6⟩:=vN.info;have Uj:(zeroCells u).length=1:=by rw[qD,BU]
    have D4:z.cells.size=n:=by
     rw[<-gT,i5];have:=qD (.arr n u);rw[this];simp[Ty.size,BU]
    obtain⟨cells,q1,q2,_,q4⟩:=k3 z.cells (by omega) λj _ hj=>by
     obtain⟨z0,LU⟩:∃z0,zeroCells u=[z0]:=by
      cases hq:zeroCells u with
      |nil=>rw[hq]at Uj;simp at Uj
      |cons x l=>rw[hq]at Uj;simp at Uj;exact⟨x,by rw[Uj]⟩
     rw[LU,<-Z2i,i5,zeroCells,LU];have:(List.replicate n [z0]).flatten=List.replicate n z0:=by simp
     rw[this,List.getElem?_replicate];simp;omega
    refine Qy (v:=.agg cells) (λw' _=>?_) ?_ (λm _=>by simp[z7.ids]) k1
    ·have hz:(zeroValue t).run P w'=.ok z w':=by simp[zeroValue,typeInfo,i1,i4]
     have ql:=ZF hE.info w';rw[BU]at ql;have:(Instr.build t (ps.map λx=>(x.1,a.eval x.2))).run P w'=.ok (.agg cells) w':=by
      unfold Instr.build;simp only[Sem.run_bind,hz,run_underlying hu,ql,Result.andThen_ok,Sem.run_pure,Z30,q1]
     simp[execOp,ho,this]
    ·simp only[qy];refine⟨cells.toList,⟨by simpa[Ty.zW]using qU,k2,by rw[gT,q2,D4,BU];omega,λj hj=>?_⟩,by simp[jl,z7.isAgg,Ty.sk,Sk.isAgg]⟩;obtain⟨v,hv,hr⟩:=q4 j hj;rw[BU];have e:qi cells.toList (j*1) 1=[v]:=by
      have yP:j<cells.size:=by rw[q2,D4,<-k2];exact hj
      simp only[qi,Z2h];rw[Z2a (by rw[gT];exact yP)];simp only[Z2u,Z29,Z5j];rw[Wq,Z5k yP]at hv;rw[Option.some.inj hv]
     rw[e]
     exact zM.yy qU hr
   |true=>
    rw[hb]at h;simp only[zJ]at h;simp only[zA]at hb;obtain⟨⟨h1,h2⟩,h3⟩:=hb;have hn:=zE h2;obtain⟨hv,hf⟩:=VJ zq hev;have BU:u.size=1:=by cases u<;>simp[jG]at h3<;>rfl
    have qU:u.zW=true:=by cases u<;>simp[jG]at h3<;>rfl
    obtain⟨l,k1,k2,k3,k4⟩:=EM hv h3 h;have hT:=wi _ _ JZ;simp only[qZ]at hT;obtain⟨⟨E,hu,hE⟩,vN⟩:=hT;obtain⟨i,z,i1,i2,i3,i4,i5,i6⟩:=vN.info;have z7r:ps.toList.map (λx=>(x.1,a.eval x.2))=zV 0 ((ps.toList.map (·.2)).map a.eval):=by
     rw[kn h1 a.eval,Oo];rfl
    have LX:((ps.toList.map (·.2)).map a.eval).length=n:=by simp[<-hn]
    have D4:z.cells.size=n:=by
     rw[<-gT,i5];have:=qD (.arr n u);rw[this];simp[Ty.size,BU]
    obtain⟨cells,f1,f2⟩:=XF (size:=1) ((ps.toList.map (·.2)).map a.eval) 0 z.cells k3 (by rw[LX,D4];omega);have ZA:cells.toList=(((ps.toList.map (·.2)).map a.eval).map (·.cells.toList)).flatten:=by
     rw[f2,LX];simp only[Z32,Z29,JD,Wq,Z2h];rw[I4 (by rw[gT,D4];exact jq _),Hc]
    refine Qy (v:=.agg cells) (λw' _=>?_) ?_ (λm _=>by simp[z7.ids]) k1
    ·have hz:(zeroValue t).run P w'=.ok z w':=by simp[zeroValue,typeInfo,i1,i4]
     have ql:=ZF hE.info w';rw[BU]at ql;have:(Instr.build t (ps.map λx=>(x.1,a.eval x.2))).run P w'=.ok (.agg cells) w':=by
      unfold Instr.build;simp only[Sem.run_bind,hz,run_underlying hu,ql,Result.andThen_ok,Sem.run_pure,Z30,z7r,f1]
     simp[execOp,ho,this]
    ·simp only[qy];refine⟨cells.toList,⟨qU,by rw[k2,LX],?_,λj hj=>?_⟩,by simp[jl,z7.isAgg,Ty.sk,Sk.isAgg]⟩
     ·rw[ZA,length_flatten _ 1 (λcs Zw=>by
       obtain⟨v,hv,rfl⟩:=pe.1 Zw;rw[gT];exact k3 v hv),J9,LX,BU]
     ·have:=k4 j hj;rw[BU,ZA];exact zM.yy qU this
  ·simp at h
 ·simp at h
end
end Go.Kz
namespace Go.Kz
variable {R:Type}
structure gy (w:World) (g:z8) (w':World) (g':z8) (id b0:Nat):Prop where
 heap:∀b,b≠b0->w'.heap[b]? = w.heap[b]?
 size:w'.heap.size=w.heap.size
 os:w'.os=w.os
 tape:w'.tape=w.tape
 output:w'.output=w.output
 drawn:w'.drawn=w.drawn
 own:(∃p,g.tag b0=.row id p)\/g.tag b0=.box id
 tag:g'.tag=g.tag
 qY:g'.qY=g.qY
 sv:∀i,i≠id->g'.sv i=g.sv i
theorem gy.zhn{w w':World}{g g':z8}{id b0:Nat}(h:gy w g w' g' id b0){b:Nat}(hb:g.tag b=.ro\/g.tag b=.qw):b≠b0:=by
 intro he;subst he;rcases h.own with⟨p,h⟩|h<;>rw[h]at hb<;>simp at hb
theorem gy.ro{w w':World}{g g':z8}{id b0:Nat}(h:gy w g w' g' id b0):zS w g w' g':=
 ⟨λb hb=>⟨by rw[h.tag];exact hb,h.heap b (h.zhn (.inl hb))⟩⟩
theorem gy.same{w w':World}{g g':z8}{id b0:Nat}(h:gy w g w' g' id b0){i:Nat}(hi:i≠id):Qr w g w' g' i:=by
 refine⟨⟨λq=>by rw[h.sv i hi],λq b hb=>⟨by rw[h.tag];exact hb,h.heap b ?_⟩⟩,by rw[h.qY],λhb=>⟨by rw[h.tag];exact hb,h.heap _ ?_⟩⟩
 ·intro he;subst he;rcases h.own with⟨p,h⟩|h<;>rw[h]at hb<;>simp at hb;exact hi hb.1.symm
 ·intro he;rw[he]at hb;rcases h.own with⟨p,h⟩|h<;>rw[h]at hb<;>simp at hb;exact hi hb.symm
theorem gy.ext{w w':World}{g g':z8}{id b0:Nat}(h:gy w g w' g' id b0):Ext w g w' g':=
 ⟨h.os,h.tape,h.output,Z3d h.drawn.symm,by rw[h.size];exact jq _,λb _ hb=>⟨h.heap b (h.zhn (hb.symm.imp _root_.id _root_.id)),by rw[h.tag]⟩⟩
theorem gy.st{n:Nat}{w w':World}{a:Act}{g g':z8}{σ:St}{id b0:Nat}{o':Obj}(h:gy w g w' g' id b0)(zq:zP n g w a σ)
  (hk:qu g g' id (σ.z6 id) (some o')) (zg:qz w' g' (σ.setObj id o').z6 id o'):zP n g' w' a (σ.setObj id o'):=by
 have u4:∀i,qu g g' i (σ.z6 i) ((σ.setObj id o').z6 i):=by
  intro i;by_cases hi:i=id
  ·subst hi;simp only[St.setObj,zD];exact hk
  ·simp only[St.setObj];rw[zm _ _ hi];exact qu.same (h.same hi)
 refine⟨λi av hi=>?_,⟨λi x hx=>?_,λb hb=>?_⟩,zq.size,zq.defers,zq.known.kept h.ro⟩
 ·obtain⟨v,hv,zc⟩:=zq.zy i av hi;exact⟨v,hv,qy.frame h.ro (λi _=>u4 i) zc⟩
 ·by_cases hi:i=id
  ·subst hi;simp only[St.setObj,zD,zI]at hx;subst hx;exact zg
  ·have QF:σ.z6 i=some x:=by simpa[St.setObj,zm _ _ hi]using hx
   exact qz.frame h.ro (h.same hi) (λy hy i' _=>u4 i') (zq.heap.z6 i x QF)
 ·rw[h.tag]at hb;rw[h.size];exact zq.heap.tags b hb
theorem gy.fresh{w w':World}{g g':z8}{σ:St}{id b0 m:Nat}{o':Obj}(h:gy w g w' g' id b0)(hid:σ.z6 id≠none)(hc:∀y,o'=.cell y->m∉y.ids)(hf:zu g σ m):zu g' (σ.setObj id o') m:=by
 have hm:m≠id:=by intro he;subst he;exact hid hf.z6
 refine⟨by simp only[St.setObj];rw[zm _ _ hm];exact hf.z6,λb p=>by rw[h.tag];exact hf.row b p,λb=>by rw[h.tag];exact hf.box b,hf.zy,λi av hi=>?_⟩;by_cases he:i=id
 ·subst he;simp only[St.setObj,zD,zI]at hi;exact hc av hi
 ·simp only[St.setObj]at hi;rw[zm _ _ he]at hi;exact hf.cells i av hi
theorem jj{w:World}{g:z8}{id b0:Nat}(cs:Array Value)(QL:(∃p,g.tag b0=.row id p)\/g.tag b0=.box id):gy w g (w.setRow b0 cs) g id b0:=
 ⟨λb hb=>setRow_other w b0 b cs hb,by simp[World.setRow],rfl,rfl,rfl,rfl,QL,rfl,rfl,λ_ _=>rfl⟩
section
variable {P:Program}{o:Oper}{a:Act}{w:World}{K:Act->World->Prop}{Q:Exit->Act->World->Prop}{c:Ctx}{σ:St}{g:z8}{k:St->Option R}{r:R}{base:Nat}{mo:Bool}
theorem xU{T:TypeId}{u:Ty}(hT:qZ P u T){b off:Nat}{cc:Array Value}{e:TypeId}{v:Value}{cs:List Value}(hc:w.heap[b]? = some (.cells cc e (0,0)))(hv:v.cells.toList=cs)
  (hl:cs.length=u.size) (hs:off+u.size<=cc.size) (h1:∀x∈cs,x.oneCell'=true) :
  (storeVar T ⟨b,off,none⟩ v).run P w=.ok () (w.setRow b (zB cc.toList off cs).toArray):=by
 have ql:=hT.info.sizeOf w;have Uv:v.cells.size=u.size:=by rw[<-gT,hv,hl]
 have zq:=run_storeCells_at P b off e cs 0 cc w hc (by rw[hl];omega) h1;simp only[Ot]at zq;simp[storeVar,ql,Uv,hv,zq,zB]
theorem wp_skip{σ':St}{g':z8}{w':World}(hd:o.dst=none)(zn:(execOp a.eval o).run P w=.ok .skip w')(zq:zP c.ntmps g' w' a σ')(qm:Ext w g w' g')
  (v7:∀m,(m<base\/base+8<=m)->zu g σ m->zu g' σ' m) (hn:σ'.next=σ.next) (hk:k σ'=some r) (w8:mo=false->vq w w') (hK:vz c.ntmps k r g w σ base mo K):o.wp P a w K Q:=by
 unfold Oper.wp;rw[zn,Oper.upon_skip,hd];exact hK σ' g' a w' hk zq qm v7 hn w8
theorem z08{id:Nat}{t:Ty}{l:List t.den}{e:Nat}{i:Int}{q:Path}{u:Ty}{d:u.den}{cs:List Value}{f:List t.den->Option R}{b0 j6:Nat}
  (hh:yH w g σ.z6) (ho:σ.z6 id=some (.row t l e)) (hu:u.zW=true) (zN:zM w g none u d cs)
  (gX:place g id (.sl true t) [] 0 0 (.idx i::q)=some (b0,j6)) (h:yT (.sl true t) l (.idx i::q) u d f=some r) :
  ∃l' cc ee,f l'=some r/\l'.length=l.length/\w.heap[b0]? = some (.cells cc ee (0,0))/\g.tag b0=.row id []/\j6+u.size<=cc.size/\
   qz (w.setRow b0 (zB cc.toList j6 cs).toArray) g (σ.setObj id (.row t l' e)).z6 id (.row t l' e):=by
 have zg:=hh.z6 id _ ho;simp only[yT,Zh]at h;obtain⟨x,hx,h⟩:=h;obtain⟨h0,hi,rfl,yP⟩:=jt hx;obtain⟨ad,cap,Zw,yU,Kb,QR,wJ⟩:=zg.2;rcases wJ with⟨_,hl,_⟩|⟨b,off,cc,ee,rfl,ze,zZ,ql,GA⟩
 ·rw[hl]at hi;simp at hi
 ·have vw:=zM.yy (o':=none) zg.1 (GA _ hi);obtain⟨d',o',hk,jH,hr⟩:=Qu zg.1 vw zN h;have gQ:place g id (.sl true t) [] 0 0 (.idx i::q)=some (b,off+i.toNat*t.size+o'):=by
   simp only[place,yU,JD];exact uk jH
  rw[gX]at gQ;simp only[zI,p8]at gQ;obtain⟨rfl,rfl⟩:=gQ;have hle:=Sk.we jH;rw[Ty.zX,Ty.zX]at hle;have JX:(i.toNat+1)*t.size<=cap*t.size:=wI _ (by omega);rw[kK]at JX;have ZA:cs.length=u.size:=zN.len;have Q3:cc.toList.length=cc.size:=gT;refine⟨_,cc,ee,hk,qt _ _ _,zZ,ze,by omega,zg.1,some ⟨b0,off,none⟩,cap,?_,?_,?_,QR,.inr ⟨b0,off,(zB cc.toList (off+i.toNat*t.size+o') cs).toArray,ee,rfl,ze,?_,?_,λj hj=>?_⟩⟩
  ·rw[qt,yU]
  ·rw[qt];exact yU
  ·rw[qt];exact Kb
  ·exact setRow_heap w b0 cc _ ee _ zZ
  ·rw[Z3z,yS _ _ _ (by rw[ZA,Q3];omega),Q3];exact ql
  ·have SZ:zS w g (w.setRow b0 (zB cc.toList (off+i.toNat*t.size+o') cs).toArray) g:=(jj (id:=id) _ (.inl ⟨[],ze⟩)).ro;have gg:j<l.length:=by rw[qt]at hj;exact hj
   have BB:(j+1)*t.size<=cap*t.size:=wI _ (by omega);rw[kK]at BB;rw[JS];refine zM.yy zg.1 (o:=none) ?_;by_cases ZP:i.toNat=j
   ·rw[qn ZP];subst ZP;have e:off+i.toNat*t.size+o'=(off+i.toNat*t.size)+o':=rfl;rw[uj _ _ _ _ _ (by rw[ZA];exact hle) (by rw[Q3];omega)];exact hr.kept SZ
   ·rw[qP ZP];have hold:=(zM.yy (o':=none) zg.1 (GA j gg)).kept SZ;rcases Z3v ZP with KQ|hgt
    ·have h3:(i.toNat+1)*t.size<=j*t.size:=wI _ KQ;rw[kK]at h3;rw[vJ _ _ _ _ _ (by rw[ZA];omega) (by rw[ZA,Q3];omega)];exact hold
    ·have h3:(j+1)*t.size<=i.toNat*t.size:=wI _ hgt;rw[kK]at h3;rw[j9 _ _ _ _ _ (by omega) (by rw[Q3];omega)];exact hold
end
end Go.Kz
