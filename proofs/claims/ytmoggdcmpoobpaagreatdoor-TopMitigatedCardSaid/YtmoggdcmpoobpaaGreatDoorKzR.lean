/-
  Lengths, addresses, loads.
-/
import Derived.Test.YtmoggdcmpoobpaaGreatDoorKzL
import Derived.MapKept
import Derived.Laws.MakeOwn
set_option linter.unusedVariables false
set_option linter.unusedSimpArgs false
namespace Go.Kz
variable {R:Type}
section
variable {P:Program}{o:Oper}{a:Act}{w:World}{K:Act->World->Prop}{Q:Exit->Act->World->Prop}{c:Ctx}{J:St}{g:z8}{k:St->Option R}{r:R}{base:Nat}
theorem Wz{b:Bool}{x:Option R}{r:R}(h:cond b x none=some r):b=true/\x=some r:=by
 cases b<;>simp_all
theorem qB{b:Bool}{x:Option R}(h:zo b x=some r):b=true/\x=some r:=by
 cases b<;>simp_all[zo]
def Rv(P:Program)(kt:Ty)(K:TypeId): Prop := qv P kt K/\(jU kt=false->P.stoodInHeld K=false /\ ∀fs, P.underlying K=some (.struct fs) -> ∀f ∈ fs.toList, f.name ≠ "_")
def C9(P:Program)(mt:Nat->Option (Ty×Ty)):Prop:=∀t kt vt,mt t=some (kt,vt)->∃K E,P.underlying t=some (.map K E)/\Rv P kt K/\qv P vt E/\∃i z,P.info? E=some i/\i.zero=some z/\z=jh vt.sk.isAgg z.cells.toList
theorem ZX{J:St}{mt:Option (Ty×Ty)}{a:z7}{f:(id:Nat)->(kt vt:Ty)->List (kt.den×vt.den)->Option R}{r:R}(h:M4 J mt a f=some r):
  ∃id kt vt m,a=.qV id/\mt=some (kt,vt)/\J.z6 id=some (.map kt vt m)/\kTy kt=true/\vt.qs=true/\f id kt vt m=some r:=by
 unfold M4 at h;split at h
 ·rename_i id Ay X6;split at h
  ·rename_i kt vt m zp
   cases hc:((Ty.same kt Ay).isSome&&(Ty.same vt X6).isSome&&kTy kt&&vt.qs) with
   |false=>rw[hc]at h;simp at h
   |true=>
    rw[hc]at h;simp only[zA,Z37]at hc;obtain⟨⟨⟨⟨e1,_⟩,⟨e2,_⟩⟩,hk⟩,hv⟩:=hc;obtain rfl:=e1.down;obtain rfl:=e2.down;exact⟨id,kt,vt,m,rfl,rfl,zp,hk,hv,h⟩
  ·simp at h
 ·simp at h
theorem QL.length:{es:List MapEntry}->{m:List (List UInt8×Bool)}->QL es m->es.length=m.length
 |[],[],_=>rfl
 |_::_,(_,_)::_,⟨_,_,h⟩=>by simp[h.length]
 |[],_::_,h=>h.elim
 |_::_,[],h=>h.elim
theorem QL.of{w:World}{g:z8}:{es:List MapEntry}->{m:List (List UInt8×Bool)}->yI w g .str .bool es m->QL es m
 |[],[],_=>trivial
 |_::_,(_,_)::_,⟨⟨_,⟨s,h1,h2⟩,e1⟩,⟨_,h3,e2⟩,h⟩=>by
  have h3:_=[Value.bool _]:=h3;subst h1;subst h3
  exact⟨⟨s,e1,h2⟩,e2,QL.of h⟩
 |[],_::_,h=>h.elim
 |_::_,[],h=>h.elim
theorem QL.to{w:World}{g:z8}:{es:List MapEntry}->{m:List (List UInt8×Bool)}->QL es m->yI w g .str .bool es m
 |[],[],_=>trivial
 |_::_,(_,_)::_,⟨⟨s,e1,h2⟩,e2,h⟩=>⟨⟨_,⟨s,rfl,h2⟩,e1⟩,⟨_,rfl,e2⟩,QL.to h⟩
 |[],_::_,h=>h.elim
 |_::_,[],h=>h.elim
theorem yI.length{w:World}{g:z8}{kt vt:Ty}:{es:List MapEntry}->{m:List (kt.den×vt.den)}->yI w g kt vt es m->es.length=m.length
 |[],[],_=>rfl
 |_::_,(_,_)::_,⟨_,_,h⟩=>by simp[h.length]
 |[],_::_,h=>h.elim
 |_::_,[],h=>h.elim
theorem Zc{w:World}{g:z8}{z6:qZ}{id:Nat}{v:Value}{kt vt:Ty}{m:List (kt.den×vt.den)}(h:zm w g z6 (.qV id) v)(ho:z6 id=some (.map kt vt m)):v=.map (some (g.qp id)):=by
 simp only[zm]at h;obtain⟨cs,⟨x,rfl,_,hx⟩,hv⟩:=h;rw[hv];exact hx _ _ _ ho
theorem zhe{args:Array Operand}{ts:Array TypeId}(ho:o.op=.call { callee:=.builtin .len,args:=args,argTypes:=ts })(kA:p6 P c.tt)(HT:C9 P c.mt)
  (zj:zU c.ntmps g w a J) (h:yE c J base o k=some r):wk P o a w g J c k r:=by
 simp only[yE,ho]at h;split at h
 ·rename_i x t hargs pR;split at h
  ·rename_i av ot u hx PT;have hT:=kA _ _ PT;simp only[qv]at hT;obtain⟨⟨E,qu,_⟩,_⟩:=hT;obtain⟨ex,ef⟩:=qD zj hx;clear ef;have key:∃n:Nat,(∃b cp,a.eval x=.slice b n cp)/\n<=maxLen/\(J.qo c o.dst (.data (.int .i64) (n:Int)) k=some r):=by
    unfold znc at h;split at h
    ·have:=QG.1 ex;exact⟨0,⟨none,0,this⟩,jF _,h⟩
    ·rename_i ow t' l;simp only[zm]at ex;obtain⟨cs,⟨qY,zF⟩,hv⟩:=ex
     cases ow with
     |true=>simp[Ty.zG]at qY
     |false=>
      obtain⟨b,cp,rfl,h1,h2,_⟩:=zF;exact⟨_,⟨b,cp,hv⟩,by omega,h⟩
    ·obtain⟨t',l,zp,rfl,_,h⟩:=kV zj.heap h;simp only[zm]at ex;obtain⟨cs,⟨v,rfl,qc,hv⟩,jl⟩:=ex;have e1:=(hv _ _ _ zp).2 rfl;obtain⟨b,cp,_,yZ,h1,h2,_⟩:=(zj.heap.z6 _ _ zp).2;refine⟨l.length,⟨b,cp,?_⟩,by omega,h⟩;rw[<-yZ,<-e1];exact jl
    ·rename_i id p ep av bv;obtain⟨t',l,zp,rfl,_,h⟩:=kV zj.heap h;simp only[zm]at ex;obtain⟨cs,⟨v,rfl,qc,hv⟩,jl⟩:=ex;obtain⟨_,h0,uN,Vs,e1⟩:=(hv _ _ _ zp).2 rfl;obtain⟨b,cp,_,yZ,h1,h2,_⟩:=(zj.heap.z6 _ _ zp).2;refine⟨(bv-av).toNat,⟨if cp-av.toNat=0 then b else b.map (·.add (av.toNat*t'.size)),cp-av.toNat,?_⟩,by omega,?_⟩
     ·rw[jl];show v=_;rw[e1,yZ];rfl
     ·rw[Z20 (by omega)];exact h
    ·obtain⟨t',l0,e,i,v',l,zp,Br,zF,h,_,_⟩:=U5 zj.heap h;simp only[zm]at ex;obtain⟨cs,⟨v,rfl,qc,hv⟩,jl⟩:=ex;have e1:=((hv _ _ _ _ _ zp).2 Br).1 rfl;obtain⟨b,cp,_,yZ,h1,h2,_⟩:=zF;refine⟨l.length,⟨b,cp,?_⟩,by omega,h⟩;rw[<-yZ,<-e1];exact jl
    ·simp at h
   obtain⟨n,⟨b,cp,hv⟩,hn,h⟩:=key;refine Zf (v:=.int .i64 n) ?_ (jm ?_) (λm _=>by simp[z7.ids]) h
   ·intro w' _;have e1:args=#[x]:=by apply C5.1;simpa using hargs
    have e2:ts=#[t]:=by apply C5.1;simpa using pR
    subst e1;subst e2;simp[execOp,ho,resolve,invoke,builtin,Builtin.len_,run_underlying qu,hv,goInt]
   ·simp only[maxLen]at hn;simp only[IntKind.min,IntKind.max,IntKind.bits,IntKind.signed];simp;omega
  ·rename_i l hx PT;have hT:=kA _ _ PT;simp only[qv]at hT;obtain⟨s,hv,hl,hs⟩:=Gy (l:=l) (qD zj hx).1;subst hl;have qG:s.data.toList.length=s.size:=vl;refine Zf (v:=.int .i64 s.size) ?_ (by rw[qG];refine jm ?_;simp only[maxLen]at hs;simp only[IntKind.min,IntKind.max,IntKind.bits,IntKind.signed];simp;omega) (λm _=>by simp[z7.ids]) h;intro w' _;have e1:args=#[x]:=by apply C5.1;simpa using hargs
   have e2:ts=#[t]:=by apply C5.1;simpa using pR
   subst e1;subst e2;simp[execOp,ho,resolve,invoke,builtin,Builtin.len_,run_underlying hT.1,hv,goInt]
  ·rename_i id p ep ow hx PT;have hT:=kA _ _ PT;simp only[qv]at hT;obtain⟨⟨K,E,qu⟩,_⟩:=hT;obtain⟨m,h,hm⟩:=z1u zj.heap h;obtain⟨hlen,h⟩:=qB h;have hm:=hm _ (qD zj hx).1;refine Zf (v:=.int .i64 (m.getD []).length) ?_ (jm ?_) (λm _=>by simp[z7.ids]) h
   ·intro w' wx;replace wx:=wx (by simp[isP,ho]);have e1:args=#[x]:=by apply C5.1;simpa using hargs
    have e2:ts=#[t]:=by apply C5.1;simpa using pR
    subst e1;subst e2
    cases m with
    |none=>
     have hm:a.eval x=.map none:=hm
     simp[execOp,ho,resolve,invoke,builtin,Builtin.len_,run_underlying qu,hm,goInt]
    |some m=>
     obtain⟨b,es,ck,hv,ht,hblk,zF,_⟩:=hm;have jt:w'.heap[b]? = some (.map es ck):=by rw[wx _ (zj.heap.tags _ (by rw[ht];simp))];exact hblk
     have qG:es.size=m.length:=by rw[<-zF.length,vl]
     have hg:(getObj b).run P w'=.ok (.map es ck) w':=by simp[getObj,Sem.run,jt]
     simp[execOp,ho,resolve,invoke,builtin,Builtin.len_,run_underlying qu,hv,goInt,hg,qG]
   ·have:(m.getD []).length<=room:=by simpa using hlen
    simp only[room]at this;simp only[IntKind.min,IntKind.max,IntKind.bits,IntKind.signed];simp;omega
  ·rename_i av hx PT _ _;obtain⟨id,kt,vt,m,rfl,Ph,zp,_,_,h⟩:=ZX h;obtain⟨hlen,h⟩:=qB h;obtain⟨K,E,qu,_,_⟩:=HT _ _ _ Ph;obtain⟨ex,_⟩:=qD zj hx;obtain⟨es,ck,hblk,zS,_,_,zF,_⟩:=zj.heap.z6 _ _ zp;have hv:=Zc ex zp;have hl:=zF.length;have qk:g.qp id<w.heap.size:=zj.heap.tags _ (by rw[zS];simp);refine Zf (v:=.int .i64 m.length) ?_ (jm ?_) (λm _=>by simp[z7.ids]) h
   ·intro w' wx;replace wx:=wx (by simp[isP,ho]);have e1:args=#[x]:=by apply C5.1;simpa using hargs
    have e2:ts=#[t]:=by apply C5.1;simpa using pR
    subst e1;subst e2;have jt:w'.heap[g.qp id]? = some (.map es ck):=by rw[wx _ qk];exact hblk
    have qG:es.size=m.length:=by rw[<-hl,vl]
    have hg:(getObj (g.qp id)).run P w'=.ok (.map es ck) w':=by simp[getObj,Sem.run,jt]
    simp[execOp,ho,resolve,invoke,builtin,Builtin.len_,run_underlying qu,hv,goInt,hg,qG]
   ·have:m.length<=room:=by simpa using hlen
    simp only[room]at this;simp only[IntKind.min,IntKind.max,IntKind.bits,IntKind.signed];simp;omega
  ·simp at h
 ·simp at h
theorem j4.sizeOf{T:TypeId}{t:Ty}(h:j4 P T t)(w:World):(sizeOf T).run P w=.ok t.size w:=by
 obtain⟨i,z,hi,hs,_⟩:=h.info;simp[Go.sizeOf,typeInfo,hi,hs]
theorem run_indexAt_slice{T E:TypeId}{t:Ty}(hT:P.underlying T=some (.slice E))(hE:j4 P E t)(b off len cap:Nat)(ki:IntKind)(i:Int)(h0:0<=i)(h1:i<len)(w:World):
  (Instr.indexAt T (.slice (some ⟨b,off,none⟩) len cap) (.int ki i)).run P w=.ok (.pointer (some ⟨b,off+i.toNat*t.size,none⟩)) w:=by
 have hs:=hE.sizeOf w;simp[Instr.indexAt,asIntOf,run_underlying hT,h0,h1,hs,Addr.add_lit]
theorem uy{T E:TypeId}{t:Ty}{n:Nat}(hT:P.underlying T=some (.array n E))(hE:j4 P E t)(b off:Nat)(ki:IntKind)(i:Int)(h0:0<=i)(h1:i<n)(w:World):
  (Instr.indexAt T (.pointer (some ⟨b,off,none⟩)) (.int ki i)).run P w=.ok (.pointer (some ⟨b,off+i.toNat*t.size,none⟩)) w:=by
 have hs:=hE.sizeOf w;simp[Instr.indexAt,Instr.sureAddr,asIntOf,run_underlying hT,h0,h1,hs,Addr.add_lit]
theorem K0{I:Type}{l:List I}{i:Int}(h:jY l i=true):0<=i/\i<(l.length:Int):=by
 simpa[jY]using h
theorem Bc{t:TypeId}{x i:Operand}{id:Nat}{p:Path}{ep:Nat}{ow':Bool}{u':Ty}{j:Int}{ki:IntKind}(hT:qv P (.sl ow' u') t)(ho:o.op=.indexAddr t x i)(zj:zU c.ntmps g w a J)
  (hx:ev J x=some (.nv false id p ep)) (vi:a.eval i=.int ki j) (ef:∀m,zJ g J m->m∉(z7.nv false id p ep).ids) (ex:zm w g J.z6 (.nv false id p ep) (a.eval x))
  (h:(Xl J id p ep λt l=>cond (t.sk.same u'.sk) (zo (jY l j) (J.qo c o.dst (.nv true id (p++[.idx j]) (U7 J id)) k)) none)=some r):wk P o a w g J c k r:=by
 simp only[qv]at hT;obtain⟨⟨E,qu,hE⟩,_⟩:=hT;obtain⟨t0,l0,e0,i0,t',l,zp,Br,zF,h,hq,xx,p8⟩:=U5 zj.heap h
 cases hs:t'.sk.same u'.sk with
 |false=>rw[hs]at h;simp at h
 |true=>
  rw[hs]at h;have ko:=Sk.qQ hs;have qG:u'.size=t'.size:=by rw[<-Ty.zW,<-Ty.zW,ko]
  simp only[zB]at h;obtain⟨xX,h⟩:=qB h;obtain⟨h0,qk⟩:=K0 xX;simp only[zm]at ex;obtain⟨cs,⟨v,rfl,qc,hv⟩,jl⟩:=ex;have e1:=((hv _ _ _ _ _ zp).2 Br).1 rfl;obtain⟨ad,cp,_,yZ,h1,h2,h3⟩:=zF;rcases h3 with⟨_,hl,_⟩|⟨bk,off,cc,e,rfl,zS,zZ,Pa,ja⟩
  ·rw[hl]at qk;simp at qk;omega
  ·have ud:a.eval x=.slice (some ⟨bk,off,none⟩) l.length cp:=by rw[<-yZ,<-e1];exact jl
   refine Zf (v:=.pointer (some ⟨bk,off+j.toNat*t'.size,none⟩)) ?_ ?_ (λm hm=>by have:=ef m hm;simpa[z7.ids]using this) h
   ·intro w' _;simp[execOp,ho,ud,vi,run_indexAt_slice qu hE.info bk off _ cp ki j h0 qk w',qG]
   ·simp only[zm];refine⟨_,⟨_,rfl,rfl,λt1 l1 e1 i1 h1 yF=>?_⟩,rfl⟩;rw[zp]at yF;simp only[zI,Obj.nest.injEq]at yF;obtain⟨rfl,_,rfl,rfl,_⟩:=yF;have xX:U7 J id=i0:=by simp[U7,zp]
    rw[xX];refine⟨yH _,λ_=>⟨λh=>(by simp at h),λ_=>⟨by simp,bk,off+j.toNat*t'.size,gV (x:=xx) hq p8 (by simpa using yZ),rfl⟩⟩⟩
theorem Bd{t:TypeId}{x i:Operand}{id:Nat}{ep:Nat}{ow':Bool}{u':Ty}{j:Int}{ki:IntKind}(hT:qv P (.sl ow' u') t)(ho:o.op=.indexAddr t x i)(zj:zU c.ntmps g w a J)
  (vi:a.eval i=.int ki j) (ef:∀m,zJ g J m->m∉(z7.nv false id [] ep).ids) (ex:zm w g J.z6 (.nv false id [] ep) (a.eval x))
  (h:(z3l J id ep u' j λv=>J.qo c o.dst v k)=some r):wk P o a w g J c k r:=by
 simp only[qv]at hT;obtain⟨⟨E,qu,hE⟩,_⟩:=hT;unfold z3l at h;split at h
 ·rename_i t' l e n hp zp
  cases hs:(Nat.beq e ep&&t'.sk.same u'.sk) with
  |false=>rw[hs]at h;simp at h
  |true=>
   rw[hs]at h;simp only[zA]at hs;have Hm:=zE hs.1;subst Hm;have ko:=Sk.qQ hs.2;have qG:u'.size=t'.size:=by rw[<-Ty.zW,<-Ty.zW,ko]
   simp only[zB]at h;obtain⟨xX,h⟩:=qB h;obtain⟨h0,qk⟩:=K0 xX;simp only[zm]at ex;obtain⟨cs,⟨v,rfl,qc,hv⟩,jl⟩:=ex;have e1:=((hv _ _ _ _ _ zp).2 rfl).1 rfl;obtain⟨⟨bk,off,cp,yZ⟩,_⟩:=zj.heap.z6 _ _ zp;have ud:a.eval x=.slice (some ⟨bk,off,none⟩) l.length cp:=by rw[<-yZ,<-e1];exact jl
   refine Zf (v:=.pointer (some ⟨bk,off+j.toNat*t'.size,none⟩)) ?_ ?_ (λm hm=>by have:=ef m hm;simpa[z7.ids]using this) h
   ·intro w' _;simp[execOp,ho,ud,vi,run_indexAt_slice qu hE.info bk off _ cp ki j h0 qk w',qG]
   ·simp only[zm];refine⟨_,⟨_,rfl,rfl,λt1 l1 e1 i1 h1 yF=>?_⟩,rfl⟩;rw[zp]at yF;simp only[zI,Obj.nest.injEq]at yF;obtain⟨rfl,_,rfl,rfl,_⟩:=yF;refine⟨yH _,λ_=>⟨λh=>(by simp at h),λ_=>⟨by simp,bk,off+j.toNat*t'.size,?_,rfl⟩⟩⟩;exact gV (p:=[]) (x:=(0,0)) rfl (by simp[place]) (by simpa using yZ)
 ·simp at h
theorem I6:{u:Ty}->{fs:List Field}->{j6 i:Nat}->vJ P u fs j6->(vA u (qI i)).isSome=true->
  ∃f s,fs[i]? = some f/\vA u (qI i)=some s/\qv P s f.type/\∃o,u.sk.off (qI i)=some (o,s.sk)/\j6+o=f.offset
 |.pair a b,f::fs,j6,0,h,hi=>by
  simp only[vJ]at h
  exact⟨f,a,rfl,by simp[qI,vA],h.2.1,0,by simp[qI,Ty.sk,Sk.off],by rw[h.1];omega⟩
 |.pair a b,f::fs,j6,i+1,h,hi=>by
  simp only[vJ]at h;simp only[qI,vA]at hi;obtain⟨f',s,h1,h2,h3,o,h4,h5⟩:=I6 h.2.2 hi;refine⟨f',s,by simpa using h1,by simpa[qI,vA]using h2,h3,a.size+o,?_,by omega⟩
  simp[qI,Ty.sk,Sk.off,h4,Ty.zW]
 |.pair _ _,[],_,_,h,_=>by simp[vJ]at h
 |.unit,_,_,i,_,hi=>by cases i<;>simp[qI,vA]at hi
 |.int _,_,_,_,h,_=>by simp[vJ]at h
 |.bool,_,_,_,h,_=>by simp[vJ]at h
 |.str,_,_,_,h,_=>by simp[vJ]at h
 |.arr _ _,_,_,_,h,_=>by simp[vJ]at h
 |.sl _ _,_,_,_,h,_=>by simp[vJ]at h
 |.ptr _,_,_,_,h,_=>by simp[vJ]at h
 |.fn _ _,_,_,_,h,_=>by simp[vJ]at h
 |.tree _,_,_,_,h,_=>by simp[vJ]at h
 |.mp _,_,_,_,h,_=>by simp[vJ]at h
theorem Rh{u:Ty}{i:Nat}(h:(vA u (qI i)).isSome=true):∃a b,u=.pair a b:=by
 cases u with
 |pair a b=>exact⟨a,b,rfl⟩
 |_=>cases i<;>simp[qI,vA]at h
theorem pL{T:TypeId}{u:Ty}{i:Nat}(hT:qv P u T)(hi:(vA u (qI i)).isSome=true)(b off:Nat):
  ∃o s,u.sk.off (qI i)=some (o,s)/\∀w,(Instr.fieldAt T (.pointer (some ⟨b,off,none⟩)) i).run P w=.ok (.pointer (some ⟨b,off+o,none⟩)) w:=by
 obtain⟨x,y,rfl⟩:=Rh hi;simp only[qv]at hT;obtain⟨⟨fs,qu,EV⟩,_⟩:=hT;obtain⟨f,s,h1,h2,h3,o,h4,h5⟩:=I6 EV hi;refine⟨o,s.sk,h4,λw=>?_⟩;have hf:fs[i]? = some f:=by rw[<-Z25];exact h1
 obtain⟨inf,z,Qe,QC,_,_,_,Bo⟩:=h3.info.info;have vg:¬inf.size=0:=by omega
 have ho:f.offset=o:=by omega
 simp[Instr.fieldAt,Instr.sureAddr,run_underlying qu,hf,fieldPlace,Go.sizeOf,typeInfo,Qe,vg,Addr.add_lit,ho]
theorem JM:{t:Ty}->{d:t.den}->{p:Path}->{f:(u:Ty)->u.den->Option R}->t.zG=true->zb t d p f=some r->(vA t p).isSome=true
 |t,d,[],f,_,_=>by simp[vA]
 |.pair a b,(x,y),.fst::p,f,ht,h=>by simp only[zb]at h;simp only[Ty.zG,zA]at ht;simp only[vA];exact JM ht.1 h
 |.pair a b,(x,y),.snd::p,f,ht,h=>by simp only[zb]at h;simp only[Ty.zG,zA]at ht;simp only[vA];exact JM ht.2 h
 |.arr n t,l,.idx i::p,f,ht,h=>by
  simp only[zb,WZ]at h;obtain⟨x,_,h⟩:=h
  simp only[vA];exact JM (by simpa[Ty.zG]using ht) h
 |.sl true t,l,.idx i::p,_,ht,h=>by simp[Ty.zG]at ht
 |.sl false t,l,s::p,_,_,h=>by cases s<;>simp[zb]at h
 |.sl true t,l,.fst::p,_,_,h=>by simp[zb]at h
 |.sl true t,l,.snd::p,_,_,h=>by simp[zb]at h
 |.int _,_,s::_,_,_,h=>by cases s<;>simp[zb]at h
 |.bool,_,s::_,_,_,h=>by cases s<;>simp[zb]at h
 |.str,_,s::_,_,_,h=>by cases s<;>simp[zb]at h
 |.unit,_,s::_,_,_,h=>by cases s<;>simp[zb]at h
 |.ptr _,_,s::_,_,_,h=>by cases s<;>simp[zb]at h
 |.fn _ _,_,s::_,_,_,h=>by cases s<;>simp[zb]at h
 |.tree _,_,s::_,_,_,h=>by cases s<;>simp[zb]at h
 |.mp _,_,s::_,_,_,h=>by cases s<;>simp[zb]at h
 |.pair _ _,_,.idx _::_,_,_,h=>by simp[zb]at h
 |.arr _ _,_,.fst::_,_,_,h=>by simp[zb]at h
 |.arr _ _,_,.snd::_,_,_,h=>by simp[zb]at h
theorem Zi:{t u:Ty}->{p:Path}->t.sk=u.sk->(vA t p).isSome=true->(vA u p).isSome=true
 |_,_,[],_,_=>by simp[vA]
 |.pair a b,.pair c d,.fst::p,hs,h=>by simp only[Ty.sk,Sk.pair.injEq]at hs;simp only[vA]at h⊢;exact Zi hs.1 h
 |.pair a b,.pair c d,.snd::p,hs,h=>by simp only[Ty.sk,Sk.pair.injEq]at hs;simp only[vA]at h⊢;exact Zi hs.2 h
 |.arr n t,.arr m u,.idx i::p,hs,h=>by simp only[Ty.sk,Sk.arr.injEq]at hs;simp only[vA]at h⊢;exact Zi hs.2 h
 |.pair a b,u,.fst::p,hs,h=>by cases u<;>simp[Ty.sk]at hs;simp only[vA]at h⊢;exact Zi hs.1 h
 |.pair a b,u,.snd::p,hs,h=>by cases u<;>simp[Ty.sk]at hs;simp only[vA]at h⊢;exact Zi hs.2 h
 |.arr n t,u,.idx i::p,hs,h=>by cases u<;>simp[Ty.sk]at hs;simp only[vA]at h⊢;exact Zi hs.2 h
 |.int _,_,s::_,_,h=>by cases s<;>simp[vA]at h
 |.bool,_,s::_,_,h=>by cases s<;>simp[vA]at h
 |.str,_,s::_,_,h=>by cases s<;>simp[vA]at h
 |.unit,_,s::_,_,h=>by cases s<;>simp[vA]at h
 |.ptr _,_,s::_,_,h=>by cases s<;>simp[vA]at h
 |.fn _ _,_,s::_,_,h=>by cases s<;>simp[vA]at h
 |.tree _,_,s::_,_,h=>by cases s<;>simp[vA]at h
 |.mp _,_,s::_,_,h=>by cases s<;>simp[vA]at h
 |.sl _ _,_,s::_,_,h=>by cases s<;>simp[vA]at h
 |.pair _ _,_,.idx _::_,_,h=>by simp[vA]at h
 |.arr _ _,_,.fst::_,_,h=>by simp[vA]at h
 |.arr _ _,_,.snd::_,_,h=>by simp[vA]at h
theorem xV{id:Nat}{p:Path}{ep:Nat}{f:(u:Ty)->u.den->Option R}(h:pE J id p ep f=some r):∃t l,J.z6 id=some (.row t l ep):=by
 unfold pE at h;split at h
 ·rename_i t l e ho
  cases hb:Nat.beq e ep with
  |false=>rw[hb]at h;simp at h
  |true=>exact⟨t,l,by rw[ho,zE hb]⟩
 ·simp at h
theorem vq{id:Nat}:{t:Ty}->{pre:Path}->{b off:Nat}->{p q:Path}->{b' VF o:Nat}->{s s':Sk}->
  place g id t pre b off p=some (b',VF)->Jt t p=some s->s.off q=some (o,s')->place g id t pre b off (p++q)=some (b',VF+o)
 |t,pre,b,off,[],q,b',VF,o,s,s',h,hs,hq=>by
  simp only[place,zI,pv]at h;obtain⟨rfl,rfl⟩:=h;simp only[Jt,zI]at hs;subst hs
  exact pY hq
 |.pair a c,pre,b,off,.fst::p,q,b',VF,o,s,s',h,hs,hq=>by
  simp only[place,QI,Jt]at h hs⊢;exact vq h hs hq
 |.pair a c,pre,b,off,.snd::p,q,b',VF,o,s,s',h,hs,hq=>by
  simp only[place,QI,Jt]at h hs⊢;exact vq h hs hq
 |.arr n t,pre,b,off,.idx i::p,q,b',VF,o,s,s',h,hs,hq=>by
  simp only[place,QI,Jt]at h hs⊢;exact vq h hs hq
 |.sl true t,pre,b,off,.idx i::p,q,b',VF,o,s,s',h,hs,hq=>by
  simp only[place,QI,Jt]at h hs⊢;split at h
  ·exact vq h hs hq
  ·simp at h
 |.sl false t,_,_,_,s::_,_,_,_,_,_,_,h,_,_=>by cases s<;>simp[place]at h
 |.sl true t,_,_,_,.fst::_,_,_,_,_,_,_,h,_,_=>by simp[place]at h
 |.sl true t,_,_,_,.snd::_,_,_,_,_,_,_,h,_,_=>by simp[place]at h
 |.int _,_,_,_,s::_,_,_,_,_,_,_,h,_,_=>by cases s<;>simp[place]at h
 |.bool,_,_,_,s::_,_,_,_,_,_,_,h,_,_=>by cases s<;>simp[place]at h
 |.str,_,_,_,s::_,_,_,_,_,_,_,h,_,_=>by cases s<;>simp[place]at h
 |.unit,_,_,_,s::_,_,_,_,_,_,_,h,_,_=>by cases s<;>simp[place]at h
 |.ptr _,_,_,_,s::_,_,_,_,_,_,_,h,_,_=>by cases s<;>simp[place]at h
 |.fn _ _,_,_,_,s::_,_,_,_,_,_,_,h,_,_=>by cases s<;>simp[place]at h
 |.tree _,_,_,_,s::_,_,_,_,_,_,_,h,_,_=>by cases s<;>simp[place]at h
 |.mp _,_,_,_,s::_,_,_,_,_,_,_,h,_,_=>by cases s<;>simp[place]at h
 |.pair _ _,_,_,_,.idx _::_,_,_,_,_,_,_,h,_,_=>by simp[place]at h
 |.arr _ _,_,_,_,.fst::_,_,_,_,_,_,_,h,_,_=>by simp[place]at h
 |.arr _ _,_,_,_,.snd::_,_,_,_,_,_,_,h,_,_=>by simp[place]at h
end
end Go.Kz
namespace Go.Kz
variable {R:Type}
theorem Cg:(t:Ty)->(z04 t).size=t.size
 |.tree k=>(XE k).symm
 |.int _ |.bool |.str |.unit |.pair _ _ |.arr _ _ |.sl _ _ |.ptr _ |.fn _ _ |.mp _=>rfl
theorem z05:(t:Ty)->(d:t.den)->(z9p t d).ids=[]
 |.tree _,_ |.int _,_ |.bool,_ |.str,_ |.unit,_ |.pair _ _,_ |.arr _ _,_ |.sl _ _,_ |.ptr _,_ |.fn _ _,_ |.mp _,_=>rfl
theorem z9o{w:World}{g:z8}{ob:qZ}{v:Value}:{t:Ty}->{d:t.den}->zm w g ob (.data (.ptr t) d) v->zm w g ob (z9p t d) v
 |.tree k,x,h=>by
  simp only[zm]at h;simp only[z9p,zm];obtain⟨cs,⟨qY,b,off,c,e,fz,rfl,ht,hb,hs,hr⟩,hv⟩:=h;have hz:(Ty.tree k).size=(Ty.pair (uE k) (uD k)).size:=XE k;rw[hz]at hs hr
  exact⟨_,⟨z19 k,b,off,c,e,fz,rfl,ht,hb,hs,zN.WG.1 hr⟩,hv⟩
 |.int _,_,h |.bool,_,h |.str,_,h |.unit,_,h |.pair _ _,_,h |.arr _ _,_,h |.sl _ _,_,h |.ptr _,_,h |.fn _ _,_,h |.mp _,_,h=>h
section
variable {P:Program}{o:Oper}{a:Act}{w:World}{K:Act->World->Prop}{Q:Exit->Act->World->Prop}{c:Ctx}{J:St}{g:z8}{k:St->Option R}{r:R}{base:Nat}
theorem z1h(kA:p6 P c.tt){t:TypeId}{x i:Operand}(ho:o.op=.indexAddr t x i)(zj:zU c.ntmps g w a J)(h:yE c J base o k=some r):wk P o a w g J c k r:=by
 simp only[yE,ho]at h;split at h
 ·rename_i av ki j u hx hi hu;have hT:=kA _ _ hu;obtain⟨ex,ef⟩:=qD zj hx;obtain⟨vi,_⟩:=jL (qD zj hi).1;unfold z2w at h;split at h
  ·-- read-only slice
   rename_i ow t' l ow' u';simp only[qv]at hT;obtain⟨⟨E,qu,hE⟩,_⟩:=hT
   cases hs:(z04 t').sk.same u'.sk with
   |false=>grind
   |true=>
    rw[hs]at h;have ko:=Sk.qQ hs;have qG:u'.size=t'.size:=by grind[Cg,Ty.zW]
    simp only[zB,WZ]at h;obtain⟨d,hd,h⟩:=h;obtain⟨h0,wm,rfl,qk⟩:=jr hd;simp only[zm]at ex;obtain⟨cs,⟨qY,zF⟩,hv⟩:=ex
    cases ow with
    |true=>grind[Ty.zG]
    |false=>
     obtain⟨b,cp,rfl,h1,h2,h3⟩:=zF;obtain⟨bk,off,cc,e,fz,rfl,zS,zZ,Pa,ja⟩:=h3 (by grind);have jl:a.eval x=.slice (some ⟨bk,off,none⟩) (List.length l) cp:=hv;refine Zf (v:=.pointer (some ⟨bk,off+j.toNat*t'.size,none⟩)) ?_ ?_ (λm _=>by simp[z05]) h
     ·intro w' _;simp[execOp,ho,jl,vi,run_indexAt_slice qu hE.info bk off _ cp ki j h0 qk w',qG]
     ·refine z9o ?_;simp only[zm];refine⟨_,⟨by grind[Ty.zG],bk,off+j.toNat*t'.size,cc,e,fz,rfl,zS,zZ,?_,ja _ wm⟩,rfl⟩;have:(j.toNat+1)*t'.size<=List.length l*t'.size:=kn _ wm
      grind
  ·-- pointer to a read-only array
   rename_i n t' l m u';simp only[qv]at hT;obtain⟨⟨E,qu,hE⟩,_⟩:=hT
   cases hs:(Nat.beq n m&&t'.sk.same u'.sk) with
   |false=>grind
   |true=>
    rw[hs]at h;simp only[zA]at hs;have Zq:n=m:=zE hs.1;subst Zq;have ko:=Sk.qQ hs.2;have qG:u'.size=t'.size:=by grind[Ty.zW]
    simp only[zB,WZ]at h;obtain⟨d,hd,h⟩:=h;rw[zb9]at hd;obtain⟨h0,wm,rfl,qk⟩:=jr hd;simp only[zm]at ex;obtain⟨cs,⟨qY,bk,off,cc,e,fz,rfl,zS,zZ,Pa,hl,uk,ja⟩,hv⟩:=ex;have jl:a.eval x=.pointer (some ⟨bk,off,none⟩):=hv;have VQ:j.toNat<n:=by omega
    have hmul:(j.toNat+1)*t'.size<=n*t'.size:=kn _ VQ;rw[kq]at hmul;simp only[Ty.size]at Pa;refine Zf (v:=.pointer (some ⟨bk,off+j.toNat*t'.size,none⟩)) ?_ ?_ (λm _=>by simp[z7.ids]) h
    ·intro w' _;simp[execOp,ho,jl,vi,uy qu hE.info bk off ki j h0 (by omega) w',qG]
    ·simp only[zm];refine⟨_,⟨by grind[Ty.zG],bk,off+j.toNat*t'.size,cc,e,fz,rfl,zS,zZ,by omega,?_⟩,rfl⟩;have:=ja _ wm;simp only[Ty.size]at this;rw[pP _ _ _ _ _ (by omega)]at this;exact this
  ·-- a row of zn5 own
   rename_i id p ep ow' u';simp only[qv]at hT;obtain⟨⟨E,qu,hE⟩,_⟩:=hT;obtain⟨t',l,zp,rfl,qY,h⟩:=kV zj.heap h
   cases hs:t'.sk.same u'.sk with
   |false=>grind
   |true=>
    rw[hs]at h;have ko:=Sk.qQ hs;have qG:u'.size=t'.size:=by grind[Ty.zW]
    simp only[zB]at h;obtain⟨xX,h⟩:=qB h;obtain⟨h0,qk⟩:=K0 xX;simp only[zm]at ex;obtain⟨cs,⟨v,rfl,qc,hv⟩,jl⟩:=ex;have e1:=(hv _ _ _ zp).2 rfl;obtain⟨ad,cp,_,yZ,h1,h2,h3⟩:=(zj.heap.z6 _ _ zp).2;rcases h3 with⟨_,hl,_⟩|⟨bk,off,cc,e,rfl,zS,zZ,Pa,ja⟩
    ·omega
    ·have ud:a.eval x=.slice (some ⟨bk,off,none⟩) l.length cp:=by rw[<-yZ,<-e1];exact jl
     refine Zf (v:=.pointer (some ⟨bk,off+j.toNat*t'.size,none⟩)) ?_ ?_ (λm hm=>by grind[z7.ids]) h
     ·intro w' _;simp[execOp,ho,ud,vi,run_indexAt_slice qu hE.info bk off _ cp ki j h0 qk w',qG]
     ·simp only[zm];refine⟨_,⟨_,rfl,rfl,λt1 l1 e1 yF=>?_⟩,rfl⟩
      grind[place]
  ·-- a part of a row of zn5 own
   rename_i id p ep av bv ow' u';simp only[qv]at hT;obtain⟨⟨E,qu,hE⟩,_⟩:=hT;obtain⟨t',l,zp,rfl,qY,h⟩:=kV zj.heap h
   cases hs:t'.sk.same u'.sk with
   |false=>grind
   |true=>
    rw[hs]at h;have ko:=Sk.qQ hs;have qG:u'.size=t'.size:=by grind[Ty.zW]
    simp only[zB]at h;obtain⟨xX,h⟩:=qB h;simp only[zA,ve]at xX;obtain⟨h0,qk⟩:=xX;simp only[zm]at ex;obtain⟨cs,⟨v,rfl,qc,hv⟩,jl⟩:=ex;obtain⟨_,ha0,uN,Vs,e1⟩:=(hv _ _ _ zp).2 rfl;obtain⟨ad,cp,_,yZ,h1,h2,h3⟩:=(zj.heap.z6 _ _ zp).2;rcases h3 with⟨_,hl,_⟩|⟨bk,off,cc,e,rfl,zS,zZ,Pa,ja⟩
    ·omega
    ·have ud:a.eval x=.slice (some ⟨bk,off+av.toNat*t'.size,none⟩) (bv-av).toNat (cp-av.toNat):=by
      rw[jl];show v=_
      grind[jC,Addr.add_lit]
     refine Zf (v:=.pointer (some ⟨bk,off+(av+j).toNat*t'.size,none⟩)) ?_ ?_ (λm hm=>by grind[z7.ids]) h
     ·intro w' _;have zzo:∀x:Int,x<bv-av->x<(((bv-av).toNat:Nat):Int):=λx hx=>by omega
      have hj3:=zzo j qk;have e3:off+av.toNat*t'.size+j.toNat*t'.size=off+(av+j).toNat*t'.size:=by
       have:(av+j).toNat=av.toNat+j.toNat:=by omega
       grind
      simp[execOp,ho,ud,vi,run_indexAt_slice qu hE.info bk _ _ (cp-av.toNat) ki j h0 hj3 w',qG,e3]
     ·simp only[zm];refine⟨_,⟨_,rfl,rfl,λt1 l1 e1 yF=>?_⟩,rfl⟩
      grind[place]
  ·-- a row of rows,or one of its rows: see below
   grind[noP,Bc,Bd]
  ·-- an array zmj is a variable
   rename_i id p m u';simp only[qv]at hT;obtain⟨⟨E,qu,hE⟩,_⟩:=hT;obtain⟨xc,x',off,cc,e,zp,h2,jO,zZ,zS,hle,YS,zqc⟩:=Zb zj.heap h;split at h2
   ·rename_i n t' l
    cases hs:(Nat.beq n m&&t'.sk.same u'.sk) with
    |false=>grind
    |true=>
     rw[hs]at h2;simp only[zA]at hs;have Zq:n=m:=zE hs.1;subst Zq;have ko:=Sk.qQ hs.2;have qG:u'.size=t'.size:=by grind[Ty.zW]
     simp only[zB]at h2;obtain⟨xX,h2⟩:=qB h2;obtain⟨h0,qk⟩:=K0 xX;have D2:List.length l=n:=YS.2.1;simp only[zm]at ex;obtain⟨cs,⟨v,rfl,qc,hv⟩,jl⟩:=ex;obtain⟨VF,s,kJ,gi⟩:=hv _ zp;rw[jO]at kJ;simp only[zI,pv]at kJ;obtain⟨rfl,_⟩:=kJ;have ud:a.eval x=.pointer (some ⟨g.qp id,off,none⟩):=by rw[jl];exact gi
     refine Zf (v:=.pointer (some ⟨g.qp id,off+j.toNat*t'.size,none⟩)) ?_ ?_ (λm hm=>by grind[z7.ids]) h2
     ·intro w' _;simp[execOp,ho,ud,vi,uy qu hE.info (g.qp id) off ki j h0 (by omega) w',qG]
     ·simp only[zm];refine⟨_,⟨_,rfl,rfl,λx1 yF=>?_⟩,rfl⟩;rw[zp]at yF;simp only[zI,Obj.cell.injEq]at yF;subst yF;rw[Sk.xj _ jO]
      grind[z7.sk,Ty.sk,Sk.off,Ty.zW]
   grind
  ·-- an array zmj is an element of a row
   rename_i id p ep m u';simp only[qv]at hT;obtain⟨⟨E,qu,hE⟩,_⟩:=hT;split at h
   ·simp at h
   ·rename_i s q;obtain⟨t0,l0,FP⟩:=xV h;simp only[zm]at ex;obtain⟨cs,⟨v,rfl,qc,hv⟩,jl⟩:=ex;obtain⟨hp,b0,j6,p8,gi⟩:=(hv _ _ _ FP).2 rfl;obtain⟨t1,l1,u1,e1,b,off,cc,ee,Cs,qY,hk,FV,ka,wu,zS,zZ,qG,zF⟩:=ue zj.heap hp h;rw[FP]at Cs;simp only[zI,Obj.row.injEq]at Cs;obtain⟨rfl,_,_⟩:=Cs;rw[p8]at ka;simp only[zI,pv]at ka;obtain⟨rfl,rfl⟩:=ka;split at hk
    ·rename_i n t' l
     cases hs:(Nat.beq n m&&t'.sk.same u'.sk) with
     |false=>grind
     |true=>
      rw[hs]at hk;simp only[zA]at hs;have Zq:n=m:=zE hs.1;subst Zq;have ko:=Sk.qQ hs.2;have xu:u'.size=t'.size:=by grind[Ty.zW]
      simp only[zB]at hk;obtain⟨xX,hk⟩:=qB hk;obtain⟨h0,qk⟩:=K0 xX;have D2:List.length l=n:=zF.1;have ud:a.eval x=.pointer (some ⟨b0,j6,none⟩):=by rw[jl];exact gi
      refine Zf (v:=.pointer (some ⟨b0,j6+j.toNat*t'.size,none⟩)) ?_ ?_ (λm hm=>by grind[z7.ids]) hk
      ·intro w' _;simp[execOp,ho,ud,vi,uy qu hE.info b0 j6 ki j h0 (by omega) w',xu]
      ·simp only[zm];refine⟨_,⟨_,rfl,rfl,λt2 l2 e2 yF=>?_⟩,rfl⟩;rw[FP]at yF;simp only[zI,Obj.row.injEq]at yF;obtain⟨rfl,_,rfl⟩:=yF;refine⟨yH _,λ_=>⟨by simp,b0,j6+j.toNat*t'.size,?_,rfl⟩⟩;refine vq (s':=t'.sk) p8 wu ?_
       grind[Ty.sk,Sk.off,Ty.zW]
    grind
  grind
 grind
theorem z1i(kA:p6 P c.tt){t:TypeId}{x:Operand}{i:Nat}(ho:o.op=.fieldAddr t x i)(zj:zU c.ntmps g w a J)(h:yE c J base o k=some r):wk P o a w g J c k r:=by
 simp only[yE,ho]at h;split at h
 ·rename_i av u hx hu;have hT:=kA _ _ hu;obtain⟨ex,ef⟩:=qD zj hx;unfold z4t at h;split at h
  ·rename_i t' d
   cases hs:t'.sk.same u.sk with
   |false=>grind
   |true=>
    rw[hs]at h;simp only[zB]at h;have ko:=Sk.qQ hs;simp only[zm]at ex;obtain⟨cs,⟨qY,b,off,cc,e,fz,rfl,zS,zZ,qG,zF⟩,hv⟩:=ex;have jl:a.eval x=.pointer (some ⟨b,off,none⟩):=hv;have pV:t'.zG=true:=by grind[Ty.zG]
    have wu:=Zi ko (JM pV h);obtain⟨u2,e2,o2,hk,hu2,Cr,Bm⟩:=ZH pV zF h;obtain⟨o3,s3,ho3,ze⟩:=pL hT wu b off;rw[<-ko,Cr]at ho3;simp only[zI,pv]at ho3;obtain⟨rfl,_⟩:=ho3;have hle:=Sk.kZ Cr;rw[Ty.zW,Ty.zW]at hle;refine Zf (v:=.pointer (some ⟨b,off+o2,none⟩)) ?_ ?_ (λm _=>by simp[z7.ids]) hk
    ·intro w' _;simp[execOp,ho,jl,ze]
    ·simp only[zm];refine⟨_,⟨by grind[Ty.zG],b,off+o2,cc,e,fz,rfl,zS,zZ,by omega,?_⟩,rfl⟩
     grind[pP]
  ·rename_i id p;obtain⟨xc,x',off,cc,e,zp,h2,jO,zZ,zS,hle,YS,zqc⟩:=Zb zj.heap h
   cases hs:(x'.sk.same u.sk&&(vA u (qI i)).isSome) with
   |false=>grind
   |true=>
    rw[hs]at h2;simp only[zB]at h2;simp only[zA]at hs;have ko:=Sk.qQ hs.1;simp only[zm]at ex;obtain⟨cs,⟨v,rfl,qc,hv⟩,jl⟩:=ex;obtain⟨VF,s,kJ,gi⟩:=hv _ zp;rw[jO]at kJ;simp only[zI,pv]at kJ;obtain⟨rfl,_⟩:=kJ;have ud:a.eval x=.pointer (some ⟨g.qp id,off,none⟩):=by rw[jl];exact gi
    obtain⟨o3,s3,ho3,ze⟩:=pL hT hs.2 (g.qp id) off;refine Zf (v:=.pointer (some ⟨g.qp id,off+o3,none⟩)) ?_ ?_ (λm hm=>by grind[z7.ids]) h2
    ·intro w' _;simp[execOp,ho,ud,ze]
    ·simp only[zm];refine⟨_,⟨_,rfl,rfl,λx1 yF=>?_⟩,rfl⟩
     grind[Sk.xj]
  ·rename_i id p ep;split at h
   ·simp at h
   ·rename_i s q;obtain⟨t0,l0,FP⟩:=xV h;simp only[zm]at ex;obtain⟨cs,⟨v,rfl,qc,hv⟩,jl⟩:=ex;obtain⟨hp,b0,j6,p8,gi⟩:=(hv _ _ _ FP).2 rfl;obtain⟨t1,l1,u1,e1,b,off,cc,ee,Cs,qY,hk,FV,ka,wu,zS,zZ,qG,zF⟩:=ue zj.heap hp h;rw[FP]at Cs;simp only[zI,Obj.row.injEq]at Cs;obtain⟨rfl,_,_⟩:=Cs;rw[p8]at ka;simp only[zI,pv]at ka;obtain⟨rfl,rfl⟩:=ka
    cases hs:(u1.sk.same u.sk&&(vA u (qI i)).isSome) with
    |false=>grind
    |true=>
     rw[hs]at hk;simp only[zB]at hk;simp only[zA]at hs;have ko:=Sk.qQ hs.1;have ud:a.eval x=.pointer (some ⟨b0,j6,none⟩):=by rw[jl];exact gi
     obtain⟨o3,s3,ho3,ze⟩:=pL hT hs.2 b0 j6;refine Zf (v:=.pointer (some ⟨b0,j6+o3,none⟩)) ?_ ?_ (λm hm=>by grind[z7.ids]) hk
     ·intro w' _;simp[execOp,ho,ud,ze]
     ·simp only[zm];refine⟨_,⟨_,rfl,rfl,λt2 l2 e2 yF=>?_⟩,rfl⟩
      grind[vq]
  ·-- an element of a row of rows
   rename_i id p ep
   cases hho:z3k J id with
   |true=>
    rw[hho]at h;simp only[zB]at h;unfold zfa at h;split at h
    ·rename_i j t1 l1 e1 i1 q4n zp;have hb:=(Wz h).1;replace h:=(Wz h).2;simp only[zA]at hb;have Qe:=zE hb.1.1;subst Qe;have ko:=Sk.qQ hb.1.2;simp only[zm]at ex;obtain⟨cs,⟨v,rfl,qc,hv⟩,jl⟩:=ex;obtain⟨hp,b0,j6,p8,gi⟩:=((hv _ _ _ _ _ zp).2 rfl).2 rfl;have ud:a.eval x=.pointer (some ⟨b0,j6,none⟩):=by rw[jl];exact gi
     obtain⟨o3,s3,ho3,ze⟩:=pL hT hb.2 b0 j6;refine Zf (v:=.pointer (some ⟨b0,j6+o3,none⟩)) ?_ ?_ (λm hm=>by grind[z7.ids]) h
     ·intro w' _;simp[execOp,ho,ud,ze]
     ·simp only[zm];refine⟨_,⟨_,rfl,rfl,λt2 l2 e2 i2 h2 yF=>?_⟩,rfl⟩;rw[zp]at yF;simp only[zI,Obj.nest.injEq]at yF;obtain⟨rfl,_,rfl,rfl,_⟩:=yF;refine⟨yH _,λ_=>⟨λh=>(by simp at h),λ_=>⟨by simp,b0,j6+o3,?_,rfl⟩⟩⟩;have wu:Jt (.sl true t1) [.idx j]=some t1.sk:=by simp[Jt]
      grind[vq]
    grind
   |false=>
   rw[hho]at h;simp only[zP]at h;obtain⟨t1,l1,e1,i1,zp,Br,zF,hk⟩:=ZG zj.heap h;simp only[zm]at ex;obtain⟨cs,⟨v,rfl,qc,hv⟩,jl⟩:=ex;obtain⟨hp,b0,j6,p8,gi⟩:=((hv _ _ _ _ _ zp).2 Br).2 rfl
   cases p with
   |nil=>grind
   |cons s q=>
    obtain⟨u1,x1,bh,oh,ch,eh,ph,hk,ka,wu,_,zS,zZ,qG,hr⟩:=pM zF hk
    cases hs:(u1.sk.same u.sk&&(vA u (qI i)).isSome) with
    |false=>grind
    |true=>
     rw[hs]at hk;simp only[zB]at hk;simp only[zA]at hs;have ko:=Sk.qQ hs.1;have ud:a.eval x=.pointer (some ⟨b0,j6,none⟩):=by rw[jl];exact gi
     obtain⟨o3,s3,ho3,ze⟩:=pL hT hs.2 b0 j6;refine Zf (v:=.pointer (some ⟨b0,j6+o3,none⟩)) ?_ ?_ (λm hm=>by grind[z7.ids]) hk
     ·intro w' _;simp[execOp,ho,ud,ze]
     ·simp only[zm];refine⟨_,⟨_,rfl,rfl,λt2 l2 e2 i2 h2 yF=>?_⟩,rfl⟩;rw[zp]at yF;simp only[zI,Obj.nest.injEq]at yF;obtain⟨rfl,_,rfl,rfl,_⟩:=yF;have Qe:i1=ep:=Br;refine⟨Z2i Qe.symm,λ_=>⟨λh=>(by simp at h),λ_=>⟨by simp,b0,j6+o3,?_,rfl⟩⟩⟩
      grind[vq]
  grind
 grind
theorem CX{T:TypeId}{u:Ty}(hT:qv P u T)(w:World):(isAgg T).run P w=.ok u.sk.isAgg w:=by
 unfold isAgg;rw[Sem.run_bind]
 cases u with
 |int _=>simp only[qv]at hT;rw[run_underlying hT.1];rfl
 |bool=>simp only[qv]at hT;rw[run_underlying hT.1];rfl
 |str=>simp only[qv]at hT;rw[run_underlying hT.1];rfl
 |unit=>grind[qv]
 |pair x y=>simp only[qv]at hT;obtain⟨⟨fs,h,_⟩,_⟩:=hT;rw[run_underlying h];rfl
 |arr n t=>simp only[qv]at hT;obtain⟨⟨E,h,_⟩,_⟩:=hT;rw[run_underlying h];rfl
 |sl _ t=>simp only[qv]at hT;obtain⟨⟨E,h,_⟩,_⟩:=hT;rw[run_underlying h];rfl
 |ptr _=>simp only[qv]at hT;obtain⟨⟨E,h⟩,_⟩:=hT;rw[run_underlying h];rfl
 |fn _ _=>simp only[qv]at hT;obtain⟨⟨x,y,z,h⟩|⟨x,y,h⟩,_⟩:=hT<;>rw[run_underlying h]<;>rfl
 |tree _=>simp only[qv]at hT;obtain⟨⟨_,_,fs,h⟩,_⟩:=hT;rw[run_underlying h];rfl
 |mp _=>simp only[qv]at hT;obtain⟨⟨x,y,h⟩,_⟩:=hT;rw[run_underlying h];rfl
theorem qv.zn0{T:TypeId}{u:Ty}(hT:qv P u T)(h:u.sk.isAgg=false):u.size=1:=by
 cases u<;>simp[Ty.sk,Sk.isAgg]at h<;>simp[Ty.size]
theorem Pk{T:TypeId}{u:Ty}(hT:qv P u T){b off:Nat}{cc:Array Value}{e:TypeId}{fz:Nat×Nat}(hc:w.heap[b]? = some (.cells cc e fz))(hs:off+u.size<=cc.size):
  (loadVar T ⟨b,off,none⟩).run P w=.ok (jh u.sk.isAgg (qS cc.toList off u.size)) w:=by
 have wx:=CX hT w;have hlen:(qS cc.toList off u.size).length=u.size:=yS (by omega);unfold loadVar;rw[Sem.run_bind,wx]
 cases hu:u.sk.isAgg with
 |true=>
  have hl:=run_loadCells_list (P:=P) w ⟨b,off,none⟩ (qS cc.toList off u.size) (λj v hv=>by
   grind[Addr.add_lit,cell_of_row,qS])
  rw[hlen]at hl;have qG:=hT.info.sizeOf w
  simp[hl,qG,jh]
 |false=>
  have h1:=hT.zn0 hu;rw[h1]at hs;have zZ:w.cell? ⟨b,off,none⟩=some cc[off]:=by
   rw[cell_of_row w b off cc e fz hc];grind
  have zbh:qS cc.toList off u.size=[cc[off]]:=by
   grind[qS,List.drop_eq_getElem_cons]
  simp_all[jh]
theorem wI{av:z7}(h:av.val=true):av.isAgg=av.sk.isAgg/\(∀x y,av≠.pr x y)/\av≠.un/\∀x,av≠.jS x:=by
 cases av with
 |agg x=>cases x<;>simp[z7.val]at h<;>simp[z7.isAgg,z7.sk,Sk.isAgg]
 |data t d=>simp[z7.isAgg,z7.sk]
 |pr=>simp[z7.val]at h
 |un=>simp[z7.val]at h
 |jS=>simp[z7.val]at h
 |_=>simp[z7.isAgg,z7.sk,Sk.isAgg]
theorem z2i{n:Nat}{av:z7}{xv:Value}{f:z7->Option R}(zj:zU n g w a J)(ex:zm w g J.z6 av xv)(ef:∀m,zJ g J m->m∉av.ids)(h:Cf J av f=some r):
  ∃lv b off cc e fz,xv=.pointer (some ⟨b,off,none⟩)/\w.heap[b]? = some (.cells cc e fz)/\off+lv.sk.size<=cc.size/\
   jM w g J.z6 lv (qS cc.toList off lv.sk.size)/\(∀m,zJ g J m->m∉lv.ids)/\f lv=some r:=by
 unfold Cf at h;split at h
 ·rename_i t' d;simp only[zm]at ex;obtain⟨cs,⟨qY,b,off,cc,e,fz,rfl,zS,zZ,qG,zF⟩,hv⟩:=ex;exact⟨.data t' d,b,off,cc,e,fz,hv,zZ,by simpa[z7.sk,Ty.zW]using qG,⟨by simpa[Ty.zG]using qY,by simpa[z7.sk,Ty.zW]using zF⟩,λm _=>by simp[z7.ids],h⟩
 ·rename_i id p ep;split at h
  ·simp at h
  ·rename_i s q;obtain⟨t0,l0,FP⟩:=xV h;simp only[zm]at ex;obtain⟨cs,⟨v,rfl,qc,hv⟩,jl⟩:=ex;obtain⟨hp,b0,j6,p8,gi⟩:=(hv _ _ _ FP).2 rfl;obtain⟨t1,l1,u1,e1,b,off,cc,ee,Cs,qY,hk,FV,ka,wu,zS,zZ,qG,zF⟩:=ue zj.heap hp h;rw[FP]at Cs;simp only[zI,Obj.row.injEq]at Cs;obtain⟨rfl,_,_⟩:=Cs;rw[p8]at ka;simp only[zI,pv]at ka;obtain⟨rfl,rfl⟩:=ka;exact⟨.data u1 e1,b0,j6,cc,ee,(0,0),by rw[jl];exact gi,zZ,by simpa[z7.sk,Ty.zW]using qG,⟨FV,by simpa[z7.sk,Ty.zW]using zF⟩,λm _=>by simp[z7.ids],hk⟩
 ·rename_i id p;obtain⟨xc,y,off,cc,e,zp,h2,jO,zZ,zS,hle,YS,hi⟩:=Zb zj.heap h;simp only[zm]at ex;obtain⟨cs,⟨v,rfl,qc,hv⟩,jl⟩:=ex;obtain⟨VF,s,kJ,gi⟩:=hv _ zp;rw[jO]at kJ;simp only[zI,pv]at kJ;obtain⟨rfl,_⟩:=kJ;exact⟨y,g.qp id,off,cc,e,(0,0),by rw[jl];exact gi,zZ,hle,YS,λm hm=>hi m (hm.cells _ _ zp),h2⟩
 ·rename_i id p ep;obtain⟨t1,l1,e1,i1,zp,Br,zF,hk⟩:=ZG zj.heap h;simp only[zm]at ex;obtain⟨cs,⟨v,rfl,qc,hv⟩,jl⟩:=ex;obtain⟨hp,b0,j6,p8,gi⟩:=((hv _ _ _ _ _ zp).2 Br).2 rfl
  cases p with
  |nil=>exact absurd rfl hp
  |cons s q=>
   obtain⟨u1,x1,bh,oh,ch,eh,ph,hk,ka,wu,_,zS,zZ,qG,hr⟩:=pM zF hk;rw[p8]at ka;simp only[zI,pv]at ka;obtain⟨rfl,rfl⟩:=ka
   cases qY:u1.zG with
   |true=>
    rw[qY]at hk
    exact⟨.data u1 x1,b0,j6,ch,eh,(0,0),by rw[jl];exact gi,zZ,by simpa[z7.sk,Ty.zW]using qG,⟨qY,by simpa[z7.sk,Ty.zW]using zN.yJ (o':=none) qY hr⟩,λm _=>by simp[z7.ids],hk⟩
   |false=>
    rw[qY]at hk;simp only[zP]at hk;split at hk
    ·rename_i v1;obtain⟨ad,cp,pe,yZ,_⟩:=hr;refine⟨.nv false id (s::q) ep,b0,j6,ch,eh,(0,0),by rw[jl];exact gi,zZ,qG,⟨_,pe,rfl,λt2 l2 e2 i2 h2 yF=>?_⟩,λm hm=>by have:=ef m hm;simpa[z7.ids]using this,hk⟩;rw[zp]at yF;simp only[zI,Obj.nest.injEq]at yF;obtain⟨rfl,_,rfl,rfl,_⟩:=yF;have Qe:i1=ep:=Br;exact⟨Z2i Qe.symm,λ_=>⟨λ_=>yZ.symm,λh=>(by simp at h)⟩⟩
    ·obtain⟨pe,hmp⟩:=hr;obtain⟨bb,yZ,_⟩:=hmp.val;refine⟨.nv false id (s::q) ep,b0,j6,ch,eh,(0,0),by rw[jl];exact gi,zZ,qG,⟨_,pe,by rw[yZ];rfl,λt2 l2 e2 i2 h2 yF=>?_⟩,λm hm=>by have:=ef m hm;simpa[z7.ids]using this,hk⟩;rw[zp]at yF;simp only[zI,Obj.nest.injEq]at yF;obtain⟨rfl,_,rfl,rfl,_⟩:=yF;have Qe:i1=ep:=Br;exact⟨Z2i Qe.symm,λ_=>⟨λ_=>rfl,λh=>(by simp at h)⟩⟩
    ·simp at hk
 ·simp at h
theorem zaf(kA:p6 P c.tt){t:TypeId}{x:Operand}(ho:o.op=.load t x)(zj:zU c.ntmps g w a J)(h:yE c J base o k=some r):wk P o a w g J c k r:=by
 simp only[yE,ho]at h;split at h
 ·rename_i av u hx hu;have hT:=kA _ _ hu;obtain⟨ex,ef⟩:=qD zj hx;have key:=z2i zj ex ef h;obtain⟨lv,b,off,cc,e,fz,hv,zZ,hle,za,vO,K3⟩:=key
  cases hb:(lv.val&&u.sk.same lv.sk) with
  |false=>rw[hb]at K3;simp at K3
  |true=>
   rw[hb]at K3;simp only[zB]at K3;simp only[zA]at hb;have ko:=Sk.qQ hb.2;obtain⟨wx,Qr,PY,EJ⟩:=wI hb.1;have qG:u.size=lv.sk.size:=by rw[<-ko,Ty.zW]
   refine Zf (v:=jh u.sk.isAgg (qS cc.toList off u.size)) ?_ ?_ vO K3
   ·intro w' QA;replace QA:=QA (by simp[isP,ho]);have ze:=Pk (P:=P) (w:=w') hT ((QA b (Z26.1 zZ).1).trans zZ) (by rw[qG];exact hle);simp[execOp,ho,hv,Instr.loadAt,Instr.sureAddr,ze]
   ·refine jz za ?_ Qr PY;rw[wx,<-ko,qG,ko]
 ·simp at h
end
end Go.Kz
namespace Go.Kz
variable {R:Type}
structure jI (g:z8) (CS:qZ) (g':z8) (wT:qZ):Prop where
 sv:g'.sv=g.sv
 qp:g'.qp=g.qp
 z6:∀i,wT i=CS i\/wT i=none
 tag:∀b,g'.tag b=g.tag b\/(g'.tag b=.ro/\∃id,CS id≠none/\wT id=none/\((∃p,g.tag b=.row id p)\/g.tag b=.box id))
theorem jI.refl(g:z8)(z6:qZ):jI g z6 g z6:=⟨rfl,rfl,λ_=>.inl rfl,λ_=>.inl rfl⟩
theorem jI.trans{g g' g'':z8}{o o' o'':qZ}(h:jI g o g' o')(k:jI g' o' g'' o''):jI g o g'' o'':=by
 refine⟨k.sv.trans h.sv,k.qp.trans h.qp,λi=>?_,λb=>?_⟩
 ·rcases k.z6 i with e|e
  ·rw[e];exact h.z6 i
  ·exact .inr e
 ·rcases k.tag b with e|⟨e,id,hs,hn,ht⟩
  ·rcases h.tag b with e2|⟨e2,id,hs,hn,ht⟩
   ·exact .inl (e.trans e2)
   ·refine .inr ⟨e.trans e2,id,hs,?_,ht⟩;rcases k.z6 id with e3|e3
    ·rw[e3];exact hn
    ·exact e3
  ·rcases h.tag b with e2|⟨e2,_,_,_,_⟩
   ·rw[e2]at ht;refine .inr ⟨e,id,λh0=>?_,hn,ht⟩;rcases h.z6 id with e3|e3
    ·rw[e3]at hs;exact hs h0
    ·exact hs e3
   ·rw[e2]at ht;rcases ht with⟨p,ht⟩|ht<;>simp at ht
theorem jI.ro{g g':z8}{o o':qZ}(h:jI g o g' o')(w:World):zT w g w g':=
 ⟨λb hb=>⟨(h.tag b).elim (λe=>by rw[e,hb]) (λe=>e.1),rfl⟩⟩
theorem jI.same{g g':z8}{o o':qZ}(h:jI g o g' o')(w:World){id:Nat}(hid:o' id≠none):xC w g w g' id:=by
 refine⟨⟨λq=>by rw[h.sv],λq b hb=>⟨?_,rfl⟩⟩,by rw[h.qp],λhb=>⟨?_,rfl⟩⟩
 ·rcases h.tag b with e|⟨_,vF,_,hn,ht⟩
  ·rw[e,hb]
  ·rw[hb]at ht;rcases ht with⟨p,ht⟩|ht
   ·simp only[Tag.row.injEq]at ht;rw[<-ht.1]at hn;exact absurd hn hid
   ·simp at ht
 ·rcases h.tag (g.qp id) with e|⟨_,vF,_,hn,ht⟩
  ·rw[e,hb]
  ·rw[hb]at ht;rcases ht with⟨p,ht⟩|ht
   ·simp at ht
   ·simp only[Tag.box.injEq]at ht;rw[<-ht]at hn;exact absurd hn hid
theorem jI.kept{w:World}{g g':z8}{o o':qZ}(h:jI g o g' o')(hh:yC w g o)(id:Nat):qq g g' id (o id) (o' id):=by
 rcases h.z6 id with e|e
 ·rw[e];by_cases hn:o' id=none
  ·left;rw[<-e];exact hn
  ·exact qq.same (h.same w hn)
 ·exact .inl e
theorem jI.heap{w:World}{g g':z8}{o o':qZ}(h:jI g o g' o')(hh:yC w g o):yC w g' o':=by
 refine⟨λid x hx=>?_,λb hb=>?_⟩
 ·have hid:o' id≠none:=by rw[hx];simp
  have Vd:o id=some x:=by
   rcases h.z6 id with e|e
   ·rw[<-e];exact hx
   ·exact absurd e hid
  exact zn.frame (h.ro w) (h.same w hid) (λa ha vF _=>h.kept hh vF) (hh.z6 id x Vd)
 ·refine hh.tags b ?_;rcases h.tag b with e|⟨_,vF,_,_,ht⟩
  ·rw[<-e];exact hb
  ·rcases ht with⟨p,ht⟩|ht<;>rw[ht]<;>simp
theorem jI.ext{w:World}{g g':z8}{o o':qZ}(h:jI g o g' o'):Ext w g w g':=by
 refine⟨rfl,rfl,rfl,yH _,yH _,λb _ ht=>⟨rfl,?_⟩⟩;rcases h.tag b with e|⟨_,vF,_,_,h2⟩
 ·exact e
 ·rcases h2 with⟨p,h2⟩|h2<;>rw[h2]at ht<;>simp at ht
theorem jI.fresh{g g':z8}{J J':St}{m:Nat}(h:jI g J.z6 g' J'.z6)(hs:J'.zk=J.zk)(hf:zJ g J m):zJ g' J' m:=by
 refine⟨?_,λb p hb=>?_,λb hb=>?_,λi av hi=>hf.zk i av (by rw[<-hs];exact hi),λid av hi=>hf.cells id av ?_⟩
 ·rcases h.z6 m with e|e
  ·rw[e];exact hf.z6
  ·exact e
 ·rcases h.tag b with e|⟨e,_⟩
  ·rw[e]at hb;exact hf.row b p hb
  ·rw[e]at hb;simp at hb
 ·rcases h.tag b with e|⟨e,_⟩
  ·rw[e]at hb;exact hf.box b hb
  ·rw[e]at hb;simp at hb
 ·rcases h.z6 id with e|e
  ·rw[<-e];exact hi
  ·rw[e]at hi;simp at hi
theorem jI.st{n:Nat}{w:World}{a:Act}{g g':z8}{J J':St}(h:jI g J.z6 g' J'.z6)(hs:J'.zk=J.zk)(zj:zU n g w a J):zU n g' w a J':=by
 refine⟨λi av hi=>?_,h.heap zj.heap,zj.size,zj.defers,zj.known.kept (h.ro w)⟩;rw[hs]at hi;obtain⟨v,hv,za⟩:=zj.zk i av hi;exact⟨v,hv,zm.frame (h.ro w) (λid _=>h.kept zj.heap id) za⟩
def pD(g:z8)(id:Nat):z8:={ g with tag:=λb=>match g.tag b with
 |.row i p=>if i=id then .ro else .row i p
 |.box i=>if i=id then .ro else .box i
 |t=>t }
theorem wj{g:z8}{J:St}(id:Nat)(hid:J.z6 id≠none):jI g J.z6 (pD g id) (J.kill id).z6:=by
 refine⟨rfl,rfl,λi=>?_,λb=>?_⟩
 ·simp only[St.kill,GJ];cases Nat.beq i id<;>simp
 ·simp only[pD]
  cases hb:g.tag b with
  |zt=>left;rfl
  |ro=>left;rfl
  |row i p=>
   by_cases hi:i=id
   ·right;simp only[hi,Ms];exact⟨trivial,id,hid,by simp[St.kill,GJ],.inl ⟨p,rfl⟩⟩
   ·left;simp[hi]
  |box i=>
   by_cases hi:i=id
   ·right;simp only[hi,Ms];exact⟨trivial,id,hid,by simp[St.kill,GJ],.inr rfl⟩
   ·left;simp[hi]
theorem JH{t:Ty}{k:t.den->Option R}{r:R}(h:z1v t k=some r):∃o u,∃e:t=.sl o u,k (e ▸ ([]:List u.den))=some r:=by
 cases t with
 |sl o u=>exact⟨o,u,rfl,h⟩
 |_=>simp[z1v]at h
theorem gQ{w:World}:(n:Nat)->{a:z7}->{u:Ty}->{J:St}->{g:z8}->{k:u.den->St->Option R}->{r:R}->{cs:List Value}->
  yC w g J.z6->jM w g J.z6 a cs->u.zG=true->jG n a u J k=some r->
  ∃d J' g',k d J'=some r/\J'.zk=J.zk/\J'.next=J.next/\jI g J.z6 g' J'.z6/\zN w g' none u d cs
 |0,_,_,_,_,_,_,_,_,_,_,h=>by simp[jG]at h
 |n+1,.data t d,u,J,g,k,r,cs,hh,za,hu,h=>by
  simp only[jG]at h;obtain⟨_,h,_,zF⟩:=vT h za.1
  exact⟨_,J,g,h,rfl,rfl,.refl _ _,zF _ _ _ za.2⟩
 |n+1,.zi,u,J,g,k,r,cs,hh,za,hu,h=>by
  simp only[jG]at h;obtain⟨o,v,rfl,h⟩:=JH h
  cases o with
  |true=>simp[Ty.zG]at hu
  |false=>
   have K4:cs=[.slice none 0 0]:=za;subst K4
   exact⟨_,J,g,h,rfl,rfl,.refl _ _,none,0,rfl,yH _,jF _,λhn=>absurd rfl hn⟩
 |n+1,.ref id p ep,u,J,g,k,r,cs,hh,za,hu,h=>by
  cases p with
  |cons s q=>simp[jG]at h
  |nil=>
   simp only[jG]at h;split at h
   ·rename_i t l e ho
    cases hb:Nat.beq e ep with
    |false=>rw[hb]at h;simp at h
    |true=>
     have he:e=ep:=zE hb;subst he;rw[hb]at h;simp only[zB]at h;obtain⟨v,rfl,_,hv⟩:=za;have yZ:=(hv _ _ _ ho).2 rfl;have zp:=hh.z6 id _ ho;split at h
     ·simp[Ty.zG]at hu
     ·rename_i v' kk;obtain⟨_,h,_,K1⟩:=vT h (Ty.gZ _);refine⟨_,J.kill id,pD g id,h,rfl,rfl,wj id (by rw[ho];simp),?_⟩;have hs:=wj (g:=g) (J:=J) id (by rw[ho];simp);have hf:=zN.freeze (hs.ro w) (o:=some (id,[])) (show Zz w g w (pD g id) id [] from⟨λq b hb=>⟨by simp only[pD,Ql]at hb⊢;rw[hb];simp,rfl⟩⟩) zp.2;rw[<-yZ]at hf;exact K1 _ _ _ hf
     ·simp at h
   ·simp at h
 |n+1,.zq id p,u,J,g,k,r,cs,hh,za,hu,h=>by
  cases u with
  |ptr u=>
   cases p with
   |cons s q=>simp[jG]at h
   |nil=>
    simp only[jG]at h;split at h
    ·rename_i a ho;obtain⟨hnt,h⟩:=VO h;obtain⟨c,e,hc,ht,hca⟩:=(hh.z6 id _ ho).out hnt;have hs:=wj (g:=g) (J:=J) id (by rw[ho];simp);have q0d:=jM.frame (wT:=(J.kill id).z6) (hs.ro w) (λi _=>hs.kept hh i) hca;obtain⟨d,J',g',hk,h1,h2,h3,zF⟩:=gQ n (hs.heap hh) q0d (by simpa[Ty.zG]using hu) h;obtain⟨v,rfl,_,hv⟩:=za;obtain⟨off,s,jO,rfl⟩:=hv _ ho;simp only[Sk.off,zI,pv]at jO;obtain⟨rfl,_⟩:=jO;have zS:(pD g id).tag (g.qp id)=.ro:=by simp[pD,ht]
     refine⟨d,J',g',hk,h1,h2,hs.trans h3,g.qp id,0,c,e,(0,0),rfl,((h3.ro w).qp _ zS).1,hc,?_,?_⟩
     ·have:=zF.len;rw[vl]at this;omega
     ·have hl:=zF.len;rw[<-hl,gx];exact zF
    ·simp at h
  |_=>cases p<;>simp[jG]at h
 |n+1,.qP f c,u,J,g,k,r,cs,hh,za,hu,h=>by
  cases u with
  |fn f' t=>
   simp only[jG]at h
   cases hb:Nat.beq f f' with
   |false=>rw[hb]at h;simp at h
   |true=>
    rw[hb]at h;have he:f=f':=zE hb;subst he;obtain⟨vs,rfl,hc⟩:=za;obtain⟨d,J',g',hk,h1,h2,h3,zF⟩:=gQ n (a:=c) hh hc (by simpa[Ty.zG]using hu) h
    exact⟨d,J',g',hk,h1,h2,h3,vs,rfl,zF⟩
  |_=>simp[jG]at h
 |n+1,.agg c,u,J,g,k,r,cs,hh,za,hu,h=>by
  simp only[jG]at h
  exact gQ n (a:=c) hh za hu h
 |n+1,.pr a b,u,J,g,k,r,cs,hh,za,hu,h=>by
  cases u with
  |pair t u=>
   simp only[jG]at h;simp only[Ty.zG,zA]at hu;obtain⟨c1,c2,rfl,ha,hb⟩:=za;obtain⟨x,J1,g1,Z5,h1,h2,h3,uW⟩:=gQ n hh ha hu.1 h;have jt:=jM.frame (wT:=J1.z6) (h3.ro w) (λi _=>h3.kept hh i) hb;obtain⟨y,J2,g2,K6,h4,h5,h6,uV⟩:=gQ n (h3.heap hh) jt hu.2 Z5
   exact⟨(x,y),J2,g2,K6,h4.trans h1,h5.trans h2,h3.trans h6,c1,c2,rfl,uW.kept (h6.ro w),uV⟩
  |_=>simp[jG]at h
 |n+1,.un,u,J,g,k,r,cs,hh,za,hu,h=>by
  cases u with
  |unit=>
   simp only[jG]at h
   exact⟨(),J,g,h,rfl,rfl,.refl _ _,za⟩
  |_=>simp[jG]at h
 |n+1,.view _ _ _ _ _,u,J,g,k,r,cs,hh,za,hu,h=>by cases u<;>simp[jG]at h
 |n+1,.va _ _ _,u,J,g,k,r,cs,hh,za,hu,h=>by cases u<;>simp[jG]at h
 |n+1,.qV _,u,J,g,k,r,cs,hh,za,hu,h=>by cases u<;>simp[jG]at h
 |n+1,.nv true _ _ _,u,J,g,k,r,cs,hh,za,hu,h=>by cases u<;>simp[jG]at h
 |n+1,.nv false _ (_::_) _,u,J,g,k,r,cs,hh,za,hu,h=>by cases u<;>simp[jG]at h
 |n+1,.nv false id [] ep,u,J,g,k,r,cs,hh,za,hu,h=>by
  simp only[jG]at h;split at h
  ·rename_i t l e i ho
   cases hb:Nat.beq e ep with
   |false=>rw[hb]at h;simp at h
   |true=>
    have he:e=ep:=zE hb;subst he;rw[hb]at h;simp only[zB]at h;obtain⟨v,rfl,_,hv⟩:=za;have yZ:=((hv _ _ _ _ _ ho).2 rfl).1 rfl;have zp:zN w g (some (id,[])) (.sl true t) l [g.sv id []]:=hh.z6 id _ ho;split at h
    ·rename_i v' kk;obtain⟨_,h,_,K1⟩:=vT h (Ty.gZ _);refine⟨_,J.kill id,pD g id,h,rfl,rfl,wj id (by rw[ho];simp),?_⟩;have hs:=wj (g:=g) (J:=J) id (by rw[ho];simp);have hf:=zN.freeze (hs.ro w) (o:=some (id,[])) (show Zz w g w (pD g id) id [] from⟨λq b hb=>⟨by simp only[pD,Ql]at hb⊢;rw[hb];simp,rfl⟩⟩) zp;rw[<-yZ]at hf;exact K1 _ _ _ hf
    ·simp at h
  ·simp at h
 |n+1,.jS _,u,J,g,k,r,cs,hh,za,hu,h=>za.elim
theorem V8.one{F:(k:Nat)->Rec k->List Value->Prop}{w:World}{g:z8}(hF:∀k x cs,F k x cs->∀v∈cs,v.oneCell'=true):{t:Ty}->{d:t.den}->{cs:List Value}->V8 F w g t d cs->∀v∈cs,v.oneCell'=true
 |.int _,_,_,h=>by obtain⟨rfl,_⟩:=h;simp[Value.oneCell']
 |.bool,_,_,h=>by cases h;simp[Value.oneCell']
 |.str,_,_,h=>by obtain⟨s,rfl,_⟩:=h;simp[Value.oneCell']
 |.unit,_,_,h=>by cases h;simp
 |.pair a b,(x,y),_,h=>by
  obtain⟨c1,c2,rfl,h1,h2⟩:=h;intro v hv;rcases Gx.1 hv with hv|hv
  ·exact V8.one hF h1 v hv
  ·exact V8.one hF h2 v hv
 |.arr n t,l,cs,h=>by
  intro v hv;obtain⟨j,hj,rfl⟩:=Gz.1 hv;have hlen:=h.2.1;have htz:0<t.size:=by
   rcases Z29 t.size with hz|hz
   ·rw[hz]at hlen;omega
   ·exact hz
  have hdiv:j/t.size<n:=Z3t (by rw[Z21];omega);have hi:j/t.size<List.length l:=by rw[h.1];exact hdiv
  have hr:=V8.one hF (h.2.2 (j/t.size) hi);refine hr _ ?_;have hm:=Z2t j htz;have hdm:=Z3u j t.size;have hle:(j/t.size+1)*t.size<=n*t.size:=kn _ hdiv;rw[kq]at hle;refine Gz.2 ⟨j%t.size,?_,?_⟩
  ·rw[yS (by omega)];exact hm
  ·simp only[qS,Z35,Z36];congr 1
   rw[Z21];exact hdm
 |.sl false t,_,_,h=>by obtain⟨a,cap,rfl,_⟩:=h;simp[Value.oneCell']
 |.tree _,_,_,h=>hF _ _ _ h
theorem gF.one{w:World}{g:z8}:{n k:Nat}->{x:Rec k}->{cs:List Value}->gF w g n k x cs->∀v∈cs,v.oneCell'=true
 |n+1,_,_,_,h=>V8.one (λ_ _ _ h=>gF.one h) h
theorem zN.one{w:World}{g:z8}:{o:C8}->{t:Ty}->{d:t.den}->{cs:List Value}->zN w g o t d cs->∀v∈cs,v.oneCell'=true
 |_,.int _,_,_,h=>by obtain⟨rfl,_⟩:=h;simp[Value.oneCell']
 |_,.bool,_,_,h=>by cases h;simp[Value.oneCell']
 |_,.str,_,_,h=>by obtain⟨s,rfl,_⟩:=h;simp[Value.oneCell']
 |_,.unit,_,_,h=>by cases h;simp
 |_,.pair a b,(x,y),_,h=>by
  obtain⟨c1,c2,rfl,h1,h2⟩:=h;intro v hv;rcases Gx.1 hv with hv|hv
  ·exact zN.one h1 v hv
  ·exact zN.one h2 v hv
 |_,.arr n t,l,cs,h=>by
  intro v hv;obtain⟨j,hj,rfl⟩:=Gz.1 hv;have hlen:=h.2.1;have htz:0<t.size:=by
   rcases Z29 t.size with hz|hz
   ·rw[hz]at hlen;omega
   ·exact hz
  have hdiv:j/t.size<n:=Z3t (by rw[Z21];omega);have hi:j/t.size<List.length l:=by rw[h.1];exact hdiv
  have hr:=zN.one (h.2.2 (j/t.size) hi);refine hr _ ?_;have hm:=Z2t j htz;have hdm:=Z3u j t.size;have hle:(j/t.size+1)*t.size<=n*t.size:=kn _ hdiv;rw[kq]at hle;refine Gz.2 ⟨j%t.size,?_,?_⟩
  ·rw[yS (by omega)];exact hm
  ·simp only[qS,Z35,Z36];congr 1
   rw[Z21];exact hdm
 |_,.sl false t,_,_,h=>by obtain⟨a,cap,rfl,_⟩:=h;simp[Value.oneCell']
 |some (_,_),.sl true t,_,_,h=>by obtain⟨a,cap,rfl,_⟩:=h;simp[Value.oneCell']
 |none,.sl true t,_,_,h=>h.elim
 |_,.ptr t,_,_,h=>by obtain⟨b,off,c,e,fz,rfl,_⟩:=h;simp[Value.oneCell']
 |_,.fn f t,_,_,h=>by obtain⟨vs,rfl,_⟩:=h;simp[Value.oneCell']
 |_,.tree _,_,_,h=>by obtain⟨n,h⟩:=h;exact h.one
 |some _,.mp true,_,_,h=>by
  obtain⟨hc,h⟩:=h;obtain⟨b,hb,_⟩:=h.val
  rw[hc,hb];simp[Value.oneCell']
 |none,.mp true,_,_,h=>h.elim
 |_,.mp false,_,_,h=>by
  obtain⟨v,rfl,h⟩:=h;obtain⟨b,rfl,_⟩:=h.val;simp[Value.oneCell']
theorem jM.one{w:World}{g:z8}{z6:qZ}:{a:z7}->{cs:List Value}->jM w g z6 a cs->∀v∈cs,v.oneCell'=true
 |.data t d,_,h=>h.2.one
 |.zi,_,h=>by cases h;simp[Value.oneCell']
 |.ref _ _ _,_,h=>by obtain⟨v,rfl,h,_⟩:=h;simp[h]
 |.view _ _ _ _ _,_,h=>by obtain⟨v,rfl,h,_⟩:=h;simp[h]
 |.zq _ _,_,h=>by obtain⟨v,rfl,h,_⟩:=h;simp[h]
 |.va _ _ _,_,h=>by obtain⟨v,rfl,h,_⟩:=h;simp[h]
 |.qV _,_,h=>by obtain⟨v,rfl,h,_⟩:=h;simp[h]
 |.nv _ _ _ _,_,h=>by obtain⟨v,rfl,h,_⟩:=h;simp[h]
 |.qP _ _,_,h=>by obtain⟨v,rfl,_⟩:=h;simp[Value.oneCell']
 | .V6 _ _,_,h=>by obtain⟨v,Du,rfl,_⟩:=h;simp[Value.oneCell']
 |.agg c,_,h=>jM.one (a:=c) h
 |.jS _,_,h=>h.elim
 |.pr a b,_,h=>by
  obtain⟨c1,c2,rfl,h1,h2⟩:=h;intro v hv;rcases Gx.1 hv with hv|hv
  ·exact jM.one h1 v hv
  ·exact jM.one h2 v hv
 |.un,_,h=>by cases h;simp
theorem zN.z1t{w:World}{g:z8}{t:Ty}{d:t.den}{cs:List Value}(h:zN w g none t d cs)(ha:t.sk.isAgg=false):∃v,cs=[v]:=by
 have hl:=h.len;have:t.size=1:=by cases t<;>simp[Ty.sk,Sk.isAgg]at ha<;>simp[Ty.size]
 rw[this]at hl;exact Z28.1 hl
theorem vP{w:World}{g:z8}{z6:qZ}{av:z7}{v:Value}(hv:av.val=true)(h:zm w g z6 av v):∃cs,jM w g z6 av cs/\v=jh av.isAgg cs/\v.cells.toList=cs:=by
 obtain⟨wx,Qr,PY,EJ⟩:=wI hv;obtain⟨cs,za,Qs⟩:=kB h EJ;refine⟨cs,za,Qs,?_⟩
 cases ha:av.isAgg with
 |true=>
  rw[ha]at Qs;simp only[jh,Ms]at Qs
  rw[Qs];rfl
 |false=>
  rw[ha]at Qs;simp only[jh,Z2a,TC]at Qs;have hl:=za.len;have:av.sk.size=1:=by
   rw[wx]at ha;cases ko:av.sk<;>rw[ko]at ha<;>simp[Sk.isAgg]at ha;rfl
  rw[this]at hl;obtain⟨x,rfl⟩:=Z28.1 hl;have h1:=za.one x (by simp);have hx:v=x:=Qs;subst hx;cases v<;>simp[Value.oneCell']at h1<;>rfl
end Go.Kz
namespace Go.Kz
variable {R:Type}
def qe(g:z8)(b0 m:Nat)(tg:Tag)(v:Value)(z:Value:=.slice none 0 0):z8 where
 tag:=λb=>if b=b0 then tg else g.tag b
 sv:=λi p=>if i=m then (if p=[] then v else z) else g.sv i p
 qp:=λi=>if i=m then b0 else g.qp i
section
variable {w:World}{g:z8}{J:St}{o:Obj}{m:Nat}{tg:Tag}{v z:Value}
theorem pX(ht:∀b,g.tag b≠.zt->b<w.heap.size)(ob:Go.Obj):zT w g (w.alloc ob) (qe g w.heap.size m tg v z):=
 ⟨λb hb=>by
  have:=ht b (by rw[hb];simp);exact⟨by simp only[qe];rw[qW (by omega)];exact hb,heap_alloc_old w ob this⟩⟩
theorem ZP(ht:∀b,g.tag b≠.zt->b<w.heap.size)(ob:Go.Obj){id:Nat}(hid:id≠m):xC w g (w.alloc ob) (qe g w.heap.size m tg v z) id:=by
 refine⟨⟨λq=>by simp[qe,hid],λq b hb=>?_⟩,by simp[qe,hid],λhb=>?_⟩
 ·have:=ht b (by rw[hb];simp);exact⟨by simp only[qe];rw[qW (by omega)];exact hb,heap_alloc_old w ob this⟩
 ·have:=ht (g.qp id) (by rw[hb];simp);exact⟨by simp only[qe];rw[qW (by omega)];exact hb,heap_alloc_old w ob this⟩
theorem ZU(ht:∀b,g.tag b≠.zt->b<w.heap.size)(ob:Go.Obj):Ext w g (w.alloc ob) (qe g w.heap.size m tg v z):=by
 refine⟨rfl,rfl,rfl,yH _,by simp,λb hb _=>⟨heap_alloc_old w ob hb,?_⟩⟩;simp only[qe];rw[qW (by omega)]
theorem zO{I:Type}(f:Nat->Option I)(i:Nat)(x:Option I):GJ f i x i=x:=by simp[GJ]
theorem zf{I:Type}(f:Nat->Option I){i j:Nat}(x:Option I)(h:j≠i):GJ f i x j=f j:=by
 simp only[GJ]
 cases hb:Nat.beq j i with
 |true=>exact absurd (zE hb) h
 |false=>rfl
theorem GN(hh:yC w g J.z6)(ob:Go.Obj){id:Nat}(hid:id≠m):qq g (qe g w.heap.size m tg v z) id (J.z6 id) ((J.setObj m o).z6 id):=by
 simp only[St.setObj];rw[zf _ _ hid];exact qq.same (ZP hh.tags ob hid)
theorem zU.new{n:Nat}{a:Act}(zj:zU n g w a J)(hf:zJ g J m)(ob:Go.Obj)(Qo:tg≠.zt)
  (zp:zn (w.alloc ob) (qe g w.heap.size m tg v z) (J.setObj m o).z6 m o):zU n (qe g w.heap.size m tg v z) (w.alloc ob) a (J.setObj m o):=by
 refine⟨λi av hi=>?_,⟨λid x hx=>?_,λb hb=>?_⟩,zj.size,zj.defers,zj.known.kept (pX zj.heap.tags ob)⟩
 ·obtain⟨u,hu,za⟩:=zj.zk i av hi;refine⟨u,hu,zm.frame (pX zj.heap.tags ob) (λid hid=>GN zj.heap ob ?_) za⟩;intro he;subst he;exact hf.zk i av hi hid
 ·by_cases hid:id=m
  ·subst hid;simp only[St.setObj,zO,zI]at hx;subst hx;exact zp
  ·have Vd:J.z6 id=some x:=by simpa[St.setObj,zf _ _ hid]using hx
   refine zn.frame (pX zj.heap.tags ob) (ZP zj.heap.tags ob hid) (λy hy vF Mk=>GN zj.heap ob ?_) (zj.heap.z6 id x Vd);intro he;subst he;subst hy;exact hf.cells id y Vd Mk
 ·simp only[qe]at hb;split at hb
  ·rename_i he;subst he;simp
  ·have:=zj.heap.tags b hb;simp;omega
theorem zJ.new{m':Nat}(hm:m'≠m)(wy:∀p,tg≠.row m' p)(zja:tg≠.box m')(ho:∀y,o=.cell y->m'∉y.ids)(hf:zJ g J m'):zJ (qe g w.heap.size m tg v z) (J.setObj m o) m':=by
 refine⟨by simp only[St.setObj];rw[zf _ _ hm];exact hf.z6,λb p hb=>?_,λb hb=>?_,hf.zk,λid av hi=>?_⟩
 ·simp only[qe]at hb;split at hb
  ·exact wy p hb
  ·exact hf.row b p hb
 ·simp only[qe]at hb;split at hb
  ·exact zja hb
  ·exact hf.box b hb
 ·by_cases hid:id=m
  ·subst hid;simp only[St.setObj,zO,zI]at hi;exact ho av hi
  ·simp only[St.setObj]at hi;rw[zf _ _ hid]at hi;exact hf.cells id av hi
end
theorem vU(n:Nat)(cs:List Value)(i:Nat)(h:i<n):qS (List.replicate n cs).flatten (i*cs.length) cs.length=cs:=by
 induction n generalizing i with
 |zero=>omega
 |succ n ih=>
  simp only[Z4x,Z2u]
  cases i with
  |zero=>
   simp only[Z2b]
   rw[yK _ _ _ _ (by omega),gx]
  |succ i=>
   rw[kq,Nat.one_mul,Z49];rw[yD _ _ _ _ _ rfl];exact ih i (by omega)
theorem vS(n:Nat)(cs:List Value):(List.replicate n cs).flatten.length=n*cs.length:=by
 induction n with
 |zero=>simp
 |succ n ih=>simp only[Z4x,Z2u,WQ,ih,kq];omega
theorem zh8:(k:Nat)->(zn3 k).length=CE k
 |0=>rfl
 |1=>rfl
 |_+2=>rfl
theorem qm:(t:Ty)->(zeroCells t).length=t.size
 |.int _=>rfl
 |.bool=>rfl
 |.str=>rfl
 |.unit=>rfl
 |.pair a b=>by simp only[zeroCells,WQ,Ty.size,qm a,qm b]
 |.arr n t=>by rw[zeroCells,vS,qm t];rfl
 |.sl _ _=>rfl
 |.ptr _=>rfl
 |.fn f _=>by simp only[zeroCells];cases Nat.beq f 999983<;>rfl
 |.tree k=>zh8 k
 |.mp _=>rfl
theorem vH{w:World}{g:z8}:{t:Ty}->{d:t.den}->t.zG=true->t.zero=some d->zN w g none t d (zeroCells t)
 |.int k,d,_,h=>by
  simp only[Ty.zero,zI]at h;subst h;refine⟨rfl,?_⟩
  cases k<;>simp[IntKind.min,IntKind.max,IntKind.bits,IntKind.signed]
 |.bool,d,_,h=>by simp only[Ty.zero,zI]at h;subst h;rfl
 |.str,d,_,h=>by
  simp only[Ty.zero,zI]at h;subst h
  exact⟨ByteArray.empty,rfl,rfl,jF _⟩
 |.unit,d,_,h=>rfl
 |.pair a b,d,hr,h=>by
  simp only[Ty.zero]at h;simp only[Ty.zG,zA]at hr;split at h
  ·rename_i x y hx hy;simp only[zI]at h;subst h;exact⟨_,_,rfl,vH hr.1 hx,vH hr.2 hy⟩
  ·simp at h
 |.arr n t,d,hr,h=>by
  simp only[Ty.zero]at h;split at h
  ·rename_i x hx;simp only[zI]at h;subst h;have zF:=vH (w:=w) (g:=g) (by simpa[Ty.zG]using hr) hx;refine⟨by simp,by rw[zeroCells,vS,qm],λi hi=>?_⟩;have wm:i<n:=by simpa using hi
   simp only[IL,List.getElem_replicate,zeroCells];have:=vU n (zeroCells t) i wm;rw[qm]at this;rw[this];exact zF
  ·simp at h
 |.sl false t,d,_,h=>by
  simp only[Ty.zero,zI]at h;subst h
  exact⟨none,0,rfl,yH _,jF _,λhn=>absurd rfl hn⟩
 |.sl true t,d,hr,h=>by simp[Ty.zG]at hr
 |.ptr _,_,_,h=>by simp[Ty.zero]at h
 |.fn _ _,_,_,h=>by simp[Ty.zero]at h
 |.tree _,_,_,h=>by simp[Ty.zero]at h
 |.mp _,_,_,h=>by simp[Ty.zero]at h
theorem kU:{t:Ty}->t.qs=true->t.zG=true
 |.int _,_=>rfl
 |.bool,_=>rfl
 |.str,_=>rfl
 |.unit,_=>rfl
 |.pair a b,h=>by simp only[Ty.qs,zA]at h;simp[Ty.zG,kU h.1,kU h.2]
 |.arr _ t,h=>by simp only[Ty.qs]at h;simp only[Ty.zG];exact kU h
 |.sl _ _,h=>by simp[Ty.qs]at h
 |.ptr _,h=>by simp[Ty.qs]at h
 |.fn _ _,h=>by simp[Ty.qs]at h
 |.tree _,h=>by simp[Ty.qs]at h
 |.mp _,h=>by simp[Ty.qs]at h
theorem Lx(a b:Ty):pz (.pair a b)=(match Ty.zero (.pair a b),(Ty.pair a b).qs with
  |some z,true=>some (.data (.pair a b) z)
  |_,_=>(xD (.pair a b)).map .agg):=rfl
theorem Lu(a b:Ty):xD (.pair a b)=(match pz a,xD b with
  |some x,some y=>some (.pr x y)
  |_,_=>none):=rfl
theorem Rb(n:Nat)(t:Ty):pz (.arr n t)=(match Ty.zero (.arr n t),(Ty.arr n t).zG with
  |some z,true=>some (.data (.arr n t) z)
  |_,_=>none):=by
 unfold pz v7;rfl
mutual
theorem X1{w:World}{g:z8}{z6:qZ}:{u:Ty}->{z:z7}->pz u=some z->z.sk=u.sk/\z.ids=[]/\jM w g z6 z (zeroCells u)/\z.val=true
 |.sl o t,z,h=>by
  simp only[pz,v7,zI]at h;subst h
  exact⟨rfl,rfl,rfl,rfl⟩
 |.pair a b,z,h=>by
  rw[Lx]at h;split at h
  ·rename_i d h1 h2;simp only[zI]at h;subst h;have hr:=kU h2;exact⟨rfl,rfl,⟨hr,vH hr h1⟩,rfl⟩
  ·simp only[wO]at h;obtain⟨x,hx,rfl⟩:=h;obtain⟨h1,h2,h3,h4⟩:=FB (w:=w) (g:=g) (z6:=z6) hx
   exact⟨h1,h2,h3,h4⟩
 |.int k,z,h=>by
  simp only[pz,v7,Ty.zero,Ty.qs,zI]at h;subst h
  exact⟨rfl,rfl,⟨rfl,vH rfl rfl⟩,rfl⟩
 |.bool,z,h=>by
  simp only[pz,v7,Ty.zero,Ty.qs,zI]at h;subst h
  exact⟨rfl,rfl,⟨rfl,vH rfl rfl⟩,rfl⟩
 |.str,z,h=>by
  simp only[pz,v7,Ty.zero,Ty.qs,zI]at h;subst h
  exact⟨rfl,rfl,⟨rfl,vH rfl rfl⟩,rfl⟩
 |.unit,z,h=>by
  simp only[pz,v7,Ty.zero,Ty.qs,zI]at h;subst h
  exact⟨rfl,rfl,⟨rfl,vH rfl rfl⟩,rfl⟩
 |.arr n t,z,h=>by
  rw[Rb]at h;split at h
  ·rename_i d h1 h2;simp only[zI]at h;subst h;have hr:=h2;exact⟨rfl,rfl,⟨hr,vH hr h1⟩,rfl⟩
  ·simp at h
 |.ptr t,z,h=>by simp[pz,v7,Ty.zero]at h
 |.fn f t,z,h=>by simp[pz,v7,Ty.zero]at h
 |.tree _,z,h=>by simp[pz,v7,Ty.zero]at h
 |.mp _,z,h=>by simp[pz,v7,Ty.zero]at h
theorem FB{w:World}{g:z8}{z6:qZ}:{u:Ty}->{z:z7}->xD u=some z->z.sk=u.sk/\z.ids=[]/\jM w g z6 z (zeroCells u)/\(z7.agg z).val=true
 |.pair a b,z,h=>by
  rw[Lu]at h;split at h
  ·rename_i x y hx hy;simp only[zI]at h;subst h;obtain⟨h1,h2,h3,_⟩:=X1 (w:=w) (g:=g) (z6:=z6) hx;obtain⟨k1,k2,k3,_⟩:=FB (w:=w) (g:=g) (z6:=z6) hy;exact⟨by simp[z7.sk,Ty.sk,h1,k1],by simp[z7.ids,h2,k2],⟨_,_,rfl,h3,k3⟩,rfl⟩
  ·simp at h
 |.unit,z,h=>by
  simp only[xD,v7,zI]at h;subst h
  exact⟨rfl,rfl,rfl,rfl⟩
 |.int _,_,h=>by simp[xD,v7]at h
 |.bool,_,h=>by simp[xD,v7]at h
 |.str,_,h=>by simp[xD,v7]at h
 |.arr _ _,_,h=>by simp[xD,v7]at h
 |.sl _ _,_,h=>by simp[xD,v7]at h
 |.ptr _,_,h=>by simp[xD,v7]at h
 |.fn _ _,_,h=>by simp[xD,v7]at h
 |.tree _,_,h=>by simp[xD,v7]at h
 |.mp _,_,h=>by simp[xD,v7]at h
end
theorem TL{w:World}{g:z8}{z6:qZ}{id:Nat}{u:Ty}{z:z7}(hid:∀kt vt m,z6 id≠some (.map kt vt m))(h:N7 id u=some z):z.sk=u.sk/\(z.ids=[]\/z.ids=[id])/\jM w g z6 z (zeroCells u)/\z.val=true:=by
 cases u with
 |fn f c=>
  simp only[N7,zI]at h;subst h;refine⟨rfl,.inr rfl,?_,rfl⟩;simp only[zeroCells];cases Nat.beq f 999983
  ·exact⟨_,rfl,rfl,λkt vt m hm=>absurd hm (hid kt vt m)⟩
  ·exact⟨_,rfl,rfl,λkt vt m hm=>absurd hm (hid kt vt m)⟩
 |ptr t=>
  simp only[N7,zI]at h;subst h
  exact⟨rfl,.inr rfl,⟨_,rfl,rfl,λkt vt m hm=>absurd hm (hid kt vt m)⟩,rfl⟩
 |_=>
  obtain⟨h1,h2,h3,h4⟩:=X1 (w:=w) (g:=g) (z6:=z6) h;exact⟨h1,.inl h2,h3,h4⟩
theorem TM{w:World}{g:z8}{z6:qZ}{id:Nat}{u:Ty}{z:z7}{c:Ctx}{d:Option Nat}(hid:∀kt vt m,z6 id≠some (.map kt vt m))(h:TN c d id u=some z):z.sk=u.sk/\(z.ids=[]\/z.ids=[id])/\jM w g z6 z (zeroCells u)/\z.val=true:=by
 unfold TN at h;split at h
 ·cases hr:u.zG with
  |false=>rw[hr]at h;simp at h
  |true=>
   rw[hr]at h;simp only[zB]at h;split at h
   ·rename_i x hx;simp only[zI]at h;subst h;exact⟨rfl,.inl rfl,⟨hr,vH hr hx⟩,rfl⟩
   ·simp at h
 ·exact TL hid h
section
variable {P:Program}{o:Oper}{a:Act}{w:World}{K:Act->World->Prop}{Q:Exit->Act->World->Prop}{c:Ctx}{J:St}{g:z8}{k:St->Option R}{r:R}{base:Nat}{mo:Bool}
theorem Y0{ob:Go.Obj}{obj:Obj}{tg:Tag}{v v' z:Value}{av:z7}(zj:zU c.ntmps g w a J)(hf:zJ g J base)(Qo:tg=.box base\/∃p,tg=.row base p)
  (ze:(execOp a.eval o).run P w=.ok (.value v') (w.alloc ob)) (gI:av.ids=[base])
  (zp:zn (w.alloc ob) (qe g w.heap.size base tg v z) (J.setObj base obj).z6 base obj)
  (zZ:∀y,obj=.cell y->∀m,m≠base->zJ g J m->m∉y.ids)
  (hv:zm (w.alloc ob) (qe g w.heap.size base tg v z) (J.setObj base obj).z6 av v')
  (h:(J.qo c o.dst av λJ=>k (J.setObj base obj))=some r) (hK:vY c.ntmps k r g w J base mo K):o.wp P a w K Q:=by
 have vg:tg≠.zt:=by rcases Qo with rfl|⟨p,rfl⟩<;>simp
 have qO:=zj.new hf ob vg zp;have vO:∀m,(m<base\/base+8<=m)->zJ g J m->zJ (qe g w.heap.size base tg v z) (J.setObj base obj) m:=by
  intro m hm vc;have Nl:m≠base:=by omega
  refine zJ.new Nl (λp=>?_) ?_ (λy hy=>zZ y hy m Nl vc) vc
  ·rcases Qo with rfl|⟨p',rfl⟩<;>simp;exact λh=>absurd h.symm Nl
  ·rcases Qo with rfl|⟨p',rfl⟩<;>simp;exact λh=>Nl h.symm
 unfold Oper.wp;rw[ze,Oper.upon_value];rcases pQ h with⟨hd,hk⟩|⟨i,hd,hi,hk⟩
 ·rw[hd];exact hK _ _ _ _ hk qO (ZU zj.heap.tags ob) vO rfl (λ_ b hb=>heap_alloc_old w ob hb)
 ·rw[hd];refine hK _ _ _ _ hk (show zU c.ntmps _ _ _ ((J.setObj base obj).set i av) from qO.put hi hv) (ZU zj.heap.tags ob) (λm hm vc=>?_) rfl (λ_ b hb=>heap_alloc_old w ob hb);exact(vO m hm vc).set i (by rw[gI];simp;omega)
theorem Tt{ob:Go.Obj}{t:Ty}{d:t.den}{v':Value}{cs:List Value}{vx:Value}(zj:zU c.ntmps g w a J)(hf:zJ g J base)
  (ze:(execOp a.eval o).run P w=.ok (.value v') (w.alloc ob)) (qY:t.zG=true) (zF:zN (w.alloc ob) (qe g w.heap.size base .ro vx) none t d cs) (hv:v'=jh t.sk.isAgg cs)
  (h:J.qo c o.dst (.data t d) k=some r) (hK:vY c.ntmps k r g w J base mo K):o.wp P a w K Q:=by
 have ht:=zj.heap.tags;have kI:∀i,i≠base->qq g (qe g w.heap.size base .ro vx) i (J.z6 i) (J.z6 i):=λi hi=>qq.same (ZP ht ob hi)
 have qO:zU c.ntmps (qe g w.heap.size base .ro vx) (w.alloc ob) a J:=by
  refine⟨λi av hi=>?_,⟨λid x hx=>?_,λb hb=>?_⟩,zj.size,zj.defers,zj.known.kept (pX ht ob)⟩
  ·obtain⟨u,hu,za⟩:=zj.zk i av hi;refine⟨u,hu,zm.frame (pX ht ob) (λid hid=>kI id ?_) za⟩;intro he;subst he;exact hf.zk i av hi hid
  ·have hid:id≠base:=by intro he;subst he;have:=hf.z6;rw[hx]at this;simp at this
   refine zn.frame (pX ht ob) (ZP ht ob hid) (λy hy vF Mk=>kI vF ?_) (zj.heap.z6 id x hx);intro he;subst he;subst hy;exact hf.cells id y hx Mk
  ·simp only[qe]at hb;split at hb
   ·rename_i he;subst he;simp
   ·have:=ht b hb;simp;omega
 have vO:∀m,(m<base\/base+8<=m)->zJ g J m->zJ (qe g w.heap.size base .ro vx) J m:=by
  intro m hm vc;refine⟨vc.z6,λb p hb=>?_,λb hb=>?_,vc.zk,vc.cells⟩
  ·simp only[qe]at hb;split at hb
   ·simp at hb
   ·exact vc.row b p hb
  ·simp only[qe]at hb;split at hb
   ·simp at hb
   ·exact vc.box b hb
 have zy7:zm (w.alloc ob) (qe g w.heap.size base .ro vx) J.z6 (.data t d) v':=by
  simp only[zm];exact⟨cs,⟨qY,zF⟩,hv⟩
 unfold Oper.wp;rw[ze,Oper.upon_value];rcases pQ h with⟨hd,hk⟩|⟨i,hd,hi,hk⟩
 ·rw[hd];exact hK _ _ _ _ hk qO (ZU ht ob) vO rfl (λ_ b hb=>heap_alloc_old w ob hb)
 ·rw[hd];exact hK _ _ _ _ hk (qO.put hi zy7) (ZU ht ob) (λm hm vc=>(vO m hm vc).set i (by simp[z7.ids])) rfl (λ_ b hb=>heap_alloc_old w ob hb)
theorem z1o(kA:p6 P c.tt){t:TypeId}(ho:o.op=.alloc t)(zj:zU c.ntmps g w a J)(hf:zJ g J base)(h:yE c J base o k=some r)(hK:vY c.ntmps k r g w J base mo K):o.wp P a w K Q:=by
 simp only[yE,ho]at h;split at h
 ·rename_i z hz;simp only[WZ]at hz;obtain⟨u,hu,hz⟩:=hz;have hT:=kA _ _ hu;obtain⟨i,zv,Qe,QC,_,TY,TQ,_⟩:=hT.info.info;let g':=qe g w.heap.size base (.box base) undef undef;let ob:Go.Obj:=.cells zv.cells t;have hz':=TM (w:=w.alloc ob) (g:=g') (z6:=(J.setObj base (.cell z)).z6) (id:=base) (λkt vt m hm=>by simp[St.setObj,zO]at hm) hz;refine Y0 (ob:=ob) (obj:=.cell z) (tg:=.box base) (v:=undef) (z:=undef) (v':=.pointer (some ⟨w.heap.size,0,none⟩)) zj hf (.inl rfl) ?_ rfl ?_ ?_ ?_ h hK
  ·simp only[execOp,ho];simp[Instr.alloc,zeroValue,typeInfo,Qe,TY,newVar,newRow];rfl
  ·refine zn.mk ⟨zv.cells,t,?_,?_,?_⟩
   ·have hb:(qe g w.heap.size base (.box base) undef undef).qp base=w.heap.size:=by simp[qe]
    rw[hb];exact heap_alloc_new w _
   ·simp[qe]
   ·rw[TQ];exact hz'.2.2.1
  ·intro y hy m hm _;simp only[Obj.cell.injEq]at hy;subst hy;rcases hz'.2.1 with h1|h1<;>rw[h1]<;>simp[hm]
  ·simp only[zm];refine⟨_,⟨_,rfl,rfl,λx _=>?_⟩,rfl⟩;refine⟨0,x.sk,by simp[Sk.off],?_⟩;simp[qe]
 ·simp at h
theorem zhf{t:TypeId}{x:Operand}(ho:o.op=.box t x)(zj:zU c.ntmps g w a J)(hf:zJ g J base)(h:yE c J base o k=some r)(hK:vY c.ntmps k r g w J base mo K):o.wp P a w K Q:=by
 simp only[yE,ho]at h;split at h
 ·rename_i av Pr;obtain⟨ex,ef⟩:=qD zj Pr
  cases hb:av.val with
  |false=>rw[hb]at h;simp at h
  |true=>
   rw[hb]at h;simp only[zB]at h;obtain⟨cs,za,Qs,vG⟩:=vP hb ex;let ob:Go.Obj:=.cells (a.eval x).cells t;refine Y0 (ob:=ob) (obj:=.cell av) (tg:=.box base) (v:=undef) (z:=undef) (v':=.pointer (some ⟨w.heap.size,0,none⟩)) zj hf (.inl rfl) ?_ rfl ?_ ?_ ?_ h hK
   ·simp only[execOp,ho];simp[Instr.box,newVar,newRow];rfl
   ·refine zn.mk ⟨(a.eval x).cells,t,?_,?_,?_⟩
    ·have hb:(qe g w.heap.size base (.box base) undef undef).qp base=w.heap.size:=by simp[qe]
     rw[hb];exact heap_alloc_new w _
    ·simp[qe]
    ·rw[vG];refine jM.frame (pX zj.heap.tags ob) (λid hid=>GN zj.heap ob ?_) za;intro he;subst he;exact ef _ hf hid
   ·intro y hy m _ hm;simp only[Obj.cell.injEq]at hy;subst hy;exact ef m hm
   ·simp only[zm];refine⟨_,⟨_,rfl,rfl,λy _=>?_⟩,rfl⟩;refine⟨0,y.sk,by simp[Sk.off],?_⟩;simp[qe]
 ·simp at h
end
end Go.Kz
namespace Go.Kz
variable {R:Type}
theorem Y9:(P9:List (List Value))->(n:Nat)->(∀cs∈P9,cs.length=n)->(i:Nat)->(h:i<P9.length)->qS P9.flatten (i*n) n=P9.get ⟨i,h⟩
 |cs::P9,n,hl,0,_=>by
  have h0:=hl cs (by simp);simp only[Z2u,Z2b,List.get]
  rw[yK _ _ _ _ (by omega),<-h0,gx]
 |cs::P9,n,hl,i+1,h=>by
  have h0:=hl cs (by simp);simp only[Z2u];rw[kq,Nat.one_mul,Z49 (i*n) n,yD _ _ _ _ _ h0.symm];have:=Y9 P9 n (λcs pe=>hl cs (by simp[pe])) i (by simpa using h);simpa using this
theorem length_flatten:(P9:List (List Value))->(n:Nat)->(∀cs∈P9,cs.length=n)->P9.flatten.length=P9.length*n
 |[],n,_=>by simp
 |cs::P9,n,hl=>by
  have h0:=hl cs (by simp);have:=length_flatten P9 n (λcs pe=>hl cs (by simp[pe]));simp only[Z2u,WQ,this,h0,BF,kq];omega
theorem YA(z:Array Value)(n:Nat)(hz:0<z.size):(madeCells z (n*z.size)).toList=(List.replicate n z.toList).flatten:=by
 have hlen:(List.replicate n z.toList).flatten.length=n*z.size:=by rw[vS,vl]
 apply List.ext_getElem
 ·rw[hlen,vl,size_madeCells]
 ·intro i h1 h2;rw[hlen]at h2;have hi:i/z.size<n:=Z3t (by rw[Z21];exact h2);have hm:=Z2t i hz;have hs:=vU n z.toList (i/z.size) hi;rw[vl]at hs;have hdm:=Z3u i z.size;have e:(List.replicate n z.toList).flatten[i]? = z.toList[i%z.size]? := by
   have:=Jn (λl=>l[i%z.size]?) hs;simp only[qS,Z39,Z2j,hm,Ms]at this;rw[Z21 (i/z.size) z.size,hdm]at this;exact this
  have e2:(madeCells z (n*z.size)).toList[i]=z[i%z.size]:=by
   simp[madeCells,hm]
  have h3:i<(List.replicate n z.toList).flatten.length:=by rw[hlen];exact h2
  rw[uX h3]at e;rw[e2];have h4:i%z.size<z.toList.length:=by rw[vl];exact hm
  rw[uX h4]at e;simp only[zI]at e;rw[e];simp
theorem Y3{P:Program}{c:Ctx}(kA:p6 P c.tt){d:Option Nat}{t:TypeId}{o:Bool}{u:Ty}(h:Cp c d t=some (.sl o u)):
  ∃E v,P.underlying t=some (.slice E)/\qv P v E/\v.ro=u.ro:=by
 unfold Cp at h;split at h
 ·rename_i u' hd;split at h
  ·rename_i v hv;split at h
   ·rename_i hs _;simp only[zI]at h;subst h;have hT:=kA _ _ hv;have he:=hs.down
    cases v with
    |sl o' v=>
     simp only[qv]at hT;obtain⟨⟨E,h1,h2⟩,_⟩:=hT;simp only[Ty.ro,Ty.sl.injEq,Ur]at he
     exact⟨E,v,h1,h2,he.symm⟩
    |_=>simp[Ty.ro]at he
   ·simp at h
  ·simp at h
 ·have hT:=kA _ _ h;simp only[qv]at hT;obtain⟨⟨E,h1,h2⟩,_⟩:=hT;exact⟨E,u,h1,h2,rfl⟩
theorem gL:(t:Ty)->zeroCells t.ro=zeroCells t
 |.int _=>rfl
 |.bool=>rfl
 |.str=>rfl
 |.unit=>rfl
 |.pair a b=>by simp only[Ty.ro,zeroCells,gL a,gL b]
 |.arr _ t=>by simp only[Ty.ro,zeroCells,gL t]
 |.sl _ _=>rfl
 |.ptr _=>rfl
 |.fn _ _=>rfl
 |.tree _=>rfl
 |.mp _=>rfl
theorem j4.congr{P:Program}{T:TypeId}{u v:Ty}(h:j4 P T v)(e:v.ro=u.ro):j4 P T u:=by
 obtain⟨i,z,h1,h2,h3,h4,h5,h6⟩:=h.info;have hs:v.size=u.size:=by rw[<-Ty.qd v,<-Ty.qd u,e]
 have hz:zeroCells v=zeroCells u:=by rw[<-gL v,<-gL u,e]
 exact⟨⟨i,z,h1,h2.trans hs,h3,h4,h5.trans hz,h6⟩⟩
section
variable {P:Program}{o:Oper}{a:Act}{w:World}{K:Act->World->Prop}{Q:Exit->Act->World->Prop}{c:Ctx}{J:St}{g:z8}{k:St->Option R}{r:R}{base:Nat}{mo:Bool}
theorem Dc{u:Ty}{l:List u.den}{cells:Array Value}{e:TypeId}{cap:Nat}(ht:∀b,g.tag b≠.zt->b<w.heap.size)(hu:u.zG=true)
  (hc:l.length<=cap) (hm:cap<=maxLen) (hs:cap*u.size<=cells.size)
  (ja:∀(i:Nat)(h:i<l.length),zN w g none u (l.get ⟨i,h⟩) (qS cells.toList (i*u.size) u.size)) (z6:qZ) (ep:Nat) :
  zn (w.alloc (.cells cells e)) (qe g w.heap.size base (.row base []) (.slice (some ⟨w.heap.size,0,none⟩) l.length cap)) z6 base (.row u l ep):=by
 refine⟨hu,some ⟨w.heap.size,0,none⟩,cap,by simp[qe],by simp[qe],hc,hm,.inr ⟨w.heap.size,0,cells,e,rfl,by simp[qe],heap_alloc_new w _,by omega,λi hi=>?_⟩⟩;rw[QK];exact zN.yJ hu ((ja i hi).kept (pX ht _))
theorem PH{z6:qZ}{u:Ty}{l:List u.den}{v:Value}{b0:Nat}(ho:z6 base=some (.row u l 0))(qc:v.oneCell'=true):
  zm w (qe g b0 base (.row base []) v) z6 (.ref base [] 0) v:=by
 simp only[zm];refine⟨_,⟨v,rfl,qc,λt l' e hx=>?_⟩,rfl⟩;rw[ho]at hx;simp only[zI,Obj.row.injEq]at hx;obtain⟨_,_,rfl⟩:=hx;exact⟨yH _,λ_=>by simp[qe]⟩
theorem Bh{t E:TypeId}{u:Ty}{z:u.den}(qu:P.underlying t=some (.slice E))(vB:j4 P E u)(hu:u.zG=true)(hz:u.zero=some z)(ht:∀b,g.tag b≠.zt->b<w.heap.size)
  (kl kc:IntKind) (l m:Int) (Pl:0<=l) (AQ:l<=m) (wi:m<=4294967296) (z6:qZ) :
  ∃cells,(Instr.makeSlice t (.int kl l) (.int kc m)).run P w=.ok (.slice (some ⟨w.heap.size,0,none⟩) l.toNat m.toNat) (w.alloc (.cells cells E))/\
   zn (w.alloc (.cells cells E)) (qe g w.heap.size base (.row base []) (.slice (some ⟨w.heap.size,0,none⟩) l.toNat m.toNat)) z6 base (.row u (List.replicate l.toNat z) 0):=by
 obtain⟨i,zv,Qe,QC,Bo,TY,TQ,hi6⟩:=vB.info;have Vr:(i.bytes:Int)*m<=281474976710656:=by
  have h1:(i.bytes:Int)<=32768:=by omega
  have h2:(i.bytes:Int)*m<=32768*m:=Z3a h1 (by omega);omega
 have ze:=run_make (P:=P) w t E i zv qu Qe TY kl kc l m Pl AQ Vr (by omega);have PS:zv.cells.size=u.size:=by rw[<-vl,TQ,qm]
 have vG:(madeCells zv.cells (m.toNat*i.size)).toList=(List.replicate m.toNat (zeroCells u)).flatten:=by
  rw[QC,<-PS,YA _ _ (by rw[PS,<-QC];exact hi6),TQ]
 have hlen:(List.replicate l.toNat z).length=l.toNat:=by simp
 have zp:zn (w.alloc (.cells (madeCells zv.cells (m.toNat*i.size)) E)) (qe g w.heap.size base (.row base []) (.slice (some ⟨w.heap.size,0,none⟩) (List.replicate l.toNat z).length m.toNat)) z6 base (.row u (List.replicate l.toNat z) 0):=by
  refine Dc ht hu ?_ ?_ ?_ (λj hj=>?_) _ _
  ·rw[hlen];omega
  ·unfold maxLen;omega
  ·rw[size_madeCells,QC];exact yH _
  ·rw[vG];have Zy:j<l.toNat:=by rw[<-hlen];exact hj
   have:=vU m.toNat (zeroCells u) j (by omega);rw[qm]at this;rw[this];simp only[IL,List.getElem_replicate];exact vH hu hz
 rw[hlen]at zp;exact⟨_,ze,zp⟩
theorem z0z{u:Ty}(h:Ng u=true):∃v,u=.sl true v:=by
 unfold Ng at h;split at h
 ·exact⟨_,rfl⟩
 ·simp at h
theorem YX{t E:TypeId}{u:Ty}{d:u.den}{z:Value}(qu:P.underlying t=some (.slice E))(vB:j4 P E u)(hz:zeroCells u=[z])(hd:∀w g p,g.sv base p=z->zN w g (some (base,p)) u d [z])
  (kl kc:IntKind) (l m:Int) (Pl:0<=l) (AQ:l<=m) (wi:m<=4294967296) (z6:qZ) :
  ∃cells,(Instr.makeSlice t (.int kl l) (.int kc m)).run P w=.ok (.slice (some ⟨w.heap.size,0,none⟩) l.toNat m.toNat) (w.alloc (.cells cells E))/\
   zn (w.alloc (.cells cells E)) (qe g w.heap.size base (.row base []) (.slice (some ⟨w.heap.size,0,none⟩) l.toNat m.toNat) z) z6 base (.nest u (List.replicate l.toNat d) 0 0 none):=by
 obtain⟨i,zv,Qe,QC,Bo,TY,TQ,hi6⟩:=vB.info;have Vr:(i.bytes:Int)*m<=281474976710656:=by
  have h1:(i.bytes:Int)<=32768:=by omega
  have h2:(i.bytes:Int)*m<=32768*m:=Z3a h1 (by omega);omega
 have ze:=run_make (P:=P) w t E i zv qu Qe TY kl kc l m Pl AQ Vr (by omega);have FV:u.size=1:=by rw[<-qm,hz];rfl
 have PS:zv.cells.size=1:=by rw[<-vl,TQ,hz];rfl
 have zqe:i.size=1:=QC.trans FV;have vG:(madeCells zv.cells (m.toNat*i.size)).toList=(List.replicate m.toNat (zeroCells u)).flatten:=by
  rw[zqe,<-PS,YA _ _ (by rw[PS];omega),TQ]
 have hlen:(List.replicate l.toNat d).length=l.toNat:=by simp
 refine⟨_,ze,?_⟩;show zN _ _ (some (base,[])) (.sl true u) (List.replicate l.toNat d) _;refine⟨some ⟨w.heap.size,0,none⟩,m.toNat,by rw[hlen];simp[qe],by rw[hlen];simp[qe],by rw[hlen];omega,by unfold maxLen;omega,.inr ⟨w.heap.size,0,_,E,rfl,by simp[qe],heap_alloc_new w _,?_,λj hj=>?_⟩⟩
 ·rw[size_madeCells,zqe];simp[FV]
 ·have Zy:j<l.toNat:=by rw[<-hlen];exact hj
  rw[vG];have:=vU m.toNat (zeroCells u) j (by omega);rw[qm]at this;rw[QK,this,hz];have wG:(List.replicate l.toNat d).get ⟨j,hj⟩=d:=by simp
  rw[wG];exact hd _ _ _ (by simp[qe])
theorem Gj{z6:qZ}{u:Ty}{l:List u.den}{v z:Value}{b0:Nat}(ho:z6 base=some (.nest u l 0 0 none))(qc:v.oneCell'=true):
  zm w (qe g b0 base (.row base []) v z) z6 (.nv false base [] 0) v:=by
 simp only[zm];refine⟨_,⟨v,rfl,qc,λt l' e i h hx=>?_⟩,rfl⟩;rw[ho]at hx;simp only[zI,Obj.nest.injEq]at hx;obtain⟨_,_,rfl,rfl,_⟩:=hx;exact⟨yH _,λ_=>⟨λ_=>by simp[qe],λh=>(by simp at h)⟩⟩
theorem E4(kA:p6 P c.tt){t:TypeId}{x y:Operand}(ho:o.op=.makeSlice t x y)(zj:zU c.ntmps g w a J)(hf:zJ g J base)(h:yE c J base o k=some r)(hK:vY c.ntmps k r g w J base mo K):o.wp P a w K Q:=by
 simp only[yE,ho]at h;split at h
 ·rename_i ow Qc;split at h
  ·rename_i kl l kc m hx hy;obtain⟨hb,h⟩:=qB h;simp only[zA,ve]at hb;obtain⟨⟨Pl,AQ⟩,wi⟩:=hb;obtain⟨E,v,qu,hv,hvu⟩:=Y3 kA Qc;have vB:j4 P E (.mp true):=hv.info.congr hvu;obtain⟨vx,_⟩:=jL (qD zj hx).1;obtain⟨vy,_⟩:=jL (qD zj hy).1;obtain⟨cells,ze,zp⟩:=YX (P:=P) (base:=base) (w:=w) (g:=g) (u:=.mp true) (d:=none) (z:=.map none) qu vB rfl (λw g p hs=>⟨by rw[hs],hs⟩) kl kc l m Pl AQ wi (J.setObj base (.nest (.mp true) (List.replicate l.toNat none) 0 0 none)).z6;refine Y0 (tg:=.row base []) zj hf (.inr ⟨[],rfl⟩) ?_ rfl zp (λy hy=>by simp at hy) (Gj (u:=.mp true) (l:=List.replicate (Int.toNat l) none) (by simp[St.setObj,zO]) rfl) h hK;simp only[execOp,ho,vx,vy];simp[ze]
  ·simp at h
 ·rename_i ow u _ Qc;split at h
  ·rename_i z kl l kc m hz hx hy
   cases hu:u.zG with
   |false=>
    rw[hu]at h;simp only[zP]at h
    cases hr:Ng u with
    |false=>rw[hr]at h;simp at h
    |true=>
     rw[hr]at h;simp only[zB]at h;obtain⟨v',rfl⟩:=z0z hr;obtain⟨hb,h⟩:=qB h;simp only[zA,ve]at hb;obtain⟨⟨Pl,AQ⟩,wi⟩:=hb;obtain⟨E,v,qu,hv,hvu⟩:=Y3 kA Qc;have vB:j4 P E (.sl true v'):=hv.info.congr hvu;obtain⟨vx,_⟩:=jL (qD zj hx).1;obtain⟨vy,_⟩:=jL (qD zj hy).1
     ·simp only[Ty.zero,zI]at hz;subst hz;obtain⟨cells,ze,zp⟩:=YX (P:=P) (base:=base) (w:=w) (g:=g) (u:=.sl true v') (d:=([]:List v'.den)) (z:=.slice none 0 0) qu vB rfl (λw g p hs=>⟨none,0,rfl,hs,yH _,jF _,.inl ⟨rfl,rfl,rfl⟩⟩) kl kc l m Pl AQ wi (J.setObj base (.nest (.sl true v') (List.replicate l.toNat ([]:List v'.den)) 0 0 none)).z6;refine Y0 (tg:=.row base []) zj hf (.inr ⟨[],rfl⟩) ?_ rfl zp (λy hy=>by simp at hy) (Gj (u:=.sl true v') (l:=List.replicate (Int.toNat l) ([]:List v'.den)) (by simp[St.setObj,zO]) rfl) h hK;simp only[execOp,ho,vx,vy]
      simp[ze]
   |true=>
    rw[hu]at h;simp only[zB]at h;obtain⟨hb,h⟩:=qB h;simp only[zA,ve]at hb;obtain⟨⟨Pl,AQ⟩,wi⟩:=hb;obtain⟨E,v,qu,hv,hvu⟩:=Y3 kA Qc;have vB:j4 P E u:=hv.info.congr hvu;obtain⟨vx,_⟩:=jL (qD zj hx).1;obtain⟨vy,_⟩:=jL (qD zj hy).1;obtain⟨cells,ze,zp⟩:=Bh (P:=P) (base:=base) qu vB hu hz zj.heap.tags kl kc l m Pl AQ wi (J.setObj base (.row u (List.replicate l.toNat z) 0)).z6;refine Y0 (tg:=.row base []) zj hf (.inr ⟨[],rfl⟩) ?_ rfl zp (λy hy=>by simp at hy) (PH (u:=u) (l:=List.replicate (Int.toNat l) z) (by simp[St.setObj,zO]) rfl) h hK;simp only[execOp,ho,vx,vy];simp[ze]
  ·simp at h
 ·simp at h
theorem AX(off:Nat):(l:List Value)->(j0:Nat)->(cells:Array Value)->off+j0+l.length<=cells.size->
  ((l.zipIdx j0).foldl (λcs (x:Value×Nat)=>cs.setIfInBounds (off+x.2) x.1) cells).toList=zD cells.toList (off+j0) l
 |[],j0,cells,_=>by simp[zD]
 |x::l,j0,cells,h=>by
  simp only[BF]at h;simp only[List.zipIdx_cons,Z2c];rw[AX off l (j0+1) _ (by rw[Array.size_setIfInBounds];omega)];simp only[zD,Array.toList_setIfInBounds,BF];have e1:(cells.toList.set (off+j0) x).take (off+(j0+1))=cells.toList.take (off+j0)++[x]:=by
   rw[<-TD,Z4y (by simp;omega)];simp[List.take_set_of_le]
  have e2:(cells.toList.set (off+j0) x).drop (off+(j0+1)+l.length)=cells.toList.drop (off+j0+(l.length+1)):=by
   rw[List.drop_set_of_lt (by omega)];congr 1;omega
  rw[e1,e2];simp
theorem Uj{size:Nat}:(vs:List Value)->(j:Nat)->(cells:Array Value)->(∀v∈vs,v.cells.size=size)->(j+vs.length)*size<=cells.size->
  ∃yG,Instr.fill (λi=>some (i*size,size)) cells (zc j vs)=some yG/\
   yG.toList=cells.toList.take (j*size)++(vs.map (·.cells.toList)).flatten++cells.toList.drop ((j+vs.length)*size)
 |[],j,cells,_,h=>⟨cells,rfl,by simp⟩
 |v::vs,j,cells,hv,h=>by
  have h0:=hv v (by simp);simp only[BF]at h;have hmul:(j+(vs.length+1))*size=j*size+size+vs.length*size:=by rw[kq,kq];omega
  have z3s:(j+1+vs.length)*size=j*size+size+vs.length*size:=by rw[kq,kq];omega
  have z4a:=AX (j*size) v.cells.toList 0 cells (by rw[vl,h0];omega);let Z7:Array Value:=(v.cells.toList.zipIdx 0).foldl (λcs (x:Value×Nat)=>cs.setIfInBounds (j*size+x.2) x.1) cells;have Uq:Z7.toList=zD cells.toList (j*size) v.cells.toList:=z4a;have xu:Z7.size=cells.size:=by
   rw[<-vl,Uq,j5 _ _ _ (by rw[vl,vl,h0];omega),vl]
  obtain⟨yG,h1,h2⟩:=Uj vs (j+1) Z7 (λu hu=>hv u (by simp[hu])) (by rw[xu,z3s];omega);refine⟨yG,?_,?_⟩
  ·simp only[zc,Instr.fill];rw[qW (by simp[h0];omega)];rw[<-h1];congr 1;show v.cells.zipIdx.foldl _ cells=Z7;rw[<-Array.foldl_toList,Array.toList_zipIdx]
  ·rw[h2,Uq];have Au:v.cells.toList.length=size:=by rw[vl,h0]
   have e1:(zD cells.toList (j*size) v.cells.toList).take ((j+1)*size)=cells.toList.take (j*size)++v.cells.toList:=by
    simp only[zD];rw[Z2q (by simp[Au];rw[kq];omega)];rw[Z1y (by simp[Au];rw[kq];omega)]
   have e2:(zD cells.toList (j*size) v.cells.toList).drop ((j+1+vs.length)*size)=cells.toList.drop ((j+(vs.length+1))*size):=by
    obtain⟨q,hq⟩:∃q,(j+1+vs.length)*size=(j*size+size)+q:=⟨vs.length*size,z3s⟩;have SG:(j+(vs.length+1))*size=j*size+size+q:=by rw[hmul];rw[z3s]at hq;omega
    rw[hq,SG];simp only[zD];rw[Z3q,Lg (by simp[Au];omega),Ql,TF];congr 1;simp[Au];omega
   rw[e1,e2];simp[PF]
theorem Hz{u:Ty}(hu:u.zG=true):{l:List (Nat×Operand)}->{J:St}->{g:z8}->{k:List u.den->St->Option R}->{r:R}->{n:Nat}->
  zU n g w a J->parts J u l k=some r->
  ∃ds J' g' P9,k ds J'=some r/\J'.zk=J.zk/\J'.next=J.next/\jI g J.z6 g' J'.z6/\ds.length=l.length/\
   l.map (λx=>(a.eval x.2).cells.toList)=P9/\(∀cs∈P9,cs.length=u.size)/\
   ∀(i:Nat)(h:i<ds.length)(h':i<P9.length),zN w g' none u (ds.get ⟨i,h⟩) (P9.get ⟨i,h'⟩)
 |[],J,g,k,r,n,zj,h=>⟨[],J,g,[],h,rfl,rfl,.refl _ _,rfl,rfl,by simp,λi h=>by simp at h⟩
 |(j,x)::l,J,g,k,r,n,zj,h=>by
  simp only[parts]at h;split at h
  ·rename_i av Pr;obtain⟨ex,ef⟩:=qD zj Pr
   cases hb:av.val with
   |false=>rw[hb]at h;simp at h
   |true=>
    rw[hb]at h;simp only[zB]at h;obtain⟨cs,za,Qs,vG⟩:=vP hb ex;obtain⟨d,J1,g1,hk,h1,h2,h3,zF⟩:=gQ 20 zj.heap za hu h;obtain⟨ds,J2,g2,P9,K6,h4,h5,h6,h7,h8,h9,SH⟩:=Hz hu (h3.st h1 zj) hk;refine⟨d::ds,J2,g2,cs::P9,K6,h4.trans h1,h5.trans h2,h3.trans h6,by simp[h7],?_,?_,?_⟩
    ·simp only[PE,vG,h8]
    ·intro c hc;rcases pF.1 hc with rfl|hc
     ·exact zF.len
     ·exact h9 c hc
    ·intro i hi wm
     cases i with
     |zero=>exact zF.kept (h6.ro w)
     |succ i=>exact SH i (by simpa using hi) (by simpa using wm)
  ·simp at h
theorem kX:{l:List (Nat×Operand)}->{j:Nat}->xd j l=true->(f:Operand->Value)->l.map (λx=>(x.1,f x.2))=zc j (l.map λx=>f x.2)
 |[],_,_,_=>rfl
 |(i,x)::l,j,h,f=>by
  simp only[xd,zA]at h;have he:=zE h.1;simp only[PE,zc,kX h.2 f,he]
theorem Bf(kA:p6 P c.tt){t:TypeId}{len:Nat}{ps:Array (Nat×Operand)}(ho:o.op=.buildSlice t len ps)(zj:zU c.ntmps g w a J)(hf:zJ g J base)
  (Nh:∀ow u,Cp c o.dst t=some (.sl ow u)->GR u=true->len*u.size<=100000->NU c J base o.dst u len ps.toList k=some r->o.wp P a w K Q)
  (h:yE c J base o k=some r) (hK:vY c.ntmps k r g w J base mo K):o.wp P a w K Q:=by
 simp only[yE,ho]at h;split at h
 ·rename_i ow u Qc
  cases hb:(u.zG&&xd 0 ps.toList&&Nat.beq ps.toList.length len&&Nat.ble (len*u.size) 100000) with
  |false=>
   rw[hb]at h;simp only[zP]at h
   cases wU:(GR u&&Nat.ble (len*u.size) 100000) with
   |false=>rw[wU]at h;simp at h
   |true=>
    rw[wU]at h;simp only[zA]at wU
    exact Nh ow u Qc wU.1 (zL wU.2) h
  |true=>
   rw[hb]at h;simp only[zB]at h;simp only[zA]at hb;obtain⟨⟨⟨hu,xX⟩,hlen⟩,Bs⟩:=hb;have hlen:=zE hlen;have Bs:=zL Bs;obtain⟨E,v,qu,hv,hvu⟩:=Y3 kA Qc;have vB:j4 P E u:=hv.info.congr hvu;obtain⟨i,zv,Qe,QC,Bo,TY,TQ,hi6⟩:=vB.info;obtain⟨ds,J1,g1,P9,hk,h1,h2,h3,h4,h5,h6,h7⟩:=Hz hu zj h;have yN:=h3.st h1 zj;have ZF:=h3.fresh h1 hf;let vs:List Value:=ps.toList.map λx=>a.eval x.2
   have Gg:∀v∈vs,v.cells.size=u.size:=by
    intro v hv;obtain⟨x,hx,rfl⟩:=Z22.1 hv;rw[<-vl];exact h6 _ (by rw[<-h5];exact Z22.2 ⟨x,hx,rfl⟩)
   have Au:vs.length=len:=by simp[vs];rw[<-hlen];simp
   let WY:Array Value:=(Array.range (len*i.size)).map (zv.cells[· % zv.cells.size]!);let zts:Array Value:=(Array.range (len*i.size)).map ((#[]:Array Value)[· % (#[]:Array Value).size]!);have z2x:WY.size=len*u.size:=by simp[WY,QC]
   obtain⟨cells,PV,uk⟩:=Uj vs 0 WY Gg (by rw[z2x,QK,Au];exact yH _);have Po:cells.toList=P9.flatten:=by
    rw[uk];simp only[Z2b,Z1z,Ql,QK,Au];rw[Lg (by rw[vl,z2x];exact yH _),DX];rw[<-h5];simp[vs];rfl
   have Hn:P9.length=len:=by rw[<-h5];simp[<-hlen]
   have My:ps.toList.map (λx=>(x.1,a.eval x.2))=zc 0 vs:=kX xX a.eval;have ze:(Instr.buildSlice t len (ps.map λx=>(x.1,a.eval x.2))).run P w=.ok (.slice (some ⟨w.heap.size,0,none⟩) len len) (w.alloc (.cells cells E)):=by
    have Ni:¬(2 ^ 24<len*i.size):=by rw[QC];omega
    unfold Instr.buildSlice;simp only[Sem.run_bind,run_underlying qu,Result.andThen_ok];by_cases hz:len*i.size=0
    ·have Pl:len=0:=by
      rcases Nat.mul_eq_zero.1 hz with h0|h0
      ·exact h0
      ·omega
     have SP:ps=#[]:=by apply C5.1;exact T3 (hlen.trans Pl)
     have D6:cells.toList=[]:=by
      rw[Po,T3 (Hn.trans Pl)];rfl
     have zj9:cells=#[]:=by apply C5.1;rw[D6]
     simp[Go.sizeOf,typeInfo,Qe,Pl,SP,Instr.fill,newRow,zj9,Array.range_zero']
    ·have Vi:=PV;simp only[WY]at Vi;rw[<-QC]at Vi;simp[Go.sizeOf,typeInfo,Qe,Ni,hz,zeroValue,TY,My,Vi,newRow]
   have zp:zn (w.alloc (.cells cells E)) (qe g1 w.heap.size base (.row base []) (.slice (some ⟨w.heap.size,0,none⟩) ds.length len)) (J1.setObj base (.row u ds 0)).z6 base (.row u ds 0):=by
    refine Dc yN.heap.tags hu ?_ ?_ ?_ (λj hj=>?_) _ _
    ·rw[h4,hlen];exact yH _
    ·have:len*1<=len*u.size:=Nat.mul_le_mul_left _ (by omega);unfold maxLen;omega
    ·rw[<-vl,Po,length_flatten P9 u.size h6,Hn];exact yH _
    ·rw[Po,Y9 P9 u.size h6 j (by rw[Hn,<-hlen,<-h4];exact hj)];exact h7 j hj _
   have hdl:ds.length=len:=h4.trans hlen;rw[hdl]at zp;have hK1:vY c.ntmps k r g1 w J1 base mo K:=by
    intro J' g' a' w' U9 qO qf vO zpx wx;exact hK J' g' a' w' U9 qO (h3.ext.trans qf) (λm hm vc=>vO m hm (h3.fresh h1 vc)) (zpx.trans h2) wx
   cases hfz:zr6 c o.dst with
   |true=>
    rw[hfz]at hk;simp only[zB]at hk;obtain⟨_,a',ux,hcs',_,hlc',hcm',q4h⟩:=zp;have zF:zN (w.alloc (.cells cells E)) (qe g1 w.heap.size base .ro (.slice (some ⟨w.heap.size,0,none⟩) len len)) none (.sl false u) ds [.slice (some ⟨w.heap.size,0,none⟩) len len]:=by
     refine⟨some ⟨w.heap.size,0,none⟩,len,by rw[hdl],by rw[hdl];exact yH _,?_,λvg=>⟨w.heap.size,0,cells,E,(0,0),rfl,by simp[qe],heap_alloc_new w _,?_,λj hj=>?_⟩⟩
     ·have:len*1<=len*u.size:=Nat.mul_le_mul_left _ (by omega);unfold maxLen;omega
     ·rw[hdl,<-vl,Po,length_flatten P9 u.size h6,Hn,QK];exact yH _
     ·rw[QK,Po,Y9 P9 u.size h6 j (by rw[Hn,<-hdl];exact hj)];exact(h7 j hj _).kept (pX yN.heap.tags _)
    refine Tt (v':=.slice (some ⟨w.heap.size,0,none⟩) len len) (t:=.sl false u) yN ZF ?_ (by simpa[Ty.zG]using hu) zF rfl hk hK1;simp only[execOp,ho]
    simp[ze]
   |false=>
   rw[hfz]at hk;simp only[zP]at hk;refine Y0 (tg:=.row base []) yN ZF (.inr ⟨[],rfl⟩) ?_ rfl zp (λy hy=>by simp at hy) (PH (u:=u) (l:=ds) (by simp[St.setObj,zO]) rfl) hk hK1;simp only[execOp,ho];simp[ze]
 ·simp at h
end
end Go.Kz
namespace Go.Kz
section
variable {P:Program}{w:World}
theorem xL{T:TypeId}{t:Ty}(h:j4 P T t)(w:World):(Go.sizeOf T).run P w=.ok t.size w:=by
 obtain⟨i,z,h1,h2,_⟩:=h.info;simp[Go.sizeOf,typeInfo,h1,h2]
end
section
variable {R:Type}{P:Program}{o:Oper}{a:Act}{w:World}{c:Ctx}{J:St}{g:z8}{k:St->Option R}{r:R}{base:Nat}
def z6r(P:Program)(w:World)(g:z8)(J:St)(a:Act)(u:Ty)(fs:List Field)(off i:Nat)(l:List (Nat×Operand))(av:z7):Prop:=
 ∃pl:List (Nat×Nat),(∀w',(fs.mapM (m:=Sem) λf=>do pure (f.offset,<-Go.sizeOf f.type)).run P w'=.ok pl w')/\(∀m,zJ g J m->m∉av.ids)/\
  ∀(pre:List (Nat×Nat)) (cells:Array Value),pre.length=i->cells.toList.drop off=zeroCells u->off<=cells.size->
   ∃yG,Instr.fill (λi=>(pre++pl).toArray[i]?) cells (l.map λx=>(x.1,a.eval x.2))=some yG/\yG.toList.take off=cells.toList.take off/\yG.size=cells.size/\jM w g J.z6 av (yG.toList.drop off)
theorem AE{n:Nat}(zj:zU n g w a J):{u:Ty}->{fs:List Field}->{off i:Nat}->{l:List (Nat×Operand)}->{av:z7}->gr J u i l=some av->av.sk=u.sk->vJ P u fs off->z6r P w g J a u fs off i l av
 |.unit,[],off,i,[],av,h,_,_=>by
  simp only[gr,zI]at h;subst h;refine⟨[],λw'=>rfl,λm _=>by simp[z7.ids],λpre cells _ hz _=>⟨cells,rfl,rfl,rfl,?_⟩⟩
  rw[hz];rfl
 |.unit,_::_,off,i,l,av,_,_,hf=>by simp[vJ]at hf
 |.unit,[],off,i,_::_,av,h,_,_=>by simp[gr]at h
 |.pair t u,[],off,i,l,av,_,_,hf=>by simp[vJ]at hf
 |.pair t u,f::fs,off,i,l,av,h,hs,hf=>by
  simp only[vJ]at hf;obtain⟨f1,f2,f3⟩:=hf;have Eg:(zeroCells t).length=t.size:=qm t;have skip:∀z c,pz t=some z->gr J u (i+1) l=some c->av=.pr z c->z6r P w g J a (.pair t u) (f::fs) off i l av:=λz c hz hc Pr=>by
   subst Pr;simp only[z7.sk,Ty.sk,Sk.pair.injEq]at hs;obtain⟨z1,z2,z3,z4⟩:=X1 (w:=w) (g:=g) (z6:=J.z6) hz;obtain⟨pl,p1,p2,p3⟩:=AE zj hc hs.2 f3;exact(⟨(off,t.size)::pl,λw'=>by
    have:=p1 w';simp only[List.mapM_cons,Sem.run_bind,xL f2.info,Result.andThen_ok,Sem.run_pure,this,f1],λm hm=>by
    simp only[z7.ids,z2,Ql];exact p2 m hm,λpre cells xB hzc jO=>by
    have zic:cells.toList.drop (off+t.size)=zeroCells u:=by
     rw[<-TF,hzc];simp only[zeroCells];rw[<-Eg];exact List.drop_left
    have hlen:off+t.size<=cells.size:=by
     have:=Jn List.length hzc;simp only[Lp,zeroCells,WQ,vl,Eg]at this;omega
    obtain⟨yG,q1,q2,q3,q4⟩:=p3 (pre++[(off,t.size)]) cells (by simp[xB]) zic hlen;refine⟨yG,by simpa[PF]using q1,?_,q3,?_⟩
    ·have:=Jn (List.take off) q2;rw[Z31,Z31,Z4a (by omega)]at this;exact this
    ·have e:yG.toList.drop off=zeroCells t++yG.toList.drop (off+t.size):=by
      have h1:yG.toList.drop off=(yG.toList.take (off+t.size)).drop off++yG.toList.drop (off+t.size):=by
       rw[<-Z2p (by simp;omega),T4]
      rw[h1,q2];congr 1;rw[Z45,hzc,show off+t.size-off=t.size from by omega,<-Eg];simp only[zeroCells];exact List.take_left
     rw[e];exact⟨_,_,rfl,z3,q4⟩⟩)
  cases l with
  |nil=>
   simp only[gr]at h;split at h
   ·rename_i z c hz hc;simp only[zI]at h;subst h;exact skip z c hz hc rfl
   ·simp at h
  |cons jx l=>
   obtain⟨j,x⟩:=jx;simp only[gr]at h
   cases hj:Nat.beq i j with
   |false=>
    rw[hj]at h;simp only[zP]at h;split at h
    ·rename_i z c hz hc;simp only[zI]at h;subst h;exact skip z c hz hc rfl
    ·simp at h
   |true=>
    have Ze:=zE hj;subst Ze;rw[hj]at h;simp only[zB]at h;split at h
    ·rename_i v c hv hc
     cases hval:v.val with
     |false=>rw[hval]at h;simp at h
     |true=>
      rw[hval]at h;simp only[zB,zI]at h;subst h;simp only[z7.sk,Ty.sk,Sk.pair.injEq]at hs;obtain⟨pl,p1,p2,p3⟩:=AE zj hc hs.2 f3;obtain⟨e1,e2⟩:=qD zj hv;obtain⟨cs,c1,c2,c3⟩:=vP hval e1;have qG:(a.eval x).cells.size=t.size:=by rw[<-vl,c3,c1.len,hs.1,Ty.zW]
      refine⟨(off,t.size)::pl,λw'=>by
       have:=p1 w';simp only[List.mapM_cons,Sem.run_bind,xL f2.info,Result.andThen_ok,Sem.run_pure,this,f1],λm hm=>by
       simp only[z7.ids,Gx,not_or];exact⟨e2 m hm,p2 m hm⟩,λpre cells xB hzc jO=>?_⟩
      have hlen:off+t.size<=cells.size:=by
       have:=Jn List.length hzc;simp only[Lp,zeroCells,WQ,vl,Eg]at this;omega
      have z4a:=AX off (a.eval x).cells.toList 0 cells (by rw[vl];omega);let Z7:Array Value:=((a.eval x).cells.toList.zipIdx 0).foldl (λcs (x:Value×Nat)=>cs.setIfInBounds (off+x.2) x.1) cells;have Uq:Z7.toList=zD cells.toList off (a.eval x).cells.toList:=z4a;have D3:(a.eval x).cells.toList.length=t.size:=by rw[vl,qG]
      have xu:Z7.size=cells.size:=by
       rw[<-vl,Uq,j5 _ _ _ (by rw[D3,vl];omega),vl]
      have htk:(cells.toList.take off).length=off:=by simp;omega
      have zic:Z7.toList.drop (off+t.size)=zeroCells u:=by
       rw[Uq];simp only[zD];rw[Z3q,Lg (by rw[WQ,htk,D3];omega),Ql,WQ,htk,D3,Z3v,Z3b,<-TF,hzc];simp only[zeroCells];rw[<-Eg];exact List.drop_left
      obtain⟨yG,q1,q2,q3,q4⟩:=p3 (pre++[(off,t.size)]) Z7 (by simp[xB]) zic (by rw[xu];exact hlen);have z3a:yG.toList.take (off+t.size)=cells.toList.take off++(a.eval x).cells.toList:=by
       rw[q2,Uq];simp only[zD];rw[Z2q (by rw[WQ,htk,D3];omega),Z1y (by rw[WQ,htk,D3];omega)]
      refine⟨yG,?_,?_,by rw[q3,xu],?_⟩
      ·simp only[PE,Instr.fill];have p8:(pre++(off,t.size)::pl).toArray[i]? = some (off,t.size):=by
        rw[<-xB];simp
       simp only[p8];rw[qW (by rw[qG];simp;omega)];rw[show pre++(off,t.size)::pl=pre++[(off,t.size)]++pl from by simp];rw[<-q1];congr 1;show(a.eval x).cells.zipIdx.foldl _ cells=Z7;rw[<-Array.foldl_toList,Array.toList_zipIdx]
      ·have:=Jn (List.take off) z3a;rw[Z31,Z4a (by omega)]at this;rw[this,Z2q (by omega),Z1y (by omega)]
      ·have e:yG.toList.drop off=(a.eval x).cells.toList++yG.toList.drop (off+t.size):=by
        have h1:yG.toList.drop off=(yG.toList.take (off+t.size)).drop off++yG.toList.drop (off+t.size):=by
         rw[<-Z2p (by simp;omega),T4]
        rw[h1,z3a];congr 1;rw[Z3q,Lg (by omega),Ql,htk,Z3v,Z3b]
       rw[e,c3];exact⟨_,_,rfl,c1,q4⟩
    ·simp at h
 |.int _,fs,_,_,l,_,h,_,_=>by simp[gr]at h
 |.bool,fs,_,_,l,_,h,_,_=>by simp[gr]at h
 |.str,fs,_,_,l,_,h,_,_=>by simp[gr]at h
 |.arr _ _,fs,_,_,l,_,h,_,_=>by simp[gr]at h
 |.sl _ _,fs,_,_,l,_,h,_,_=>by simp[gr]at h
 |.ptr _,fs,_,_,l,_,h,_,_=>by simp[gr]at h
 |.fn _ _,fs,_,_,l,_,h,_,_=>by simp[gr]at h
 |.tree _,fs,_,_,l,_,h,_,_=>by simp[gr]at h
 |.mp _,fs,_,_,l,_,h,_,_=>by simp[gr]at h
theorem DJ{z6:qZ}{t:Ty}:{av:z7}->{vs:List Value}->{f:List t.den->Option R}->{r:R}->qx w g z6 av vs->jU t=true->jH t av f=some r->
  ∃l:List t.den,f l=some r/\l.length=vs.length/\(∀v∈vs,v.cells.size=1)/\∀(i:Nat)(h:i<l.length),zN w g none t (l.get ⟨i,h⟩) (qS ((vs.map (·.cells.toList)).flatten) (i*1) 1)
 |.un,vs,f,r,hv,_,h=>by
  simp only[qx]at hv;subst hv;simp only[jH]at h
  exact⟨[],h,rfl,by simp,λi hi=>by simp at hi⟩
 |.pr (.data u d) c,vs,f,r,hv,hk,h=>by
  simp only[qx]at hv;obtain⟨v,rest,rfl,h1,h2⟩:=hv;simp only[jH]at h;obtain⟨e,h⟩:=yY h;subst e;obtain⟨l,k1,k2,k3,k4⟩:=DJ h2 hk h;simp only[zm]at h1;obtain⟨cs,⟨_,zF⟩,hval⟩:=h1;have BD:u.size=1:=by cases u<;>simp[jU]at hk<;>rfl
  have hna:u.sk.isAgg=false:=by cases u<;>simp[jU]at hk<;>rfl
  obtain⟨z,rfl⟩:=zF.z1t hna;have hvz:v=z:=by rw[hval];simp[jh,z7.isAgg,hna]
  have qc:=zF.one z (by simp);have hc:v.cells.toList=[z]:=by
   subst hvz;cases v<;>simp[Value.oneCell']at qc<;>rfl
  refine⟨d::l,k1,by simp[k2],λx hx=>?_,λi hi=>?_⟩
  ·rcases pF.1 hx with rfl|hx
   ·rw[<-vl,hc];rfl
   ·exact k3 x hx
  ·simp only[PE,Z2u,hc]
   cases i with
   |zero=>simpa[qS]using zF
   |succ i=>
    have:=k4 i (by simpa using hi);simp only[TB]at this⊢;have e3:=yD [z] (rest.map (·.cells.toList)).flatten 1 i 1 rfl;rw[Z49 1 i]at e3;rw[e3]
    exact this
 |.pr (.zi) _,_,_,_,_,_,h=>by simp[jH]at h
 |.pr (.ref _ _ _) _,_,_,_,_,_,h=>by simp[jH]at h
 |.pr (.view _ _ _ _ _) _,_,_,_,_,_,h=>by simp[jH]at h
 |.pr (.zq _ _) _,_,_,_,_,_,h=>by simp[jH]at h
 |.pr (.va _ _ _) _,_,_,_,_,_,h=>by simp[jH]at h
 |.pr (.qV _) _,_,_,_,_,_,h=>by simp[jH]at h
 |.pr (.nv _ _ _ _) _,_,_,_,_,_,h=>by simp[jH]at h
 |.pr (.qP _ _) _,_,_,_,_,_,h=>by simp[jH]at h
 |.pr (.agg _) _,_,_,_,_,_,h=>by simp[jH]at h
 |.pr (.jS _) _,_,_,_,_,_,h=>by simp[jH]at h
 |.pr (.pr _ _) _,_,_,_,_,_,h=>by simp[jH]at h
 |.pr .un _,_,_,_,_,_,h=>by simp[jH]at h
 |.data _ _,_,_,_,_,_,h=>by simp[jH]at h
 |.zi,_,_,_,_,_,h=>by simp[jH]at h
 |.ref _ _ _,_,_,_,_,_,h=>by simp[jH]at h
 |.view _ _ _ _ _,_,_,_,_,_,h=>by simp[jH]at h
 |.zq _ _,_,_,_,_,_,h=>by simp[jH]at h
 |.va _ _ _,_,_,_,_,_,h=>by simp[jH]at h
 |.qV _,_,_,_,_,_,h=>by simp[jH]at h
 |.nv _ _ _ _,_,_,_,_,_,h=>by simp[jH]at h
 |.qP _ _,_,_,_,_,_,h=>by simp[jH]at h
 |.agg _,_,_,_,_,_,h=>by simp[jH]at h
 |.jS _,_,_,_,_,_,h=>by simp[jH]at h
theorem LP{n0:Nat}(zj:zU n0 g w a J){u:Ty}(qY:u.zG=true)(hna:u.sk.isAgg=false):∀(n i:Nat) (ps:List (Nat×Operand)) (f:List u.den->Option R),uB J u n i ps f=some r->
  ∃l,f l=some r/\List.length l=n/\∀cells:Array Value,cells.size=i+n->(∀j,i<=j->j<i+n->[cells[j]?]=(zeroCells u).map some)->
   ∃yG,Instr.fill (λi=>some (i*1,1)) cells (ps.map λx=>(x.1,a.eval x.2))=some yG/\yG.size=cells.size/\(∀j,j<i->yG[j]? = cells[j]?)/\
    ∀(j:Nat)(hj:j<List.length l),∃v,yG[i+j]? = some v/\zN w g none u (List.get l ⟨j,hj⟩) [v]:=by
 have zer:∀{z:u.den},u.zero=some z->∃v,zeroCells u=[v]/\zN w g none u z [v]:=by
  intro z hz;have h1:=vH (w:=w) (g:=g) qY hz;obtain⟨v,hv⟩:=h1.z1t hna;exact⟨v,hv,by rw[<-hv];exact h1⟩
 intro n
 induction n with
 |zero=>
  intro i ps f h
  cases ps with
  |nil=>exact⟨[],h,rfl,λcells hs hz=>⟨cells,rfl,rfl,λ_ _=>rfl,λj hj=>by simp at hj⟩⟩
  |cons x ps=>simp[uB]at h
 |succ n ih=>
  have skip:∀(i:Nat) (ps:List (Nat×Operand)) (f:List u.den->Option R) (z:u.den),u.zero=some z->uB J u n (i+1) ps (λl=>f (z::l))=some r->
    ∃l,f l=some r/\List.length l=n+1/\∀cells:Array Value,cells.size=i+(n+1)->(∀j,i<=j->j<i+(n+1)->[cells[j]?]=(zeroCells u).map some)->
     ∃yG,Instr.fill (λi=>some (i*1,1)) cells (ps.map λx=>(x.1,a.eval x.2))=some yG/\yG.size=cells.size/\(∀j,j<i->yG[j]? = cells[j]?)/\
      ∀(j:Nat)(hj:j<List.length l),∃v,yG[i+j]? = some v/\zN w g none u (List.get l ⟨j,hj⟩) [v]:=by
   intro i ps f z hz h;obtain⟨v0,Tk,hrz⟩:=zer hz;obtain⟨l,k1,k2,k3⟩:=ih (i+1) ps _ h;refine⟨z::l,k1,by simp[k2],λcells hs hzc=>?_⟩;obtain⟨yG,q1,q2,q3,q4⟩:=k3 cells (by omega) λj h1 h2=>hzc j (by omega) (by omega)
   refine⟨yG,q1,q2,λj hj=>q3 j (by omega),λj hj=>?_⟩
   cases j with
   |zero=>
    have:=hzc i (yH _) (by omega);rw[Tk]at this;simp only[PE,Z3c,N0,Fy]at this
    exact⟨v0,by rw[TE,q3 i (by omega),this],hrz⟩
   |succ j=>
    obtain⟨v,hv,hr⟩:=q4 j (by simpa using hj);exact⟨v,by rw[<-hv];congr 1;omega,hr⟩
  intro i ps f h
  cases ps with
  |nil=>
   simp only[uB]at h;split at h
   ·rename_i z hz;exact skip i [] f z hz h
   ·simp at h
  |cons x ps=>
   obtain⟨j,x⟩:=x;simp only[uB]at h
   cases Ze:Nat.beq i j with
   |false=>
    rw[Ze,zP]at h;split at h
    ·rename_i z hz;exact skip i _ f z hz h
    ·simp at h
   |true=>
    rw[Ze,zB]at h;have zzp:=zE Ze;subst zzp;split at h
    ·rename_i t d hx;obtain⟨e,h⟩:=yY h;subst e;obtain⟨l,k1,k2,k3⟩:=ih (i+1) ps _ h;have h1:=(qD zj hx).1;simp only[zm]at h1;obtain⟨cs,⟨_,zF⟩,hval⟩:=h1;obtain⟨z,rfl⟩:=zF.z1t hna;have hvz:a.eval x=z:=by rw[hval];simp[jh,z7.isAgg,hna]
     have qc:=zF.one z (by simp);have hc:(a.eval x).cells=#[z]:=by
      rw[hvz];cases z<;>simp[Value.oneCell']at qc<;>rfl
     refine⟨_,k1,by simp[k2],λcells hs hzc=>?_⟩;have wE:(a.eval x).cells.zipIdx.foldl (λcs (y:Value×Nat)=>cs.setIfInBounds (i*1+y.2) y.1) cells=cells.setIfInBounds i z:=by
      rw[hc];simp
     obtain⟨yG,q1,q2,q3,q4⟩:=k3 (cells.setIfInBounds i z) (by simp;omega) λj h1 h2=>by
      rw[Z5l (by omega)];exact hzc j (by omega) (by omega)
     refine⟨yG,?_,by rw[q2];simp,λj hj=>by rw[q3 j (by omega),Z5l (by omega)],λj hj=>?_⟩
     ·simp only[PE,Instr.fill];rw[qW (by rw[hc];simp;omega)];rw[<-q1];congr 1
     ·cases j with
      |zero=>exact⟨z,by rw[TE,q3 i (by omega),Array.getElem?_setIfInBounds_self_of_lt (by omega)],zN.yJ qY zF⟩
      |succ j=>
       obtain⟨v,hv,hr⟩:=q4 j (by simpa using hj);exact⟨v,by rw[<-hv];congr 1;omega,hr⟩
    ·simp at h
theorem z1m(kA:p6 P c.tt){t:TypeId}{ps:Array (Nat×Operand)}(ho:o.op=.build t ps)(zj:zU c.ntmps g w a J)(h:yE c J base o k=some r):wk P o a w g J c k r:=by
 simp only[yE,ho]at h;split at h
 ·-- a struct
  rename_i x y Qc;split at h
  ·rename_i av PV
   cases hb:av.sk.same (Ty.pair x y).sk with
   |false=>rw[hb]at h;simp at h
   |true=>
    rw[hb]at h;simp only[zB]at h;have hs:=Sk.qQ hb;have hT:=kA _ _ Qc;simp only[qv]at hT;obtain⟨⟨fs,hu,hf⟩,vB⟩:=hT;obtain⟨i,z,i1,i2,i3,i4,i5,i6⟩:=vB.info;obtain⟨pl,p1,p2,p3⟩:=AE (P:=P) zj PV hs hf;obtain⟨cells,q1,_,_,q4⟩:=p3 [] z.cells rfl (by rw[Z3b,i5]) (jF _);rw[Z3b]at q4;simp only[Ql]at q1;have zbk:∀w',(fs.mapM (m:=Sem) λf=>do pure (f.offset,<-Go.sizeOf f.type)).run P w'=.ok pl.toArray w':=λw'=>by
     have hp:=p1 w';rw[Array.mapM_eq_mapM_toList,<-bind_pure_comp];simp only[Sem.run_bind,hp,Result.andThen_ok,Sem.run_pure]
    refine Zf (v:=.agg cells) (λw' _=>?_) ?_ (λm hm=>by have:=p2 m hm;simpa[z7.ids]using this) h
    ·have hz:(zeroValue t).run P w'=.ok z w':=by simp[zeroValue,typeInfo,i1,i4]
     have:(Instr.build t (ps.map λx=>(x.1,a.eval x.2))).run P w'=.ok (.agg cells) w':=by
      unfold Instr.build;simp only[Sem.run_bind,hz,run_underlying hu,Result.andThen_ok,Sem.run_pure,zbk w',Z2s,q1]
     simp[execOp,ho,this]
    ·simp only[zm];exact⟨_,by simp only[jM];exact q4,by simp[jh,z7.isAgg]⟩
  ·simp at h
 ·-- an array
  rename_i n u Qc;split at h
  ·rename_i av Mu
   cases hb:(xd 0 ps.toList&&Nat.beq ps.toList.length n&&jU u) with
   |false=>
    rw[hb,zP]at h
    cases wU:(u.zG && !u.sk.isAgg) with
    |false=>rw[wU]at h;simp at h
    |true=>
    rw[wU,zB]at h;simp only[zA,U0]at wU;obtain⟨qY,hna⟩:=wU;have BD:u.size=1:=by cases u<;>simp[Ty.sk,Sk.isAgg]at hna<;>simp[Ty.size]
    obtain⟨l,k1,k2,k3⟩:=LP zj qY hna n 0 ps.toList _ h;have hT:=kA _ _ Qc;simp only[qv]at hT;obtain⟨⟨E,hu,hE⟩,vB⟩:=hT;obtain⟨i,z,i1,i2,i3,i4,i5,i6⟩:=vB.info;have Eg:(zeroCells u).length=1:=by rw[qm,BD]
    have PS:z.cells.size=n:=by
     rw[<-vl,i5];have:=qm (.arr n u);rw[this];simp[Ty.size,BD]
    obtain⟨cells,q1,q2,_,q4⟩:=k3 z.cells (by omega) λj _ hj=>by
     obtain⟨z0,Cn⟩:∃z0,zeroCells u=[z0]:=by
      cases hq:zeroCells u with
      |nil=>rw[hq]at Eg;simp at Eg
      |cons x l=>rw[hq]at Eg;simp at Eg;exact⟨x,by rw[Eg]⟩
     rw[Cn,<-Z25,i5,zeroCells,Cn];have:(List.replicate n [z0]).flatten=List.replicate n z0:=by simp
     rw[this,List.getElem?_replicate];simp;omega
    refine Zf (v:=.agg cells) (λw' _=>?_) ?_ (λm _=>by simp[z7.ids]) k1
    ·have hz:(zeroValue t).run P w'=.ok z w':=by simp[zeroValue,typeInfo,i1,i4]
     have qG:=xL hE.info w';rw[BD]at qG;have:(Instr.build t (ps.map λx=>(x.1,a.eval x.2))).run P w'=.ok (.agg cells) w':=by
      unfold Instr.build;simp only[Sem.run_bind,hz,run_underlying hu,qG,Result.andThen_ok,Sem.run_pure,Z2s,q1]
     simp[execOp,ho,this]
    ·simp only[zm];refine⟨cells.toList,⟨by simpa[Ty.zG]using qY,k2,by rw[vl,q2,PS,BD];omega,λj hj=>?_⟩,by simp[jh,z7.isAgg,Ty.sk,Sk.isAgg]⟩;obtain⟨v,hv,hr⟩:=q4 j hj;rw[BD];have e:qS cells.toList (j*1) 1=[v]:=by
      have qk:j<cells.size:=by rw[q2,PS,<-k2];exact hj
      simp only[qS,TB];rw[Z38 (by rw[vl];exact qk)];simp only[Z2k,Z1z,Z4z];rw[QK,Z3d qk]at hv;rw[Option.some.inj hv]
     rw[e]
     exact zN.yJ qY hr
   |true=>
    rw[hb]at h;simp only[zB]at h;simp only[zA]at hb;obtain⟨⟨h1,h2⟩,h3⟩:=hb;have hn:=zE h2;obtain⟨hv,hf⟩:=W6 zj Mu;have BD:u.size=1:=by cases u<;>simp[jU]at h3<;>rfl
    have qY:u.zG=true:=by cases u<;>simp[jU]at h3<;>rfl
    obtain⟨l,k1,k2,k3,k4⟩:=DJ hv h3 h;have hT:=kA _ _ Qc;simp only[qv]at hT;obtain⟨⟨E,hu,hE⟩,vB⟩:=hT;obtain⟨i,z,i1,i2,i3,i4,i5,i6⟩:=vB.info;have My:ps.toList.map (λx=>(x.1,a.eval x.2))=zc 0 ((ps.toList.map (·.2)).map a.eval):=by
     rw[kX h1 a.eval,List.map_map];rfl
    have Au:((ps.toList.map (·.2)).map a.eval).length=n:=by simp[<-hn]
    have PS:z.cells.size=n:=by
     rw[<-vl,i5];have:=qm (.arr n u);rw[this];simp[Ty.size,BD]
    obtain⟨cells,f1,f2⟩:=Uj (size:=1) ((ps.toList.map (·.2)).map a.eval) 0 z.cells k3 (by rw[Au,PS];omega);have uk:cells.toList=(((ps.toList.map (·.2)).map a.eval).map (·.cells.toList)).flatten:=by
     rw[f2,Au];simp only[Z2b,Z1z,Ql,QK,TB];rw[Lg (by rw[vl,PS];exact yH _),DX]
    refine Zf (v:=.agg cells) (λw' _=>?_) ?_ (λm _=>by simp[z7.ids]) k1
    ·have hz:(zeroValue t).run P w'=.ok z w':=by simp[zeroValue,typeInfo,i1,i4]
     have qG:=xL hE.info w';rw[BD]at qG;have:(Instr.build t (ps.map λx=>(x.1,a.eval x.2))).run P w'=.ok (.agg cells) w':=by
      unfold Instr.build;simp only[Sem.run_bind,hz,run_underlying hu,qG,Result.andThen_ok,Sem.run_pure,Z2s,My,f1]
     simp[execOp,ho,this]
    ·simp only[zm];refine⟨cells.toList,⟨qY,by rw[k2,Au],?_,λj hj=>?_⟩,by simp[jh,z7.isAgg,Ty.sk,Sk.isAgg]⟩
     ·rw[uk,length_flatten _ 1 (λcs pe=>by
       obtain⟨v,hv,rfl⟩:=Z22.1 pe;rw[vl];exact k3 v hv),GZ,Au,BD]
     ·have:=k4 j hj;rw[BD,uk];exact zN.yJ qY this
  ·simp at h
 ·simp at h
end
end Go.Kz
namespace Go.Kz
variable {R:Type}
structure kC (w:World) (g:z8) (w':World) (g':z8) (id b0:Nat):Prop where
 heap:∀b,b≠b0->w'.heap[b]? = w.heap[b]?
 size:w'.heap.size=w.heap.size
 os:w'.os=w.os
 tape:w'.tape=w.tape
 output:w'.output=w.output
 drawn:w'.drawn=w.drawn
 own:(∃p,g.tag b0=.row id p)\/g.tag b0=.box id
 tag:g'.tag=g.tag
 qp:g'.qp=g.qp
 sv:∀i,i≠id->g'.sv i=g.sv i
theorem kC.zf1{w w':World}{g g':z8}{id b0:Nat}(h:kC w g w' g' id b0){b:Nat}(hb:g.tag b=.ro\/g.tag b=.zt):b≠b0:=by
 intro he;subst he;rcases h.own with⟨p,h⟩|h<;>rw[h]at hb<;>simp at hb
theorem kC.ro{w w':World}{g g':z8}{id b0:Nat}(h:kC w g w' g' id b0):zT w g w' g':=
 ⟨λb hb=>⟨by rw[h.tag];exact hb,h.heap b (h.zf1 (.inl hb))⟩⟩
theorem kC.same{w w':World}{g g':z8}{id b0:Nat}(h:kC w g w' g' id b0){i:Nat}(hi:i≠id):xC w g w' g' i:=by
 refine⟨⟨λq=>by rw[h.sv i hi],λq b hb=>⟨by rw[h.tag];exact hb,h.heap b ?_⟩⟩,by rw[h.qp],λhb=>⟨by rw[h.tag];exact hb,h.heap _ ?_⟩⟩
 ·intro he;subst he;rcases h.own with⟨p,h⟩|h<;>rw[h]at hb<;>simp at hb;exact hi hb.1.symm
 ·intro he;rw[he]at hb;rcases h.own with⟨p,h⟩|h<;>rw[h]at hb<;>simp at hb;exact hi hb.symm
theorem kC.ext{w w':World}{g g':z8}{id b0:Nat}(h:kC w g w' g' id b0):Ext w g w' g':=
 ⟨h.os,h.tape,h.output,Z2i h.drawn.symm,by rw[h.size];exact yH _,λb _ hb=>⟨h.heap b (h.zf1 (hb.symm.imp _root_.id _root_.id)),by rw[h.tag]⟩⟩
theorem kC.st{n:Nat}{w w':World}{a:Act}{g g':z8}{J:St}{id b0:Nat}{o':Obj}(h:kC w g w' g' id b0)(zj:zU n g w a J)
  (hk:qq g g' id (J.z6 id) (some o')) (zp:zn w' g' (J.setObj id o').z6 id o'):zU n g' w' a (J.setObj id o'):=by
 have gm:∀i,qq g g' i (J.z6 i) ((J.setObj id o').z6 i):=by
  intro i;by_cases hi:i=id
  ·subst hi;simp only[St.setObj,zO];exact hk
  ·simp only[St.setObj];rw[zf _ _ hi];exact qq.same (h.same hi)
 refine⟨λi av hi=>?_,⟨λi x hx=>?_,λb hb=>?_⟩,zj.size,zj.defers,zj.known.kept h.ro⟩
 ·obtain⟨v,hv,za⟩:=zj.zk i av hi;exact⟨v,hv,zm.frame h.ro (λi _=>gm i) za⟩
 ·by_cases hi:i=id
  ·subst hi;simp only[St.setObj,zO,zI]at hx;subst hx;exact zp
  ·have Vd:J.z6 i=some x:=by simpa[St.setObj,zf _ _ hi]using hx
   exact zn.frame h.ro (h.same hi) (λy hy i' _=>gm i') (zj.heap.z6 i x Vd)
 ·rw[h.tag]at hb;rw[h.size];exact zj.heap.tags b hb
theorem kC.fresh{w w':World}{g g':z8}{J:St}{id b0 m:Nat}{o':Obj}(h:kC w g w' g' id b0)(hid:J.z6 id≠none)(hc:∀y,o'=.cell y->m∉y.ids)(hf:zJ g J m):zJ g' (J.setObj id o') m:=by
 have hm:m≠id:=by intro he;subst he;exact hid hf.z6
 refine⟨by simp only[St.setObj];rw[zf _ _ hm];exact hf.z6,λb p=>by rw[h.tag];exact hf.row b p,λb=>by rw[h.tag];exact hf.box b,hf.zk,λi av hi=>?_⟩;by_cases he:i=id
 ·subst he;simp only[St.setObj,zO,zI]at hi;exact hc av hi
 ·simp only[St.setObj]at hi;rw[zf _ _ he]at hi;exact hf.cells i av hi
theorem jb{w:World}{g:z8}{id b0:Nat}(cs:Array Value)(ZD:(∃p,g.tag b0=.row id p)\/g.tag b0=.box id):kC w g (w.setRow b0 cs) g id b0:=
 ⟨λb hb=>setRow_other w b0 b cs hb,by simp[World.setRow],rfl,rfl,rfl,rfl,ZD,rfl,rfl,λ_ _=>rfl⟩
section
variable {P:Program}{o:Oper}{a:Act}{w:World}{K:Act->World->Prop}{Q:Exit->Act->World->Prop}{c:Ctx}{J:St}{g:z8}{k:St->Option R}{r:R}{base:Nat}{mo:Bool}
theorem ga{T:TypeId}{u:Ty}(hT:qv P u T){b off:Nat}{cc:Array Value}{e:TypeId}{v:Value}{cs:List Value}(hc:w.heap[b]? = some (.cells cc e (0,0)))(hv:v.cells.toList=cs)
  (hl:cs.length=u.size) (hs:off+u.size<=cc.size) (h1:∀x∈cs,x.oneCell'=true) :
  (storeVar T ⟨b,off,none⟩ v).run P w=.ok () (w.setRow b (zD cc.toList off cs).toArray):=by
 have qG:=hT.info.sizeOf w;have Gg:v.cells.size=u.size:=by rw[<-vl,hv,hl]
 have zj:=run_storeCells_at P b off e cs 0 cc w hc (by rw[hl];omega) h1;simp only[TE]at zj;simp[storeVar,qG,Gg,hv,zj,zD]
theorem wp_skip{J':St}{g':z8}{w':World}(hd:o.dst=none)(ze:(execOp a.eval o).run P w=.ok .skip w')(zj:zU c.ntmps g' w' a J')(qf:Ext w g w' g')
  (vO:∀m,(m<base\/base+8<=m)->zJ g J m->zJ g' J' m) (hn:J'.next=J.next) (hk:k J'=some r) (wx:mo=false->vp w w') (hK:vY c.ntmps k r g w J base mo K):o.wp P a w K Q:=by
 unfold Oper.wp;rw[ze,Oper.upon_skip,hd];exact hK J' g' a w' hk zj qf vO hn wx
theorem Rs{id:Nat}{t:Ty}{l:List t.den}{e:Nat}{i:Int}{q:Path}{u:Ty}{d:u.den}{cs:List Value}{f:List t.den->Option R}{b0 j6:Nat}
  (hh:yC w g J.z6) (ho:J.z6 id=some (.row t l e)) (hu:u.zG=true) (zF:zN w g none u d cs)
  (p8:place g id (.sl true t) [] 0 0 (.idx i::q)=some (b0,j6)) (h:jn (.sl true t) l (.idx i::q) u d f=some r) :
  ∃l' cc ee,f l'=some r/\l'.length=l.length/\w.heap[b0]? = some (.cells cc ee (0,0))/\g.tag b0=.row id []/\j6+u.size<=cc.size/\
   zn (w.setRow b0 (zD cc.toList j6 cs).toArray) g (J.setObj id (.row t l' e)).z6 id (.row t l' e):=by
 have zp:=hh.z6 id _ ho;simp only[jn,WZ]at h;obtain⟨x,hx,h⟩:=h;obtain⟨h0,hi,rfl,qk⟩:=jr hx;obtain⟨ad,cap,pe,yZ,K5,Vn,wy⟩:=zp.2;rcases wy with⟨_,hl,_⟩|⟨b,off,cc,ee,rfl,zS,zZ,qG,K9⟩
 ·rw[hl]at hi;simp at hi
 ·have ja:=zN.yJ (o':=none) zp.1 (K9 _ hi);obtain⟨d',o',hk,jO,hr⟩:=Zu zp.1 ja zF h;have ka:place g id (.sl true t) [] 0 0 (.idx i::q)=some (b,off+i.toNat*t.size+o'):=by
   simp only[place,yZ,Ql];exact pY jO
  rw[p8]at ka;simp only[zI,pv]at ka;obtain⟨rfl,rfl⟩:=ka;have hle:=Sk.kZ jO;rw[Ty.zW,Ty.zW]at hle;have Qf:(i.toNat+1)*t.size<=cap*t.size:=kn _ (by omega);rw[kq]at Qf;have uk:cs.length=u.size:=zF.len;have Vo:cc.toList.length=cc.size:=vl;refine⟨_,cc,ee,hk,qJ _ _ _,zZ,zS,by omega,zp.1,some ⟨b0,off,none⟩,cap,?_,?_,?_,Vn,.inr ⟨b0,off,(zD cc.toList (off+i.toNat*t.size+o') cs).toArray,ee,rfl,zS,?_,?_,λj hj=>?_⟩⟩
  ·rw[qJ,yZ]
  ·rw[qJ];exact yZ
  ·rw[qJ];exact K5
  ·exact setRow_heap w b0 cc _ ee _ zZ
  ·rw[Z24,j5 _ _ _ (by rw[uk,Vo];omega),Vo];exact qG
  ·have TJ:zT w g (w.setRow b0 (zD cc.toList (off+i.toNat*t.size+o') cs).toArray) g:=(jb (id:=id) _ (.inl ⟨[],zS⟩)).ro;have Zy:j<l.length:=by rw[qJ]at hj;exact hj
   have He:(j+1)*t.size<=cap*t.size:=kn _ (by omega);rw[kq]at He;rw[Zx];refine zN.yJ zp.1 (o:=none) ?_;by_cases Ze:i.toNat=j
   ·rw[yX Ze];subst Ze;have e:off+i.toNat*t.size+o'=(off+i.toNat*t.size)+o':=rfl;rw[pZ _ _ _ _ _ (by rw[uk];exact hle) (by rw[Vo];omega)];exact hr.kept TJ
   ·rw[qW Ze];have hold:=(zN.yJ (o':=none) zp.1 (K9 j Zy)).kept TJ;rcases Z33 Ze with Vf|SD
    ·have h3:(i.toNat+1)*t.size<=j*t.size:=kn _ Vf;rw[kq]at h3;rw[vu _ _ _ _ _ (by rw[uk];omega) (by rw[uk,Vo];omega)];exact hold
    ·have h3:(j+1)*t.size<=i.toNat*t.size:=kn _ SD;rw[kq]at h3;rw[jy _ _ _ _ _ (by omega) (by rw[Vo];omega)];exact hold
end
end Go.Kz
