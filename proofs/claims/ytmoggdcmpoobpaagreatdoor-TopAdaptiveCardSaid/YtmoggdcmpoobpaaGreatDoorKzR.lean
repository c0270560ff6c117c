/-
  Lengths, addresses, loads.
-/
import Derived.Test.YtmoggdcmpoobpaaGreatDoorKzL
import Derived.MapKept
import Derived.Laws.MakeOwn
set_option linter.unusedVariables false
set_option linter.unusedSimpArgs false
namespace Go.Kz
variable {R:Type}
section
variable {P:Program} {o:Oper} {a:Act} {w:World} {K:Act->World->Prop} {Q:Exit->Act->World->Prop} {c:Ctx} {J:St} {g:z8} {k:St->Option R} {r:R} {base:Nat}
theorem Bu {b:Bool} {x:Option R} {r:R} (h:cond b x none=some r):b=true/\x=some r:=by
 cases b <;> simp_all
theorem qm {b:Bool} {x:Option R} (h:qW b x=some r):b=true/\x=some r:=by
 cases b <;> simp_all [qW]
def z8c (P : Program) (kt : Ty) (K : TypeId) : Prop := qw P kt K /\ (j7 kt = false -> P.stoodInHeld K = false /\ ∀ fs, P.underlying K = some (.struct fs) -> ∀ f ∈ fs.toList, f.name ≠ "_")
def Nr (P:Program) (mt:Nat->Option (Ty×Ty)):Prop:=∀ t kt vt,mt t=some (kt,vt)->∃ K E,P.underlying t=some (.map K E)/\z8c P kt K/\qw P vt E/\∃ i z,P.info? E=some i/\i.zero=some z/\z=vN vt.sk.isAgg z.cells.toList
theorem Ga {J:St} {mt:Option (Ty×Ty)} {a:z7} {f:(id:Nat)->(kt vt:Ty)->List (kt.den×vt.den)->Option R} {r:R} (h:z3i J mt a f=some r) :
  ∃ id kt vt m,a = .qz id/\mt=some (kt,vt)/\J.z6 id=some (.map kt vt m)/\kTy kt=true/\vt.qJ=true/\f id kt vt m=some r:=by
 unfold z3i at h;split at h
 ·rename_i id Aj X9;split at h
  ·rename_i kt vt m zp
   cases hc:((Ty.same kt Aj).isSome && (Ty.same vt X9).isSome && kTy kt && vt.qJ) with
   | false=>rw [hc] at h;simp at h
   | true=>
    rw [hc] at h;simp only [zA,Z38] at hc;obtain ⟨⟨⟨⟨e1,_⟩,⟨e2,_⟩⟩,hk⟩,hv⟩:=hc;obtain rfl:=e1.down;obtain rfl:=e2.down;exact ⟨id,kt,vt,m,rfl,rfl,zp,hk,hv,h⟩
  ·simp at h
 ·simp at h
theorem jE.length {w:World} {g:z8} {kt vt:Ty}:{es:List MapEntry}->{m:List (kt.den×vt.den)}->jE w g kt vt es m->es.length=m.length
 | [],[],_=>rfl
 | _ :: _,(_,_) :: _,⟨_,_,h⟩=>by simp [h.length]
 | [],_ :: _,h=>h.elim
 | _ :: _,[],h=>h.elim
theorem Gk {w:World} {g:z8} {z6:qp} {id:Nat} {v:Value} {kt vt:Ty} {m:List (kt.den×vt.den)} (h:zr w g z6 (.qz id) v) (ho:z6 id=some (.map kt vt m)):v = .map (some (g.qj id)):=by
 simp only [zr] at h;obtain ⟨cs,⟨x,rfl,_,hx⟩,hv⟩:=h;rw [hv];exact hx _ _ _ ho
theorem zjk {args:Array Operand} {ts:Array TypeId} (ho:o.op = .call { callee:=.builtin .len,args:=args,argTypes:=ts }) (kN:gn P c.tt) (hmt:Nr P c.mt)
  (zy:zG c.ntmps g w a J) (h:yG c J base o k=some r):vd P o a w g J c k r:=by
 simp only [yG,ho] at h;split at h
 ·rename_i x t hargs ux;split at h
  ·rename_i av ot u hx Cz;have hT:=kN _ _ Cz;simp only [qw] at hT;obtain ⟨⟨E,qV,_⟩,_⟩:=hT;obtain ⟨ex,ef⟩:=qF zy hx;clear ef;have key:∃ n:Nat,(∃ b cp,a.eval x = .slice b n cp)/\n<=maxLen/\(J.y6 c o.dst (.data (.int .i64) (n:Int)) k=some r):=by
    unfold zp7 at h;split at h
    ·have:=QU.1 ex;exact ⟨0,⟨none,0,this⟩,jt _,h⟩
    ·rename_i ow t' l;simp only [zr] at ex;obtain ⟨cs,⟨qu,zC⟩,hv⟩:=ex
     cases ow with
     | true=>simp [Ty.zW] at qu
     | false=>
      obtain ⟨b,cp,rfl,h1,h2,_⟩:=zC;exact ⟨_,⟨b,cp,hv⟩,by omega,h⟩
    ·obtain ⟨t',l,zp,rfl,_,h⟩:=kj zy.heap h;simp only [zr] at ex;obtain ⟨cs,⟨v,rfl,qE,hv⟩,jd⟩:=ex;have e1:=(hv _ _ _ zp).2 rfl;obtain ⟨b,cp,_,qf,h1,h2,_⟩:=(zy.heap.z6 _ _ zp).2;refine ⟨l.length,⟨b,cp,?_⟩,by omega,h⟩;rw [<-qf,<-e1];exact jd
    ·rename_i id p ep av bv;obtain ⟨t',l,zp,rfl,_,h⟩:=kj zy.heap h;simp only [zr] at ex;obtain ⟨cs,⟨v,rfl,qE,hv⟩,jd⟩:=ex;obtain ⟨_,h0,Jq,QH,e1⟩:=(hv _ _ _ zp).2 rfl;obtain ⟨b,cp,_,qf,h1,h2,_⟩:=(zy.heap.z6 _ _ zp).2;refine ⟨(bv-av).toNat,⟨if cp-av.toNat=0 then b else b.map (·.add (av.toNat*t'.size)),cp-av.toNat,?_⟩,by omega,?_⟩
     ·rw [jd];show v=_;rw [e1,qf];rfl
     ·rw [Z2v (by omega)];exact h
    ·obtain ⟨t',l0,e,i,v',l,zp,IM,zC,h,_,_⟩:=Uv zy.heap h;simp only [zr] at ex;obtain ⟨cs,⟨v,rfl,qE,hv⟩,jd⟩:=ex;have e1:=((hv _ _ _ _ _ zp).2 IM).1 rfl;obtain ⟨b,cp,_,qf,h1,h2,_⟩:=zC;refine ⟨l.length,⟨b,cp,?_⟩,by omega,h⟩;rw [<-qf,<-e1];exact jd
    ·simp at h
   obtain ⟨n,⟨b,cp,hv⟩,hn,h⟩:=key;refine QD (v:=.int .i64 n) ?_ (vB ?_) (fun m _=>by simp [z7.ids]) h
   ·intro w' _;have e1:args = #[x]:=by apply Fm.1;simpa using hargs
    have e2:ts = #[t]:=by apply Fm.1;simpa using ux
    subst e1;subst e2;simp [execOp,ho,resolve,invoke,builtin,Builtin.len_,run_underlying qV,hv,goInt]
   ·simp only [maxLen] at hn;simp only [IntKind.min,IntKind.max,IntKind.bits,IntKind.signed];simp;omega
  ·rename_i l hx Cz;have hT:=kN _ _ Cz;simp only [qw] at hT;obtain ⟨s,hv,hl,hs⟩:=Gw (l:=l) (qF zy hx).1;subst hl;have qC:s.data.toList.length=s.size:=vf;refine QD (v:=.int .i64 s.size) ?_ (by rw [qC];refine vB ?_;simp only [maxLen] at hs;simp only [IntKind.min,IntKind.max,IntKind.bits,IntKind.signed];simp;omega) (fun m _=>by simp [z7.ids]) h;intro w' _;have e1:args = #[x]:=by apply Fm.1;simpa using hargs
   have e2:ts = #[t]:=by apply Fm.1;simpa using ux
   subst e1;subst e2;simp [execOp,ho,resolve,invoke,builtin,Builtin.len_,run_underlying hT.1,hv,goInt]
  ·rename_i av hx Cz _;obtain ⟨id,kt,vt,m,rfl,N9,zp,_,_,h⟩:=Ga h;obtain ⟨hlen,h⟩:=qm h;obtain ⟨K,E,qV,_,_⟩:=hmt _ _ _ N9;obtain ⟨ex,_⟩:=qF zy hx;obtain ⟨es,ck,hblk,zM,_,_,zC,_⟩:=zy.heap.z6 _ _ zp;have hv:=Gk ex zp;have hl:=zC.length;have qx:g.qj id < w.heap.size:=zy.heap.tags _ (by rw [zM];simp);refine QD (v:=.int .i64 m.length) ?_ (vB ?_) (fun m _=>by simp [z7.ids]) h
   ·intro w' ve;replace ve:=ve (by simp [isP,ho]);have e1:args = #[x]:=by apply Fm.1;simpa using hargs
    have e2:ts = #[t]:=by apply Fm.1;simpa using ux
    subst e1;subst e2;have Z6:w'.heap[g.qj id]? = some (.map es ck):=by rw [ve _ qx];exact hblk
    have qC:es.size=m.length:=by rw [<-hl,vf]
    have hg:(getObj (g.qj id)).run P w' = .ok (.map es ck) w':=by simp [getObj,Sem.run,Z6]
    simp [execOp,ho,resolve,invoke,builtin,Builtin.len_,run_underlying qV,hv,goInt,hg,qC]
   ·have:m.length<=room:=by simpa using hlen
    simp only [room] at this;simp only [IntKind.min,IntKind.max,IntKind.bits,IntKind.signed];simp;omega
  ·simp at h
 ·simp at h
theorem yF.sizeOf {T:TypeId} {t:Ty} (h:yF P T t) (w:World):(sizeOf T).run P w = .ok t.size w:=by
 obtain ⟨i,z,hi,hs,_⟩:=h.info;simp [Go.sizeOf,typeInfo,hi,hs]
theorem run_indexAt_slice {T E:TypeId} {t:Ty} (hT:P.underlying T=some (.slice E)) (hE:yF P E t) (b off len cap:Nat) (ki:IntKind) (i:Int) (h0:0<=i) (h1:i < len) (w:World) :
  (Instr.indexAt T (.slice (some ⟨b,off,none⟩) len cap) (.int ki i)).run P w = .ok (.pointer (some ⟨b,off+i.toNat*t.size,none⟩)) w:=by
 have hs:=hE.sizeOf w;simp [Instr.indexAt,asIntOf,run_underlying hT,h0,h1,hs,Addr.add_lit]
theorem uv {T E:TypeId} {t:Ty} {n:Nat} (hT:P.underlying T=some (.array n E)) (hE:yF P E t) (b off:Nat) (ki:IntKind) (i:Int) (h0:0<=i) (h1:i < n) (w:World) :
  (Instr.indexAt T (.pointer (some ⟨b,off,none⟩)) (.int ki i)).run P w = .ok (.pointer (some ⟨b,off+i.toNat*t.size,none⟩)) w:=by
 have hs:=hE.sizeOf w;simp [Instr.indexAt,Instr.sureAddr,asIntOf,run_underlying hT,h0,h1,hs,Addr.add_lit]
theorem Kw {I:Type} {l:List I} {i:Int} (h:vU l i=true):0<=i/\i < (l.length:Int):=by
 simpa [vU] using h
theorem C5 {t:TypeId} {x i:Operand} {id:Nat} {p:Path} {ep:Nat} {ow':Bool} {u':Ty} {j:Int} {ki:IntKind} (hT:qw P (.sl ow' u') t) (ho:o.op = .indexAddr t x i) (zy:zG c.ntmps g w a J)
  (hx:ev J x=some (.nv false id p ep)) (vi:a.eval i = .int ki j) (ef:∀ m,zJ g J m->m∉(z7.nv false id p ep).ids) (ex:zr w g J.z6 (.nv false id p ep) (a.eval x))
  (h:(Xm J id p ep fun t l=>cond (t.sk.same u'.sk) (qW (vU l j) (J.y6 c o.dst (.nv true id (p++[.idx j]) (Uu J id)) k)) none)=some r):vd P o a w g J c k r:=by
 simp only [qw] at hT;obtain ⟨⟨E,qV,hE⟩,_⟩:=hT;obtain ⟨t0,l0,e0,i0,t',l,zp,IM,zC,h,hq,xx,gV⟩:=Uv zy.heap h
 cases hs:t'.sk.same u'.sk with
 | false=>rw [hs] at h;simp at h
 | true=>
  rw [hs] at h;have wG:=Sk.qg hs;have qC:u'.size=t'.size:=by rw [<-Ty.zQ,<-Ty.zQ,wG]
  simp only [zB] at h;obtain ⟨V8,h⟩:=qm h;obtain ⟨h0,qx⟩:=Kw V8;simp only [zr] at ex;obtain ⟨cs,⟨v,rfl,qE,hv⟩,jd⟩:=ex;have e1:=((hv _ _ _ _ _ zp).2 IM).1 rfl;obtain ⟨ad,cp,_,qf,h1,h2,h3⟩:=zC;rcases h3 with ⟨_,hl,_⟩ | ⟨bk,off,cc,e,rfl,zM,zY,Ph,js⟩
  ·rw [hl] at qx;simp at qx;omega
  ·have xP:a.eval x = .slice (some ⟨bk,off,none⟩) l.length cp:=by rw [<-qf,<-e1];exact jd
   refine QD (v:=.pointer (some ⟨bk,off+j.toNat*t'.size,none⟩)) ?_ ?_ (fun m hm=>by have:=ef m hm;simpa [z7.ids] using this) h
   ·intro w' _;simp [execOp,ho,xP,vi,run_indexAt_slice qV hE.info bk off _ cp ki j h0 qx w',qC]
   ·simp only [zr];refine ⟨_,⟨_,rfl,rfl,fun t1 l1 e1 i1 h1 qc=>?_⟩,rfl⟩;rw [zp] at qc;simp only [zI,Obj.nest.injEq] at qc;obtain ⟨rfl,_,rfl,rfl,_⟩:=qc;have V8:Uu J id=i0:=by simp [Uu,zp]
    rw [V8];refine ⟨yN _,fun _=>⟨fun h=>(by simp at h),fun _=>⟨by simp,bk,off+j.toNat*t'.size,gg (x:=xx) hq gV (by simpa using qf),rfl⟩⟩⟩
theorem C6 {t:TypeId} {x i:Operand} {id:Nat} {ep:Nat} {ow':Bool} {u':Ty} {j:Int} {ki:IntKind} (hT:qw P (.sl ow' u') t) (ho:o.op = .indexAddr t x i) (zy:zG c.ntmps g w a J)
  (vi:a.eval i = .int ki j) (ef:∀ m,zJ g J m->m∉(z7.nv false id [] ep).ids) (ex:zr w g J.z6 (.nv false id [] ep) (a.eval x))
  (h:(z4r J id ep u' j fun v=>J.y6 c o.dst v k)=some r):vd P o a w g J c k r:=by
 simp only [qw] at hT;obtain ⟨⟨E,qV,hE⟩,_⟩:=hT;unfold z4r at h;split at h
 ·rename_i t' l e n hp zp
  cases hs:(Nat.beq e ep && t'.sk.same u'.sk) with
  | false=>rw [hs] at h;simp at h
  | true=>
   rw [hs] at h;simp only [zA] at hs;have IS:=zE hs.1;subst IS;have wG:=Sk.qg hs.2;have qC:u'.size=t'.size:=by rw [<-Ty.zQ,<-Ty.zQ,wG]
   simp only [zB] at h;obtain ⟨V8,h⟩:=qm h;obtain ⟨h0,qx⟩:=Kw V8;simp only [zr] at ex;obtain ⟨cs,⟨v,rfl,qE,hv⟩,jd⟩:=ex;have e1:=((hv _ _ _ _ _ zp).2 rfl).1 rfl;obtain ⟨⟨bk,off,cp,qf⟩,_⟩:=zy.heap.z6 _ _ zp;have xP:a.eval x = .slice (some ⟨bk,off,none⟩) l.length cp:=by rw [<-qf,<-e1];exact jd
   refine QD (v:=.pointer (some ⟨bk,off+j.toNat*t'.size,none⟩)) ?_ ?_ (fun m hm=>by have:=ef m hm;simpa [z7.ids] using this) h
   ·intro w' _;simp [execOp,ho,xP,vi,run_indexAt_slice qV hE.info bk off _ cp ki j h0 qx w',qC]
   ·simp only [zr];refine ⟨_,⟨_,rfl,rfl,fun t1 l1 e1 i1 h1 qc=>?_⟩,rfl⟩;rw [zp] at qc;simp only [zI,Obj.nest.injEq] at qc;obtain ⟨rfl,_,rfl,rfl,_⟩:=qc;refine ⟨yN _,fun _=>⟨fun h=>(by simp at h),fun _=>⟨by simp,bk,off+j.toNat*t'.size,?_,rfl⟩⟩⟩;exact gg (p:=[]) (x:=(0,0)) rfl (by simp [place]) (by simpa using qf)
 ·simp at h
theorem L5:{u:Ty}->{fs:List Field}->{yC i:Nat}->jo P u fs yC->(v8 u (qA i)).isSome=true->
  ∃ f s,fs[i]? = some f/\v8 u (qA i)=some s/\qw P s f.type/\∃ o,u.sk.off (qA i)=some (o,s.sk)/\yC+o=f.offset
 | .pair a b,f :: fs,yC,0,h,hi=>by
  simp only [jo] at h
  exact ⟨f,a,rfl,by simp [qA,v8],h.2.1,0,by simp [qA,Ty.sk,Sk.off],by rw [h.1];omega⟩
 | .pair a b,f :: fs,yC,i+1,h,hi=>by
  simp only [jo] at h;simp only [qA,v8] at hi;obtain ⟨f',s,h1,h2,h3,o,h4,h5⟩:=L5 h.2.2 hi;refine ⟨f',s,by simpa using h1,by simpa [qA,v8] using h2,h3,a.size+o,?_,by omega⟩
  simp [qA,Ty.sk,Sk.off,h4,Ty.zQ]
 | .pair _ _,[],_,_,h,_=>by simp [jo] at h
 | .unit,_,_,i,_,hi=>by cases i <;> simp [qA,v8] at hi
 | .int _,_,_,_,h,_=>by simp [jo] at h
 | .bool,_,_,_,h,_=>by simp [jo] at h
 | .str,_,_,_,h,_=>by simp [jo] at h
 | .arr _ _,_,_,_,h,_=>by simp [jo] at h
 | .sl _ _,_,_,_,h,_=>by simp [jo] at h
 | .ptr _,_,_,_,h,_=>by simp [jo] at h
 | .fn _ _,_,_,_,h,_=>by simp [jo] at h
 | .tree _,_,_,_,h,_=>by simp [jo] at h
theorem SS {u:Ty} {i:Nat} (h:(v8 u (qA i)).isSome=true):∃ a b,u = .pair a b:=by
 cases u with
 | pair a b=>exact ⟨a,b,rfl⟩
 | _=>cases i <;> simp [qA,v8] at h
theorem pM {T:TypeId} {u:Ty} {i:Nat} (hT:qw P u T) (hi:(v8 u (qA i)).isSome=true) (b off:Nat) :
  ∃ o s,u.sk.off (qA i)=some (o,s)/\∀ w,(Instr.fieldAt T (.pointer (some ⟨b,off,none⟩)) i).run P w = .ok (.pointer (some ⟨b,off+o,none⟩)) w:=by
 obtain ⟨x,y,rfl⟩:=SS hi;simp only [qw] at hT;obtain ⟨⟨fs,qV,Eo⟩,_⟩:=hT;obtain ⟨f,s,h1,h2,h3,o,h4,h5⟩:=L5 Eo hi;refine ⟨o,s.sk,h4,fun w=>?_⟩;have hf:fs[i]? = some f:=by rw [<-Z2b];exact h1
 obtain ⟨inf,z,Gn,VU,_,_,_,Cj⟩:=h3.info.info;have je:¬ inf.size=0:=by omega
 have ho:f.offset=o:=by omega
 simp [Instr.fieldAt,Instr.sureAddr,run_underlying qV,hf,fieldPlace,Go.sizeOf,typeInfo,Gn,je,Addr.add_lit,ho]
theorem Jc:{t:Ty}->{d:t.den}->{p:Path}->{f:(u:Ty)->u.den->Option R}->t.zW=true->zb t d p f=some r->(v8 t p).isSome=true
 | t,d,[],f,_,_=>by simp [v8]
 | .pair a b,(x,y),.fst :: p,f,ht,h=>by simp only [zb] at h;simp only [Ty.zW,zA] at ht;simp only [v8];exact Jc ht.1 h
 | .pair a b,(x,y),.snd :: p,f,ht,h=>by simp only [zb] at h;simp only [Ty.zW,zA] at ht;simp only [v8];exact Jc ht.2 h
 | .arr n t,l,.idx i :: p,f,ht,h=>by
  simp only [zb,WB] at h;obtain ⟨x,_,h⟩:=h
  simp only [v8];exact Jc (by simpa [Ty.zW] using ht) h
 | .sl true t,l,.idx i :: p,_,ht,h=>by simp [Ty.zW] at ht
 | .sl false t,l,s :: p,_,_,h=>by cases s <;> simp [zb] at h
 | .sl true t,l,.fst :: p,_,_,h=>by simp [zb] at h
 | .sl true t,l,.snd :: p,_,_,h=>by simp [zb] at h
 | .int _,_,s :: _,_,_,h=>by cases s <;> simp [zb] at h
 | .bool,_,s :: _,_,_,h=>by cases s <;> simp [zb] at h
 | .str,_,s :: _,_,_,h=>by cases s <;> simp [zb] at h
 | .unit,_,s :: _,_,_,h=>by cases s <;> simp [zb] at h
 | .ptr _,_,s :: _,_,_,h=>by cases s <;> simp [zb] at h
 | .fn _ _,_,s :: _,_,_,h=>by cases s <;> simp [zb] at h
 | .tree _,_,s :: _,_,_,h=>by cases s <;> simp [zb] at h
 | .pair _ _,_,.idx _ :: _,_,_,h=>by simp [zb] at h
 | .arr _ _,_,.fst :: _,_,_,h=>by simp [zb] at h
 | .arr _ _,_,.snd :: _,_,_,h=>by simp [zb] at h
theorem Zo:{t u:Ty}->{p:Path}->t.sk=u.sk->(v8 t p).isSome=true->(v8 u p).isSome=true
 | _,_,[],_,_=>by simp [v8]
 | .pair a b,.pair c d,.fst :: p,hs,h=>by simp only [Ty.sk,Sk.pair.injEq] at hs;simp only [v8] at h ⊢;exact Zo hs.1 h
 | .pair a b,.pair c d,.snd :: p,hs,h=>by simp only [Ty.sk,Sk.pair.injEq] at hs;simp only [v8] at h ⊢;exact Zo hs.2 h
 | .arr n t,.arr m u,.idx i :: p,hs,h=>by simp only [Ty.sk,Sk.arr.injEq] at hs;simp only [v8] at h ⊢;exact Zo hs.2 h
 | .pair a b,u,.fst :: p,hs,h=>by cases u <;> simp [Ty.sk] at hs;simp only [v8] at h ⊢;exact Zo hs.1 h
 | .pair a b,u,.snd :: p,hs,h=>by cases u <;> simp [Ty.sk] at hs;simp only [v8] at h ⊢;exact Zo hs.2 h
 | .arr n t,u,.idx i :: p,hs,h=>by cases u <;> simp [Ty.sk] at hs;simp only [v8] at h ⊢;exact Zo hs.2 h
 | .int _,_,s :: _,_,h=>by cases s <;> simp [v8] at h
 | .bool,_,s :: _,_,h=>by cases s <;> simp [v8] at h
 | .str,_,s :: _,_,h=>by cases s <;> simp [v8] at h
 | .unit,_,s :: _,_,h=>by cases s <;> simp [v8] at h
 | .ptr _,_,s :: _,_,h=>by cases s <;> simp [v8] at h
 | .fn _ _,_,s :: _,_,h=>by cases s <;> simp [v8] at h
 | .tree _,_,s :: _,_,h=>by cases s <;> simp [v8] at h
 | .sl _ _,_,s :: _,_,h=>by cases s <;> simp [v8] at h
 | .pair _ _,_,.idx _ :: _,_,h=>by simp [v8] at h
 | .arr _ _,_,.fst :: _,_,h=>by simp [v8] at h
 | .arr _ _,_,.snd :: _,_,h=>by simp [v8] at h
theorem xY {id:Nat} {p:Path} {ep:Nat} {f:(u:Ty)->u.den->Option R} (h:pC J id p ep f=some r):∃ t l,J.z6 id=some (.row t l ep):=by
 unfold pC at h;split at h
 ·rename_i t l e ho
  cases hb:Nat.beq e ep with
  | false=>rw [hb] at h;simp at h
  | true=>exact ⟨t,l,by rw [ho,zE hb]⟩
 ·simp at h
theorem jN {id:Nat}:{t:Ty}->{pre:Path}->{b off:Nat}->{p q:Path}->{b' YK o:Nat}->{s s':Sk}->
  place g id t pre b off p=some (b',YK)->V1 t p=some s->s.off q=some (o,s')->place g id t pre b off (p++q)=some (b',YK+o)
 | t,pre,b,off,[],q,b',YK,o,s,s',h,hs,hq=>by
  simp only [place,zI,gP] at h;obtain ⟨rfl,rfl⟩:=h;simp only [V1,zI] at hs;subst hs
  exact px hq
 | .pair a c,pre,b,off,.fst :: p,q,b',YK,o,s,s',h,hs,hq=>by
  simp only [place,xA,V1] at h hs ⊢;exact jN h hs hq
 | .pair a c,pre,b,off,.snd :: p,q,b',YK,o,s,s',h,hs,hq=>by
  simp only [place,xA,V1] at h hs ⊢;exact jN h hs hq
 | .arr n t,pre,b,off,.idx i :: p,q,b',YK,o,s,s',h,hs,hq=>by
  simp only [place,xA,V1] at h hs ⊢;exact jN h hs hq
 | .sl true t,pre,b,off,.idx i :: p,q,b',YK,o,s,s',h,hs,hq=>by
  simp only [place,xA,V1] at h hs ⊢;split at h
  ·exact jN h hs hq
  ·simp at h
 | .sl false t,_,_,_,s :: _,_,_,_,_,_,_,h,_,_=>by cases s <;> simp [place] at h
 | .sl true t,_,_,_,.fst :: _,_,_,_,_,_,_,h,_,_=>by simp [place] at h
 | .sl true t,_,_,_,.snd :: _,_,_,_,_,_,_,h,_,_=>by simp [place] at h
 | .int _,_,_,_,s :: _,_,_,_,_,_,_,h,_,_=>by cases s <;> simp [place] at h
 | .bool,_,_,_,s :: _,_,_,_,_,_,_,h,_,_=>by cases s <;> simp [place] at h
 | .str,_,_,_,s :: _,_,_,_,_,_,_,h,_,_=>by cases s <;> simp [place] at h
 | .unit,_,_,_,s :: _,_,_,_,_,_,_,h,_,_=>by cases s <;> simp [place] at h
 | .ptr _,_,_,_,s :: _,_,_,_,_,_,_,h,_,_=>by cases s <;> simp [place] at h
 | .fn _ _,_,_,_,s :: _,_,_,_,_,_,_,h,_,_=>by cases s <;> simp [place] at h
 | .tree _,_,_,_,s :: _,_,_,_,_,_,_,h,_,_=>by cases s <;> simp [place] at h
 | .pair _ _,_,_,_,.idx _ :: _,_,_,_,_,_,_,h,_,_=>by simp [place] at h
 | .arr _ _,_,_,_,.fst :: _,_,_,_,_,_,_,h,_,_=>by simp [place] at h
 | .arr _ _,_,_,_,.snd :: _,_,_,_,_,_,_,h,_,_=>by simp [place] at h
end
end Go.Kz
namespace Go.Kz
variable {R:Type}
theorem CC:(t:Ty)->(z0q t).size=t.size
 | .tree k=>(XF k).symm
 | .int _ | .bool | .str | .unit | .pair _ _ | .arr _ _ | .sl _ _ | .ptr _ | .fn _ _=>rfl
theorem z0r:(t:Ty)->(d:t.den)->(zat t d).ids=[]
 | .tree _,_ | .int _,_ | .bool,_ | .str,_ | .unit,_ | .pair _ _,_ | .arr _ _,_ | .sl _ _,_ | .ptr _,_ | .fn _ _,_=>rfl
theorem zas {w:World} {g:z8} {ob:qp} {v:Value}:{t:Ty}->{d:t.den}->zr w g ob (.data (.ptr t) d) v->zr w g ob (zat t d) v
 | .tree k,x,h=>by
  simp only [zr] at h;simp only [zat,zr];obtain ⟨cs,⟨qu,b,off,c,e,fz,rfl,ht,hb,hs,hr⟩,hv⟩:=h;have hz:(Ty.tree k).size=(Ty.pair (uF k) (uE k)).size:=XF k;rw [hz] at hs hr
  exact ⟨_,⟨z1w k,b,off,c,e,fz,rfl,ht,hb,hs,zH.WO.1 hr⟩,hv⟩
 | .int _,_,h | .bool,_,h | .str,_,h | .unit,_,h | .pair _ _,_,h | .arr _ _,_,h | .sl _ _,_,h | .ptr _,_,h | .fn _ _,_,h=>h
section
variable {P:Program} {o:Oper} {a:Act} {w:World} {K:Act->World->Prop} {Q:Exit->Act->World->Prop} {c:Ctx} {J:St} {g:z8} {k:St->Option R} {r:R} {base:Nat}
theorem z2e (kN:gn P c.tt) {t:TypeId} {x i:Operand} (ho:o.op = .indexAddr t x i) (zy:zG c.ntmps g w a J) (h:yG c J base o k=some r):vd P o a w g J c k r:=by
 simp only [yG,ho] at h;split at h
 ·rename_i av ki j u hx hi hu;have hT:=kN _ _ hu;obtain ⟨ex,ef⟩:=qF zy hx;obtain ⟨vi,_⟩:=jT (qF zy hi).1;unfold z4a at h;split at h
  ·-- read-only slice
   rename_i ow t' l ow' u';simp only [qw] at hT;obtain ⟨⟨E,qV,hE⟩,_⟩:=hT
   cases hs:(z0q t').sk.same u'.sk with
   | false=>rw [hs] at h;simp at h
   | true=>
    rw [hs] at h;have wG:=Sk.qg hs;have qC:u'.size=t'.size:=by rw [<-CC t',<-Ty.zQ,<-Ty.zQ,wG]
    simp only [zB,WB] at h;obtain ⟨d,hd,h⟩:=h;obtain ⟨h0,wT,rfl,qx⟩:=ji hd;simp only [zr] at ex;obtain ⟨cs,⟨qu,zC⟩,hv⟩:=ex
    cases ow with
    | true=>simp [Ty.zW] at qu
    | false=>
     obtain ⟨b,cp,rfl,h1,h2,h3⟩:=zC;obtain ⟨bk,off,cc,e,fz,rfl,zM,zY,Ph,js⟩:=h3 (by intro hn;rw [hn] at wT;simp at wT);have jd:a.eval x = .slice (some ⟨bk,off,none⟩) (List.length l) cp:=hv;refine QD (v:=.pointer (some ⟨bk,off+j.toNat*t'.size,none⟩)) ?_ ?_ (fun m _=>by simp [z0r]) h
     ·intro w' _;simp [execOp,ho,jd,vi,run_indexAt_slice qV hE.info bk off _ cp ki j h0 qx w',qC]
     ·refine zas ?_;simp only [zr];refine ⟨_,⟨by simpa [Ty.zW] using qu,bk,off+j.toNat*t'.size,cc,e,fz,rfl,zM,zY,?_,js _ wT⟩,rfl⟩;have:(j.toNat+1)*t'.size<=List.length l*t'.size:=kn _ wT;rw [wB] at this;omega
  ·-- pointer to a read-only array
   rename_i n t' l m u';simp only [qw] at hT;obtain ⟨⟨E,qV,hE⟩,_⟩:=hT
   cases hs:(Nat.beq n m && t'.sk.same u'.sk) with
   | false=>rw [hs] at h;simp at h
   | true=>
    rw [hs] at h;simp only [zA] at hs;have Zl:n=m:=zE hs.1;subst Zl;have wG:=Sk.qg hs.2;have qC:u'.size=t'.size:=by rw [<-Ty.zQ,<-Ty.zQ,wG]
    simp only [zB,WB] at h;obtain ⟨d,hd,h⟩:=h;rw [zce] at hd;obtain ⟨h0,wT,rfl,qx⟩:=ji hd;simp only [zr] at ex;obtain ⟨cs,⟨qu,bk,off,cc,e,fz,rfl,zM,zY,Ph,hl,gE,js⟩,hv⟩:=ex;have jd:a.eval x = .pointer (some ⟨bk,off,none⟩):=hv;have VP:j.toNat < n:=by rw [<-hl];exact wT
    have hmul:(j.toNat+1)*t'.size<=n*t'.size:=kn _ VP;rw [wB] at hmul;simp only [Ty.size] at Ph;refine QD (v:=.pointer (some ⟨bk,off+j.toNat*t'.size,none⟩)) ?_ ?_ (fun m _=>by simp [z7.ids]) h
    ·intro w' _;simp [execOp,ho,jd,vi,uv qV hE.info bk off ki j h0 (by omega) w',qC]
    ·simp only [zr];refine ⟨_,⟨by simpa [Ty.zW] using qu,bk,off+j.toNat*t'.size,cc,e,fz,rfl,zM,zY,by omega,?_⟩,rfl⟩;have:=js _ wT;simp only [Ty.size] at this;rw [pP _ _ _ _ _ (by omega)] at this;exact this
  ·-- a row of zoz own
   rename_i id p ep ow' u';simp only [qw] at hT;obtain ⟨⟨E,qV,hE⟩,_⟩:=hT;obtain ⟨t',l,zp,rfl,qu,h⟩:=kj zy.heap h
   cases hs:t'.sk.same u'.sk with
   | false=>rw [hs] at h;simp at h
   | true=>
    rw [hs] at h;have wG:=Sk.qg hs;have qC:u'.size=t'.size:=by rw [<-Ty.zQ,<-Ty.zQ,wG]
    simp only [zB] at h;obtain ⟨V8,h⟩:=qm h;obtain ⟨h0,qx⟩:=Kw V8;simp only [zr] at ex;obtain ⟨cs,⟨v,rfl,qE,hv⟩,jd⟩:=ex;have e1:=(hv _ _ _ zp).2 rfl;obtain ⟨ad,cp,_,qf,h1,h2,h3⟩:=(zy.heap.z6 _ _ zp).2;rcases h3 with ⟨_,hl,_⟩ | ⟨bk,off,cc,e,rfl,zM,zY,Ph,js⟩
    ·rw [hl] at qx;simp at qx;omega
    ·have xP:a.eval x = .slice (some ⟨bk,off,none⟩) l.length cp:=by rw [<-qf,<-e1];exact jd
     refine QD (v:=.pointer (some ⟨bk,off+j.toNat*t'.size,none⟩)) ?_ ?_ (fun m hm=>by have:=ef m hm;simpa [z7.ids] using this) h
     ·intro w' _;simp [execOp,ho,xP,vi,run_indexAt_slice qV hE.info bk off _ cp ki j h0 qx w',qC]
     ·simp only [zr];refine ⟨_,⟨_,rfl,rfl,fun t1 l1 e1 qc=>?_⟩,rfl⟩;rw [zp] at qc;simp only [zI,Obj.row.injEq] at qc;obtain ⟨rfl,DY,rfl⟩:=qc;refine ⟨yN _,fun _=>⟨by simp,bk,off+j.toNat*t'.size,?_,rfl⟩⟩;simp [place,qf]
  ·-- a part of a row of zoz own
   rename_i id p ep av bv ow' u';simp only [qw] at hT;obtain ⟨⟨E,qV,hE⟩,_⟩:=hT;obtain ⟨t',l,zp,rfl,qu,h⟩:=kj zy.heap h
   cases hs:t'.sk.same u'.sk with
   | false=>rw [hs] at h;simp at h
   | true=>
    rw [hs] at h;have wG:=Sk.qg hs;have qC:u'.size=t'.size:=by rw [<-Ty.zQ,<-Ty.zQ,wG]
    simp only [zB] at h;obtain ⟨V8,h⟩:=qm h;simp only [zA,yR] at V8;obtain ⟨h0,qx⟩:=V8;simp only [zr] at ex;obtain ⟨cs,⟨v,rfl,qE,hv⟩,jd⟩:=ex;obtain ⟨_,ha0,Jq,QH,e1⟩:=(hv _ _ _ zp).2 rfl;obtain ⟨ad,cp,_,qf,h1,h2,h3⟩:=(zy.heap.z6 _ _ zp).2;rcases h3 with ⟨_,hl,_⟩ | ⟨bk,off,cc,e,rfl,zM,zY,Ph,js⟩
    ·rw [hl] at QH;simp at QH;omega
    ·have xP:a.eval x = .slice (some ⟨bk,off+av.toNat*t'.size,none⟩) (bv-av).toNat (cp-av.toNat):=by
      rw [jd];show v=_;rw [e1,qf];simp only [jq];rw [qZ (by omega)];simp [Addr.add_lit]
     refine QD (v:=.pointer (some ⟨bk,off+(av+j).toNat*t'.size,none⟩)) ?_ ?_ (fun m hm=>by have:=ef m hm;simpa [z7.ids] using this) h
     ·intro w' _;have q1g:∀ x:Int,x < bv-av->x < (((bv-av).toNat:Nat):Int):=fun x hx=>by omega
      have hj3:=q1g j qx;have e3:off+av.toNat*t'.size+j.toNat*t'.size=off+(av+j).toNat*t'.size:=by
       have:(av+j).toNat=av.toNat+j.toNat:=by omega
       rw [this,wB];omega
      simp [execOp,ho,xP,vi,run_indexAt_slice qV hE.info bk _ _ (cp-av.toNat) ki j h0 hj3 w',qC,e3]
     ·simp only [zr];refine ⟨_,⟨_,rfl,rfl,fun t1 l1 e1 qc=>?_⟩,rfl⟩;rw [zp] at qc;simp only [zI,Obj.row.injEq] at qc;obtain ⟨rfl,DY,rfl⟩:=qc;refine ⟨yN _,fun _=>⟨by simp,bk,off+(av+j).toNat*t'.size,?_,rfl⟩⟩;simp [place,qf]
  ·-- a row of rows,or one of its rows: see below
   rename_i id p ep ow' u'
   cases hb:(noP p && OR J id) with
   | false=>rw [hb] at h;exact C5 hT ho zy hx vi ef ex h
   | true=>
    rw [hb] at h;simp only [zA] at hb
    cases p with
    | nil=>exact C6 hT ho zy vi ef ex h
    | cons s p=>simp [noP] at hb
  ·-- an array zog is a variable
   rename_i id p m u';simp only [qw] at hT;obtain ⟨⟨E,qV,hE⟩,_⟩:=hT;obtain ⟨xc,x',off,cc,e,zp,h2,jZ,zY,zM,hle,J7,zry⟩:=Zd zy.heap h;split at h2
   ·rename_i n t' l
    cases hs:(Nat.beq n m && t'.sk.same u'.sk) with
    | false=>rw [hs] at h2;simp at h2
    | true=>
     rw [hs] at h2;simp only [zA] at hs;have Zl:n=m:=zE hs.1;subst Zl;have wG:=Sk.qg hs.2;have qC:u'.size=t'.size:=by rw [<-Ty.zQ,<-Ty.zQ,wG]
     simp only [zB] at h2;obtain ⟨V8,h2⟩:=qm h2;obtain ⟨h0,qx⟩:=Kw V8;have Em:List.length l=n:=J7.2.1;simp only [zr] at ex;obtain ⟨cs,⟨v,rfl,qE,hv⟩,jd⟩:=ex;obtain ⟨YK,s,kq,pR⟩:=hv _ zp;rw [jZ] at kq;simp only [zI,gP] at kq;obtain ⟨rfl,_⟩:=kq;have xP:a.eval x = .pointer (some ⟨g.qj id,off,none⟩):=by rw [jd];exact pR
     refine QD (v:=.pointer (some ⟨g.qj id,off+j.toNat*t'.size,none⟩)) ?_ ?_ (fun m hm=>by have:=ef m hm;simpa [z7.ids] using this) h2
     ·intro w' _;simp [execOp,ho,xP,vi,uv qV hE.info (g.qj id) off ki j h0 (by omega) w',qC]
     ·simp only [zr];refine ⟨_,⟨_,rfl,rfl,fun x1 qc=>?_⟩,rfl⟩;rw [zp] at qc;simp only [zI,Obj.cell.injEq] at qc;subst qc;rw [Sk.x5 _ jZ];simp only [z7.sk,Ty.sk,Sk.off];rw [yQ ⟨h0,by omega⟩];exact ⟨_,_,rfl,by simp [Ty.zQ]⟩
   ·simp at h2
  ·-- an array zog is an element of a row
   rename_i id p ep m u';simp only [qw] at hT;obtain ⟨⟨E,qV,hE⟩,_⟩:=hT;split at h
   ·simp at h
   ·rename_i s q;obtain ⟨t0,l0,El⟩:=xY h;simp only [zr] at ex;obtain ⟨cs,⟨v,rfl,qE,hv⟩,jd⟩:=ex;obtain ⟨hp,b0,yC,gV,pR⟩:=(hv _ _ _ El).2 rfl;obtain ⟨t1,l1,u1,e1,b,off,cc,ee,DZ,qu,hk,N4,kL,vJ,zM,zY,qC,zC⟩:=ui zy.heap hp h;rw [El] at DZ;simp only [zI,Obj.row.injEq] at DZ;obtain ⟨rfl,_,_⟩:=DZ;rw [gV] at kL;simp only [zI,gP] at kL;obtain ⟨rfl,rfl⟩:=kL;split at hk
    ·rename_i n t' l
     cases hs:(Nat.beq n m && t'.sk.same u'.sk) with
     | false=>rw [hs] at hk;simp at hk
     | true=>
      rw [hs] at hk;simp only [zA] at hs;have Zl:n=m:=zE hs.1;subst Zl;have wG:=Sk.qg hs.2;have Z3:u'.size=t'.size:=by rw [<-Ty.zQ,<-Ty.zQ,wG]
      simp only [zB] at hk;obtain ⟨V8,hk⟩:=qm hk;obtain ⟨h0,qx⟩:=Kw V8;have Em:List.length l=n:=zC.1;have xP:a.eval x = .pointer (some ⟨b0,yC,none⟩):=by rw [jd];exact pR
      refine QD (v:=.pointer (some ⟨b0,yC+j.toNat*t'.size,none⟩)) ?_ ?_ (fun m hm=>by have:=ef m hm;simpa [z7.ids] using this) hk
      ·intro w' _;simp [execOp,ho,xP,vi,uv qV hE.info b0 yC ki j h0 (by omega) w',Z3]
      ·simp only [zr];refine ⟨_,⟨_,rfl,rfl,fun t2 l2 e2 qc=>?_⟩,rfl⟩;rw [El] at qc;simp only [zI,Obj.row.injEq] at qc;obtain ⟨rfl,_,rfl⟩:=qc;refine ⟨yN _,fun _=>⟨by simp,b0,yC+j.toNat*t'.size,?_,rfl⟩⟩;refine jN (s':=t'.sk) gV vJ ?_;simp only [Ty.sk,Sk.off];rw [yQ ⟨h0,by omega⟩];simp [Ty.zQ]
    ·simp at hk
  ·simp at h
 ·simp at h
theorem z2f (kN:gn P c.tt) {t:TypeId} {x:Operand} {i:Nat} (ho:o.op = .fieldAddr t x i) (zy:zG c.ntmps g w a J) (h:yG c J base o k=some r):vd P o a w g J c k r:=by
 simp only [yG,ho] at h;split at h
 ·rename_i av u hx hu;have hT:=kN _ _ hu;obtain ⟨ex,ef⟩:=qF zy hx;unfold z5s at h;split at h
  ·rename_i t' d
   cases hs:t'.sk.same u.sk with
   | false=>rw [hs] at h;simp at h
   | true=>
    rw [hs] at h;simp only [zB] at h;have wG:=Sk.qg hs;simp only [zr] at ex;obtain ⟨cs,⟨qu,b,off,cc,e,fz,rfl,zM,zY,qC,zC⟩,hv⟩:=ex;have jd:a.eval x = .pointer (some ⟨b,off,none⟩):=hv;have pY:t'.zW=true:=by simpa [Ty.zW] using qu
    have vJ:=Zo wG (Jc pY h);obtain ⟨u2,e2,o2,hk,hu2,Dx,Bh⟩:=ZH pY zC h;obtain ⟨o3,s3,OS,zc⟩:=pM hT vJ b off;rw [<-wG,Dx] at OS;simp only [zI,gP] at OS;obtain ⟨rfl,_⟩:=OS;have hle:=Sk.wi Dx;rw [Ty.zQ,Ty.zQ] at hle;refine QD (v:=.pointer (some ⟨b,off+o2,none⟩)) ?_ ?_ (fun m _=>by simp [z7.ids]) hk
    ·intro w' _;simp [execOp,ho,jd,zc]
    ·simp only [zr];refine ⟨_,⟨by simpa [Ty.zW] using hu2,b,off+o2,cc,e,fz,rfl,zM,zY,by omega,?_⟩,rfl⟩;rw [pP _ _ _ _ _ hle] at Bh;exact Bh
  ·rename_i id p;obtain ⟨xc,x',off,cc,e,zp,h2,jZ,zY,zM,hle,J7,zry⟩:=Zd zy.heap h
   cases hs:(x'.sk.same u.sk && (v8 u (qA i)).isSome) with
   | false=>rw [hs] at h2;simp at h2
   | true=>
    rw [hs] at h2;simp only [zB] at h2;simp only [zA] at hs;have wG:=Sk.qg hs.1;simp only [zr] at ex;obtain ⟨cs,⟨v,rfl,qE,hv⟩,jd⟩:=ex;obtain ⟨YK,s,kq,pR⟩:=hv _ zp;rw [jZ] at kq;simp only [zI,gP] at kq;obtain ⟨rfl,_⟩:=kq;have xP:a.eval x = .pointer (some ⟨g.qj id,off,none⟩):=by rw [jd];exact pR
    obtain ⟨o3,s3,OS,zc⟩:=pM hT hs.2 (g.qj id) off;refine QD (v:=.pointer (some ⟨g.qj id,off+o3,none⟩)) ?_ ?_ (fun m hm=>by have:=ef m hm;simpa [z7.ids] using this) h2
    ·intro w' _;simp [execOp,ho,xP,zc]
    ·simp only [zr];refine ⟨_,⟨_,rfl,rfl,fun x1 qc=>?_⟩,rfl⟩;rw [zp] at qc;simp only [zI,Obj.cell.injEq] at qc;subst qc;rw [Sk.x5 _ jZ,wG,OS];exact ⟨_,_,rfl,rfl⟩
  ·rename_i id p ep;split at h
   ·simp at h
   ·rename_i s q;obtain ⟨t0,l0,El⟩:=xY h;simp only [zr] at ex;obtain ⟨cs,⟨v,rfl,qE,hv⟩,jd⟩:=ex;obtain ⟨hp,b0,yC,gV,pR⟩:=(hv _ _ _ El).2 rfl;obtain ⟨t1,l1,u1,e1,b,off,cc,ee,DZ,qu,hk,N4,kL,vJ,zM,zY,qC,zC⟩:=ui zy.heap hp h;rw [El] at DZ;simp only [zI,Obj.row.injEq] at DZ;obtain ⟨rfl,_,_⟩:=DZ;rw [gV] at kL;simp only [zI,gP] at kL;obtain ⟨rfl,rfl⟩:=kL
    cases hs:(u1.sk.same u.sk && (v8 u (qA i)).isSome) with
    | false=>rw [hs] at hk;simp at hk
    | true=>
     rw [hs] at hk;simp only [zB] at hk;simp only [zA] at hs;have wG:=Sk.qg hs.1;have xP:a.eval x = .pointer (some ⟨b0,yC,none⟩):=by rw [jd];exact pR
     obtain ⟨o3,s3,OS,zc⟩:=pM hT hs.2 b0 yC;refine QD (v:=.pointer (some ⟨b0,yC+o3,none⟩)) ?_ ?_ (fun m hm=>by have:=ef m hm;simpa [z7.ids] using this) hk
     ·intro w' _;simp [execOp,ho,xP,zc]
     ·simp only [zr];refine ⟨_,⟨_,rfl,rfl,fun t2 l2 e2 qc=>?_⟩,rfl⟩;rw [El] at qc;simp only [zI,Obj.row.injEq] at qc;obtain ⟨rfl,_,rfl⟩:=qc;refine ⟨yN _,fun _=>⟨by simp,b0,yC+o3,?_,rfl⟩⟩;exact jN gV vJ (by rw [wG];exact OS)
  ·-- an element of a row of rows
   rename_i id p ep
   cases hho:OR J id with
   | true=>
    rw [hho] at h;simp only [zB] at h;unfold zgl at h;split at h
    ·rename_i j t1 l1 e1 i1 q61 zp;have hb:=(Bu h).1;replace h:=(Bu h).2;simp only [zA] at hb;have Gn:=zE hb.1.1;subst Gn;have wG:=Sk.qg hb.1.2;simp only [zr] at ex;obtain ⟨cs,⟨v,rfl,qE,hv⟩,jd⟩:=ex;obtain ⟨hp,b0,yC,gV,pR⟩:=((hv _ _ _ _ _ zp).2 rfl).2 rfl;have xP:a.eval x = .pointer (some ⟨b0,yC,none⟩):=by rw [jd];exact pR
     obtain ⟨o3,s3,OS,zc⟩:=pM hT hb.2 b0 yC;refine QD (v:=.pointer (some ⟨b0,yC+o3,none⟩)) ?_ ?_ (fun m hm=>by have:=ef m hm;simpa [z7.ids] using this) h
     ·intro w' _;simp [execOp,ho,xP,zc]
     ·simp only [zr];refine ⟨_,⟨_,rfl,rfl,fun t2 l2 e2 i2 h2 qc=>?_⟩,rfl⟩;rw [zp] at qc;simp only [zI,Obj.nest.injEq] at qc;obtain ⟨rfl,_,rfl,rfl,_⟩:=qc;refine ⟨yN _,fun _=>⟨fun h=>(by simp at h),fun _=>⟨by simp,b0,yC+o3,?_,rfl⟩⟩⟩;have vJ:V1 (.sl true t1) [.idx j]=some t1.sk:=by simp [V1]
      exact jN gV vJ (by rw [wG];exact OS)
    ·simp at h
   | false=>
   rw [hho] at h;simp only [zU] at h;obtain ⟨t1,l1,e1,i1,zp,IM,zC,hk⟩:=JO zy.heap h;simp only [zr] at ex;obtain ⟨cs,⟨v,rfl,qE,hv⟩,jd⟩:=ex;obtain ⟨hp,b0,yC,gV,pR⟩:=((hv _ _ _ _ _ zp).2 IM).2 rfl
   cases p with
   | nil=>exact absurd rfl hp
   | cons s q=>
    obtain ⟨u1,x1,bh,oh,ch,eh,ph,hk,kL,vJ,_,zM,zY,qC,hr⟩:=x9 zC hk
    cases hs:(u1.sk.same u.sk && (v8 u (qA i)).isSome) with
    | false=>rw [hs] at hk;simp at hk
    | true=>
     rw [hs] at hk;simp only [zB] at hk;simp only [zA] at hs;have wG:=Sk.qg hs.1;have xP:a.eval x = .pointer (some ⟨b0,yC,none⟩):=by rw [jd];exact pR
     obtain ⟨o3,s3,OS,zc⟩:=pM hT hs.2 b0 yC;refine QD (v:=.pointer (some ⟨b0,yC+o3,none⟩)) ?_ ?_ (fun m hm=>by have:=ef m hm;simpa [z7.ids] using this) hk
     ·intro w' _;simp [execOp,ho,xP,zc]
     ·simp only [zr];refine ⟨_,⟨_,rfl,rfl,fun t2 l2 e2 i2 h2 qc=>?_⟩,rfl⟩;rw [zp] at qc;simp only [zI,Obj.nest.injEq] at qc;obtain ⟨rfl,_,rfl,rfl,_⟩:=qc;have Gn:i1=ep:=IM;refine ⟨Z4g Gn.symm,fun _=>⟨fun h=>(by simp at h),fun _=>⟨by simp,b0,yC+o3,?_,rfl⟩⟩⟩;exact jN gV vJ (by rw [wG];exact OS)
  ·simp at h
 ·simp at h
theorem Ce {T:TypeId} {u:Ty} (hT:qw P u T) (w:World):(isAgg T).run P w = .ok u.sk.isAgg w:=by
 unfold isAgg;rw [Sem.run_bind]
 cases u with
 | int _=>simp only [qw] at hT;rw [run_underlying hT.1];rfl
 | bool=>simp only [qw] at hT;rw [run_underlying hT.1];rfl
 | str=>simp only [qw] at hT;rw [run_underlying hT.1];rfl
 | unit=>simp only [qw] at hT
 | pair x y=>simp only [qw] at hT;obtain ⟨⟨fs,h,_⟩,_⟩:=hT;rw [run_underlying h];rfl
 | arr n t=>simp only [qw] at hT;obtain ⟨⟨E,h,_⟩,_⟩:=hT;rw [run_underlying h];rfl
 | sl _ t=>simp only [qw] at hT;obtain ⟨⟨E,h,_⟩,_⟩:=hT;rw [run_underlying h];rfl
 | ptr _=>simp only [qw] at hT;obtain ⟨⟨E,h⟩,_⟩:=hT;rw [run_underlying h];rfl
 | fn _ _=>simp only [qw] at hT;obtain ⟨⟨x,y,z,h⟩ | ⟨x,y,h⟩,_⟩:=hT <;> rw [run_underlying h] <;> rfl
 | tree _=>simp only [qw] at hT;obtain ⟨⟨_,_,fs,h⟩,_⟩:=hT;rw [run_underlying h];rfl
theorem qw.zot {T:TypeId} {u:Ty} (hT:qw P u T) (h:u.sk.isAgg=false):u.size=1:=by
 cases u <;> simp [Ty.sk,Sk.isAgg] at h <;> simp [Ty.size]
theorem Px {T:TypeId} {u:Ty} (hT:qw P u T) {b off:Nat} {cc:Array Value} {e:TypeId} {fz:Nat×Nat} (hc:w.heap[b]? = some (.cells cc e fz)) (hs:off+u.size<=cc.size) :
  (loadVar T ⟨b,off,none⟩).run P w = .ok (vN u.sk.isAgg (qS cc.toList off u.size)) w:=by
 have ve:=Ce hT w;have hlen:(qS cc.toList off u.size).length=u.size:=yW (by rw [vf];exact hs);unfold loadVar;rw [Sem.run_bind,ve]
 cases hu:u.sk.isAgg with
 | true=>
  have hl:=run_loadCells_list (P:=P) w ⟨b,off,none⟩ (qS cc.toList off u.size) (fun j v hv=>by
   rw [Addr.add_lit,cell_of_row w b (off+j) cc e fz hc];simp only [qS,Z2y,Z2c] at hv;split at hv
   ·simpa using hv
   ·simp at hv)
  rw [hlen] at hl;have qC:=hT.info.sizeOf w
  simp [hl,qC,vN]
 | false=>
  have h1:=hT.zot hu;rw [h1] at hs;have zY:w.cell? ⟨b,off,none⟩=some cc[off]:=by
   rw [cell_of_row w b off cc e fz hc];simp [show off < cc.size by omega]
  have zkq:qS cc.toList off u.size=[cc[off]]:=by
   rw [h1];simp only [qS];rw [Z2q (by rw [vf];omega)];simp
  simp [load,Sem.run,zY,zkq,vN]
theorem wK {av:z7} (h:av.val=true):av.isAgg=av.sk.isAgg/\(∀ x y,av≠.pr x y)/\av≠.un/\∀ x,av≠.jV x:=by
 cases av with
 | agg x=>cases x <;> simp [z7.val] at h <;> simp [z7.isAgg,z7.sk,Sk.isAgg]
 | data t d=>simp [z7.isAgg,z7.sk]
 | pr=>simp [z7.val] at h
 | un=>simp [z7.val] at h
 | jV=>simp [z7.val] at h
 | _=>simp [z7.isAgg,z7.sk,Sk.isAgg]
theorem z3m {n:Nat} {av:z7} {xv:Value} {f:z7->Option R} (zy:zG n g w a J) (ex:zr w g J.z6 av xv) (ef:∀ m,zJ g J m->m∉av.ids) (h:Dw J av f=some r) :
  ∃ lv b off cc e fz,xv = .pointer (some ⟨b,off,none⟩)/\w.heap[b]? = some (.cells cc e fz)/\off+lv.sk.size<=cc.size/\
   jK w g J.z6 lv (qS cc.toList off lv.sk.size)/\(∀ m,zJ g J m->m∉lv.ids)/\f lv=some r:=by
 unfold Dw at h;split at h
 ·rename_i t' d;simp only [zr] at ex;obtain ⟨cs,⟨qu,b,off,cc,e,fz,rfl,zM,zY,qC,zC⟩,hv⟩:=ex;exact ⟨.data t' d,b,off,cc,e,fz,hv,zY,by simpa [z7.sk,Ty.zQ] using qC,⟨by simpa [Ty.zW] using qu,by simpa [z7.sk,Ty.zQ] using zC⟩,fun m _=>by simp [z7.ids],h⟩
 ·rename_i id p ep;split at h
  ·simp at h
  ·rename_i s q;obtain ⟨t0,l0,El⟩:=xY h;simp only [zr] at ex;obtain ⟨cs,⟨v,rfl,qE,hv⟩,jd⟩:=ex;obtain ⟨hp,b0,yC,gV,pR⟩:=(hv _ _ _ El).2 rfl;obtain ⟨t1,l1,u1,e1,b,off,cc,ee,DZ,qu,hk,N4,kL,vJ,zM,zY,qC,zC⟩:=ui zy.heap hp h;rw [El] at DZ;simp only [zI,Obj.row.injEq] at DZ;obtain ⟨rfl,_,_⟩:=DZ;rw [gV] at kL;simp only [zI,gP] at kL;obtain ⟨rfl,rfl⟩:=kL;exact ⟨.data u1 e1,b0,yC,cc,ee,(0,0),by rw [jd];exact pR,zY,by simpa [z7.sk,Ty.zQ] using qC,⟨N4,by simpa [z7.sk,Ty.zQ] using zC⟩,fun m _=>by simp [z7.ids],hk⟩
 ·rename_i id p;obtain ⟨xc,y,off,cc,e,zp,h2,jZ,zY,zM,hle,J7,hi⟩:=Zd zy.heap h;simp only [zr] at ex;obtain ⟨cs,⟨v,rfl,qE,hv⟩,jd⟩:=ex;obtain ⟨YK,s,kq,pR⟩:=hv _ zp;rw [jZ] at kq;simp only [zI,gP] at kq;obtain ⟨rfl,_⟩:=kq;exact ⟨y,g.qj id,off,cc,e,(0,0),by rw [jd];exact pR,zY,hle,J7,fun m hm=>hi m (hm.cells _ _ zp),h2⟩
 ·rename_i id p ep;obtain ⟨t1,l1,e1,i1,zp,IM,zC,hk⟩:=JO zy.heap h;simp only [zr] at ex;obtain ⟨cs,⟨v,rfl,qE,hv⟩,jd⟩:=ex;obtain ⟨hp,b0,yC,gV,pR⟩:=((hv _ _ _ _ _ zp).2 IM).2 rfl
  cases p with
  | nil=>exact absurd rfl hp
  | cons s q=>
   obtain ⟨u1,x1,bh,oh,ch,eh,ph,hk,kL,vJ,_,zM,zY,qC,hr⟩:=x9 zC hk;rw [gV] at kL;simp only [zI,gP] at kL;obtain ⟨rfl,rfl⟩:=kL
   cases qu:u1.zW with
   | true=>
    rw [qu] at hk
    exact ⟨.data u1 x1,b0,yC,ch,eh,(0,0),by rw [jd];exact pR,zY,by simpa [z7.sk,Ty.zQ] using qC,⟨qu,by simpa [z7.sk,Ty.zQ] using zH.y9 (o':=none) qu hr⟩,fun m _=>by simp [z7.ids],hk⟩
   | false=>
    rw [qu] at hk;simp only [zU] at hk;split at hk
    ·rename_i v1;obtain ⟨ad,cp,uR,qf,_⟩:=hr;refine ⟨.nv false id (s :: q) ep,b0,yC,ch,eh,(0,0),by rw [jd];exact pR,zY,qC,⟨_,uR,rfl,fun t2 l2 e2 i2 h2 qc=>?_⟩,fun m hm=>by have:=ef m hm;simpa [z7.ids] using this,hk⟩;rw [zp] at qc;simp only [zI,Obj.nest.injEq] at qc;obtain ⟨rfl,_,rfl,rfl,_⟩:=qc;have Gn:i1=ep:=IM;exact ⟨Z4g Gn.symm,fun _=>⟨fun _=>qf.symm,fun h=>(by simp at h)⟩⟩
    ·simp at hk
 ·simp at h
theorem zbn (kN:gn P c.tt) {t:TypeId} {x:Operand} (ho:o.op = .load t x) (zy:zG c.ntmps g w a J) (h:yG c J base o k=some r):vd P o a w g J c k r:=by
 simp only [yG,ho] at h;split at h
 ·rename_i av u hx hu;have hT:=kN _ _ hu;obtain ⟨ex,ef⟩:=qF zy hx;have key:=z3m zy ex ef h;obtain ⟨lv,b,off,cc,e,fz,hv,zY,hle,zS,vT,Kp⟩:=key
  cases hb:(lv.val && u.sk.same lv.sk) with
  | false=>rw [hb] at Kp;simp at Kp
  | true=>
   rw [hb] at Kp;simp only [zB] at Kp;simp only [zA] at hb;have wG:=Sk.qg hb.2;obtain ⟨ve,PG,UJ,TU⟩:=wK hb.1;have qC:u.size=lv.sk.size:=by rw [<-wG,Ty.zQ]
   refine QD (v:=vN u.sk.isAgg (qS cc.toList off u.size)) ?_ ?_ vT Kp
   ·intro w' GZ;replace GZ:=GZ (by simp [isP,ho]);have zc:=Px (P:=P) (w:=w') hT ((GZ b (Z24.1 zY).1).trans zY) (by rw [qC];exact hle);simp [execOp,ho,hv,Instr.loadAt,Instr.sureAddr,zc]
   ·refine yB zS ?_ PG UJ;rw [ve,<-wG,qC,wG]
 ·simp at h
end
end Go.Kz
namespace Go.Kz
variable {R:Type}
structure jJ (g:z8) (Dz:qp) (g':z8) (wE:qp):Prop where
 sv:g'.sv=g.sv
 qj:g'.qj=g.qj
 z6:∀ i,wE i=Dz i\/wE i=none
 tag:∀ b,g'.tag b=g.tag b\/(g'.tag b = .ro/\∃ id,Dz id≠none/\wE id=none/\((∃ p,g.tag b = .row id p)\/g.tag b = .box id))
theorem jJ.refl (g:z8) (z6:qp):jJ g z6 g z6:=⟨rfl,rfl,fun _=>.inl rfl,fun _=>.inl rfl⟩
theorem jJ.trans {g g' g'':z8} {o o' o'':qp} (h:jJ g o g' o') (k:jJ g' o' g'' o''):jJ g o g'' o'':=by
 refine ⟨k.sv.trans h.sv,k.qj.trans h.qj,fun i=>?_,fun b=>?_⟩
 ·rcases k.z6 i with e | e
  ·rw [e];exact h.z6 i
  ·exact .inr e
 ·rcases k.tag b with e | ⟨e,id,hs,hn,ht⟩
  ·rcases h.tag b with e2 | ⟨e2,id,hs,hn,ht⟩
   ·exact .inl (e.trans e2)
   ·refine .inr ⟨e.trans e2,id,hs,?_,ht⟩;rcases k.z6 id with e3 | e3
    ·rw [e3];exact hn
    ·exact e3
  ·rcases h.tag b with e2 | ⟨e2,_,_,_,_⟩
   ·rw [e2] at ht;refine .inr ⟨e,id,fun h0=>?_,hn,ht⟩;rcases h.z6 id with e3 | e3
    ·rw [e3] at hs;exact hs h0
    ·exact hs e3
   ·rw [e2] at ht;rcases ht with ⟨p,ht⟩ | ht <;> simp at ht
theorem jJ.ro {g g':z8} {o o':qp} (h:jJ g o g' o') (w:World):zT w g w g':=
 ⟨fun b hb=>⟨(h.tag b).elim (fun e=>by rw [e,hb]) (fun e=>e.1),rfl⟩⟩
theorem jJ.same {g g':z8} {o o':qp} (h:jJ g o g' o') (w:World) {id:Nat} (hid:o' id≠none):Zh w g w g' id:=by
 refine ⟨⟨fun q=>by rw [h.sv],fun q b hb=>⟨?_,rfl⟩⟩,by rw [h.qj],fun hb=>⟨?_,rfl⟩⟩
 ·rcases h.tag b with e | ⟨_,vY,_,hn,ht⟩
  ·rw [e,hb]
  ·rw [hb] at ht;rcases ht with ⟨p,ht⟩ | ht
   ·simp only [Tag.row.injEq] at ht;rw [<-ht.1] at hn;exact absurd hn hid
   ·simp at ht
 ·rcases h.tag (g.qj id) with e | ⟨_,vY,_,hn,ht⟩
  ·rw [e,hb]
  ·rw [hb] at ht;rcases ht with ⟨p,ht⟩ | ht
   ·simp at ht
   ·simp only [Tag.box.injEq] at ht;rw [<-ht] at hn;exact absurd hn hid
theorem jJ.kept {w:World} {g g':z8} {o o':qp} (h:jJ g o g' o') (hh:yY w g o) (id:Nat):qv g g' id (o id) (o' id):=by
 rcases h.z6 id with e | e
 ·rw [e];by_cases hn:o' id=none
  ·left;rw [<-e];exact hn
  ·exact qv.same (h.same w hn)
 ·exact .inl e
theorem jJ.heap {w:World} {g g':z8} {o o':qp} (h:jJ g o g' o') (hh:yY w g o):yY w g' o':=by
 refine ⟨fun id x hx=>?_,fun b hb=>?_⟩
 ·have hid:o' id≠none:=by rw [hx];simp
  have Gh:o id=some x:=by
   rcases h.z6 id with e | e
   ·rw [<-e];exact hx
   ·exact absurd e hid
  exact zo.frame (h.ro w) (h.same w hid) (fun a ha vY _=>h.kept hh vY) (hh.z6 id x Gh)
 ·refine hh.tags b ?_;rcases h.tag b with e | ⟨_,vY,_,_,ht⟩
  ·rw [<-e];exact hb
  ·rcases ht with ⟨p,ht⟩ | ht <;> rw [ht] <;> simp
theorem jJ.ext {w:World} {g g':z8} {o o':qp} (h:jJ g o g' o'):Ext w g w g':=by
 refine ⟨rfl,rfl,rfl,yN _,yN _,fun b _ ht=>⟨rfl,?_⟩⟩;rcases h.tag b with e | ⟨_,vY,_,_,h2⟩
 ·exact e
 ·rcases h2 with ⟨p,h2⟩ | h2 <;> rw [h2] at ht <;> simp at ht
theorem jJ.fresh {g g':z8} {J J':St} {m:Nat} (h:jJ g J.z6 g' J'.z6) (hs:J'.zk=J.zk) (hf:zJ g J m):zJ g' J' m:=by
 refine ⟨?_,fun b p hb=>?_,fun b hb=>?_,fun i av hi=>hf.zk i av (by rw [<-hs];exact hi),fun id av hi=>hf.cells id av ?_⟩
 ·rcases h.z6 m with e | e
  ·rw [e];exact hf.z6
  ·exact e
 ·rcases h.tag b with e | ⟨e,_⟩
  ·rw [e] at hb;exact hf.row b p hb
  ·rw [e] at hb;simp at hb
 ·rcases h.tag b with e | ⟨e,_⟩
  ·rw [e] at hb;exact hf.box b hb
  ·rw [e] at hb;simp at hb
 ·rcases h.z6 id with e | e
  ·rw [<-e];exact hi
  ·rw [e] at hi;simp at hi
theorem jJ.st {n:Nat} {w:World} {a:Act} {g g':z8} {J J':St} (h:jJ g J.z6 g' J'.z6) (hs:J'.zk=J.zk) (zy:zG n g w a J):zG n g' w a J':=by
 refine ⟨fun i av hi=>?_,h.heap zy.heap,zy.size,zy.defers,zy.known.kept (h.ro w)⟩;rw [hs] at hi;obtain ⟨v,hv,zS⟩:=zy.zk i av hi;exact ⟨v,hv,zr.frame (h.ro w) (fun id _=>h.kept zy.heap id) zS⟩
def pB (g:z8) (id:Nat):z8:={ g with tag:=fun b=>match g.tag b with
 | .row i p=>if i=id then .ro else .row i p
 | .box i=>if i=id then .ro else .box i
 | t=>t }
theorem vb {g:z8} {J:St} (id:Nat) (hid:J.z6 id≠none):jJ g J.z6 (pB g id) (J.kill id).z6:=by
 refine ⟨rfl,rfl,fun i=>?_,fun b=>?_⟩
 ·simp only [St.kill,GJ];cases Nat.beq i id <;> simp
 ·simp only [pB]
  cases hb:g.tag b with
  | zt=>left;rfl
  | ro=>left;rfl
  | row i p=>
   by_cases hi:i=id
   ·right;simp only [hi,WQ];exact ⟨trivial,id,hid,by simp [St.kill,GJ],.inl ⟨p,rfl⟩⟩
   ·left;simp [hi]
  | box i=>
   by_cases hi:i=id
   ·right;simp only [hi,WQ];exact ⟨trivial,id,hid,by simp [St.kill,GJ],.inr rfl⟩
   ·left;simp [hi]
theorem JN {t:Ty} {k:t.den->Option R} {r:R} (h:z2x t k=some r):∃ o u,∃ e:t = .sl o u,k (e ▸ ([]:List u.den))=some r:=by
 cases t with
 | sl o u=>exact ⟨o,u,rfl,h⟩
 | _=>simp [z2x] at h
theorem gq {w:World}:(n:Nat)->{a:z7}->{u:Ty}->{J:St}->{g:z8}->{k:u.den->St->Option R}->{r:R}->{cs:List Value}->
  yY w g J.z6->jK w g J.z6 a cs->u.zW=true->j6 n a u J k=some r->
  ∃ d J' g',k d J'=some r/\J'.zk=J.zk/\J'.next=J.next/\jJ g J.z6 g' J'.z6/\zH w g' none u d cs
 | 0,_,_,_,_,_,_,_,_,_,_,h=>by simp [j6] at h
 | n+1,.data t d,u,J,g,k,r,cs,hh,zS,hu,h=>by
  simp only [j6] at h;obtain ⟨_,h,_,zC⟩:=vX h zS.1
  exact ⟨_,J,g,h,rfl,rfl,.refl _ _,zC _ _ _ zS.2⟩
 | n+1,.qD,u,J,g,k,r,cs,hh,zS,hu,h=>by
  simp only [j6] at h;obtain ⟨o,v,rfl,h⟩:=JN h
  cases o with
  | true=>simp [Ty.zW] at hu
  | false=>
   have Ku:cs=[.slice none 0 0]:=zS;subst Ku
   exact ⟨_,J,g,h,rfl,rfl,.refl _ _,none,0,rfl,yN _,jt _,fun hn=>absurd rfl hn⟩
 | n+1,.ref id p ep,u,J,g,k,r,cs,hh,zS,hu,h=>by
  cases p with
  | cons s q=>simp [j6] at h
  | nil=>
   simp only [j6] at h;split at h
   ·rename_i t l e ho
    cases hb:Nat.beq e ep with
    | false=>rw [hb] at h;simp at h
    | true=>
     have he:e=ep:=zE hb;subst he;rw [hb] at h;simp only [zB] at h;obtain ⟨v,rfl,_,hv⟩:=zS;have qf:=(hv _ _ _ ho).2 rfl;have zp:=hh.z6 id _ ho;split at h
     ·simp [Ty.zW] at hu
     ·rename_i v' kk;obtain ⟨_,h,_,Kg⟩:=vX h (Ty.gz _);refine ⟨_,J.kill id,pB g id,h,rfl,rfl,vb id (by rw [ho];simp),?_⟩;have hs:=vb (g:=g) (J:=J) id (by rw [ho];simp);have hf:=zH.freeze (hs.ro w) (o:=some (id,[])) (show QC w g w (pB g id) id [] from ⟨fun q b hb=>⟨by simp only [pB,QP] at hb ⊢;rw [hb];simp,rfl⟩⟩) zp.2;rw [<-qf] at hf;exact Kg _ _ _ hf
     ·simp at h
   ·simp at h
 | n+1,.zq id p,u,J,g,k,r,cs,hh,zS,hu,h=>by
  cases u with
  | ptr u=>
   cases p with
   | cons s q=>simp [j6] at h
   | nil=>
    simp only [j6] at h;split at h
    ·rename_i a ho;obtain ⟨hnt,h⟩:=Vi h;obtain ⟨c,e,hc,ht,hca⟩:=(hh.z6 id _ ho).out hnt;have hs:=vb (g:=g) (J:=J) id (by rw [ho];simp);have q28:=jK.frame (wE:=(J.kill id).z6) (hs.ro w) (fun i _=>hs.kept hh i) hca;obtain ⟨d,J',g',hk,h1,h2,h3,zC⟩:=gq n (hs.heap hh) q28 (by simpa [Ty.zW] using hu) h;obtain ⟨v,rfl,_,hv⟩:=zS;obtain ⟨off,s,jZ,rfl⟩:=hv _ ho;simp only [Sk.off,zI,gP] at jZ;obtain ⟨rfl,_⟩:=jZ;have zM:(pB g id).tag (g.qj id) = .ro:=by simp [pB,ht]
     refine ⟨d,J',g',hk,h1,h2,hs.trans h3,g.qj id,0,c,e,(0,0),rfl,((h3.ro w).qj _ zM).1,hc,?_,?_⟩
     ·have:=zC.len;rw [vf] at this;omega
     ·have hl:=zC.len;rw [<-hl,kr];exact zC
    ·simp at h
  | _=>cases p <;> simp [j6] at h
 | n+1,.qd f c,u,J,g,k,r,cs,hh,zS,hu,h=>by
  cases u with
  | fn f' t=>
   simp only [j6] at h
   cases hb:Nat.beq f f' with
   | false=>rw [hb] at h;simp at h
   | true=>
    rw [hb] at h;have he:f=f':=zE hb;subst he;obtain ⟨vs,rfl,hc⟩:=zS;obtain ⟨d,J',g',hk,h1,h2,h3,zC⟩:=gq n (a:=c) hh hc (by simpa [Ty.zW] using hu) h
    exact ⟨d,J',g',hk,h1,h2,h3,vs,rfl,zC⟩
  | _=>simp [j6] at h
 | n+1,.agg c,u,J,g,k,r,cs,hh,zS,hu,h=>by
  simp only [j6] at h
  exact gq n (a:=c) hh zS hu h
 | n+1,.pr a b,u,J,g,k,r,cs,hh,zS,hu,h=>by
  cases u with
  | pair t u=>
   simp only [j6] at h;simp only [Ty.zW,zA] at hu;obtain ⟨c1,c2,rfl,ha,hb⟩:=zS;obtain ⟨x,J1,g1,Qg,h1,h2,h3,uW⟩:=gq n hh ha hu.1 h;have Z6:=jK.frame (wE:=J1.z6) (h3.ro w) (fun i _=>h3.kept hh i) hb;obtain ⟨y,J2,g2,PX,h4,h5,h6,pc⟩:=gq n (h3.heap hh) Z6 hu.2 Qg
   exact ⟨(x,y),J2,g2,PX,h4.trans h1,h5.trans h2,h3.trans h6,c1,c2,rfl,uW.kept (h6.ro w),pc⟩
  | _=>simp [j6] at h
 | n+1,.un,u,J,g,k,r,cs,hh,zS,hu,h=>by
  cases u with
  | unit=>
   simp only [j6] at h
   exact ⟨(),J,g,h,rfl,rfl,.refl _ _,zS⟩
  | _=>simp [j6] at h
 | n+1,.view _ _ _ _ _,u,J,g,k,r,cs,hh,zS,hu,h=>by cases u <;> simp [j6] at h
 | n+1,.vA _ _ _,u,J,g,k,r,cs,hh,zS,hu,h=>by cases u <;> simp [j6] at h
 | n+1,.qz _,u,J,g,k,r,cs,hh,zS,hu,h=>by cases u <;> simp [j6] at h
 | n+1,.nv true _ _ _,u,J,g,k,r,cs,hh,zS,hu,h=>by cases u <;> simp [j6] at h
 | n+1,.nv false _ (_ :: _) _,u,J,g,k,r,cs,hh,zS,hu,h=>by cases u <;> simp [j6] at h
 | n+1,.nv false id [] ep,u,J,g,k,r,cs,hh,zS,hu,h=>by
  simp only [j6] at h;split at h
  ·rename_i t l e i ho
   cases hb:Nat.beq e ep with
   | false=>rw [hb] at h;simp at h
   | true=>
    have he:e=ep:=zE hb;subst he;rw [hb] at h;simp only [zB] at h;obtain ⟨v,rfl,_,hv⟩:=zS;have qf:=((hv _ _ _ _ _ ho).2 rfl).1 rfl;have zp:zH w g (some (id,[])) (.sl true t) l [g.sv id []]:=hh.z6 id _ ho;split at h
    ·rename_i v' kk;obtain ⟨_,h,_,Kg⟩:=vX h (Ty.gz _);refine ⟨_,J.kill id,pB g id,h,rfl,rfl,vb id (by rw [ho];simp),?_⟩;have hs:=vb (g:=g) (J:=J) id (by rw [ho];simp);have hf:=zH.freeze (hs.ro w) (o:=some (id,[])) (show QC w g w (pB g id) id [] from ⟨fun q b hb=>⟨by simp only [pB,QP] at hb ⊢;rw [hb];simp,rfl⟩⟩) zp;rw [<-qf] at hf;exact Kg _ _ _ hf
    ·simp at h
  ·simp at h
 | n+1,.jV _,u,J,g,k,r,cs,hh,zS,hu,h=>zS.elim
theorem Vj.one {F:(k:Nat)->Rec k->List Value->Prop} {w:World} {g:z8} (hF:∀ k x cs,F k x cs->∀ v∈cs,v.oneCell'=true):{t:Ty}->{d:t.den}->{cs:List Value}->Vj F w g t d cs->∀ v∈cs,v.oneCell'=true
 | .int _,_,_,h=>by obtain ⟨rfl,_⟩:=h;simp [Value.oneCell']
 | .bool,_,_,h=>by cases h;simp [Value.oneCell']
 | .str,_,_,h=>by obtain ⟨s,rfl,_⟩:=h;simp [Value.oneCell']
 | .unit,_,_,h=>by cases h;simp
 | .pair a b,(x,y),_,h=>by
  obtain ⟨c1,c2,rfl,h1,h2⟩:=h;intro v hv;rcases U5.1 hv with hv | hv
  ·exact Vj.one hF h1 v hv
  ·exact Vj.one hF h2 v hv
 | .arr n t,l,cs,h=>by
  intro v hv;obtain ⟨j,hj,rfl⟩:=Jo.1 hv;have hlen:=h.2.1;have htz:0 < t.size:=by
   rcases Z3p t.size with hz | hz
   ·rw [hz] at hlen;omega
   ·exact hz
  have hdiv:j / t.size < n:=Z3q (by rw [Z25];omega);have hi:j / t.size < List.length l:=by rw [h.1];exact hdiv
  have hr:=Vj.one hF (h.2.2 (j / t.size) hi);refine hr _ ?_;have hm:=Z2r j htz;have hdm:=Z3r j t.size;have hle:(j / t.size+1)*t.size<=n*t.size:=kn _ hdiv;rw [wB] at hle;refine Jo.2 ⟨j % t.size,?_,?_⟩
  ·rw [yW (by omega)];exact hm
  ·simp only [qS,Z2w,Z37];congr 1
   rw [Z25];exact hdm
 | .sl false t,_,_,h=>by obtain ⟨a,cap,rfl,_⟩:=h;simp [Value.oneCell']
 | .tree _,_,_,h=>hF _ _ _ h
theorem gU.one {w:World} {g:z8}:{n k:Nat}->{x:Rec k}->{cs:List Value}->gU w g n k x cs->∀ v∈cs,v.oneCell'=true
 | n+1,_,_,_,h=>Vj.one (fun _ _ _ h=>gU.one h) h
theorem zH.one {w:World} {g:z8}:{o:Dr}->{t:Ty}->{d:t.den}->{cs:List Value}->zH w g o t d cs->∀ v∈cs,v.oneCell'=true
 | _,.int _,_,_,h=>by obtain ⟨rfl,_⟩:=h;simp [Value.oneCell']
 | _,.bool,_,_,h=>by cases h;simp [Value.oneCell']
 | _,.str,_,_,h=>by obtain ⟨s,rfl,_⟩:=h;simp [Value.oneCell']
 | _,.unit,_,_,h=>by cases h;simp
 | _,.pair a b,(x,y),_,h=>by
  obtain ⟨c1,c2,rfl,h1,h2⟩:=h;intro v hv;rcases U5.1 hv with hv | hv
  ·exact zH.one h1 v hv
  ·exact zH.one h2 v hv
 | _,.arr n t,l,cs,h=>by
  intro v hv;obtain ⟨j,hj,rfl⟩:=Jo.1 hv;have hlen:=h.2.1;have htz:0 < t.size:=by
   rcases Z3p t.size with hz | hz
   ·rw [hz] at hlen;omega
   ·exact hz
  have hdiv:j / t.size < n:=Z3q (by rw [Z25];omega);have hi:j / t.size < List.length l:=by rw [h.1];exact hdiv
  have hr:=zH.one (h.2.2 (j / t.size) hi);refine hr _ ?_;have hm:=Z2r j htz;have hdm:=Z3r j t.size;have hle:(j / t.size+1)*t.size<=n*t.size:=kn _ hdiv;rw [wB] at hle;refine Jo.2 ⟨j % t.size,?_,?_⟩
  ·rw [yW (by omega)];exact hm
  ·simp only [qS,Z2w,Z37];congr 1
   rw [Z25];exact hdm
 | _,.sl false t,_,_,h=>by obtain ⟨a,cap,rfl,_⟩:=h;simp [Value.oneCell']
 | some (_,_),.sl true t,_,_,h=>by obtain ⟨a,cap,rfl,_⟩:=h;simp [Value.oneCell']
 | none,.sl true t,_,_,h=>h.elim
 | _,.ptr t,_,_,h=>by obtain ⟨b,off,c,e,fz,rfl,_⟩:=h;simp [Value.oneCell']
 | _,.fn f t,_,_,h=>by obtain ⟨vs,rfl,_⟩:=h;simp [Value.oneCell']
 | _,.tree _,_,_,h=>by obtain ⟨n,h⟩:=h;exact h.one
theorem jK.one {w:World} {g:z8} {z6:qp}:{a:z7}->{cs:List Value}->jK w g z6 a cs->∀ v∈cs,v.oneCell'=true
 | .data t d,_,h=>h.2.one
 | .qD,_,h=>by cases h;simp [Value.oneCell']
 | .ref _ _ _,_,h=>by obtain ⟨v,rfl,h,_⟩:=h;simp [h]
 | .view _ _ _ _ _,_,h=>by obtain ⟨v,rfl,h,_⟩:=h;simp [h]
 | .zq _ _,_,h=>by obtain ⟨v,rfl,h,_⟩:=h;simp [h]
 | .vA _ _ _,_,h=>by obtain ⟨v,rfl,h,_⟩:=h;simp [h]
 | .qz _,_,h=>by obtain ⟨v,rfl,h,_⟩:=h;simp [h]
 | .nv _ _ _ _,_,h=>by obtain ⟨v,rfl,h,_⟩:=h;simp [h]
 | .qd _ _,_,h=>by obtain ⟨v,rfl,_⟩:=h;simp [Value.oneCell']
 | .V7 _ _,_,h=>by obtain ⟨v,DH,rfl,_⟩:=h;simp [Value.oneCell']
 | .agg c,_,h=>jK.one (a:=c) h
 | .jV _,_,h=>h.elim
 | .pr a b,_,h=>by
  obtain ⟨c1,c2,rfl,h1,h2⟩:=h;intro v hv;rcases U5.1 hv with hv | hv
  ·exact jK.one h1 v hv
  ·exact jK.one h2 v hv
 | .un,_,h=>by cases h;simp
theorem zH.z2w {w:World} {g:z8} {t:Ty} {d:t.den} {cs:List Value} (h:zH w g none t d cs) (ha:t.sk.isAgg=false):∃ v,cs=[v]:=by
 have hl:=h.len;have:t.size=1:=by cases t <;> simp [Ty.sk,Sk.isAgg] at ha <;> simp [Ty.size]
 rw [this] at hl;exact Z2i.1 hl
theorem jn {w:World} {g:z8} {z6:qp} {av:z7} {v:Value} (hv:av.val=true) (h:zr w g z6 av v):∃ cs,jK w g z6 av cs/\v=vN av.isAgg cs/\v.cells.toList=cs:=by
 obtain ⟨ve,PG,UJ,TU⟩:=wK hv;obtain ⟨cs,zS,Qf⟩:=kX h TU;refine ⟨cs,zS,Qf,?_⟩
 cases ha:av.isAgg with
 | true=>
  rw [ha] at Qf;simp only [vN,WQ] at Qf
  rw [Qf];rfl
 | false=>
  rw [ha] at Qf;simp only [vN,Mu,Dh] at Qf;have hl:=zS.len;have:av.sk.size=1:=by
   rw [ve] at ha;cases wG:av.sk <;> rw [wG] at ha <;> simp [Sk.isAgg] at ha;rfl
  rw [this] at hl;obtain ⟨x,rfl⟩:=Z2i.1 hl;have h1:=zS.one x (by simp);have hx:v=x:=Qf;subst hx;cases v <;> simp [Value.oneCell'] at h1 <;> rfl
end Go.Kz
namespace Go.Kz
variable {R:Type}
def qN (g:z8) (b0 m:Nat) (tg:Tag) (v:Value):z8 where
 tag:=fun b=>if b=b0 then tg else g.tag b
 sv:=fun i p=>if i=m then (if p=[] then v else .slice none 0 0) else g.sv i p
 qj:=fun i=>if i=m then b0 else g.qj i
section
variable {w:World} {g:z8} {J:St} {o:Obj} {m:Nat} {tg:Tag} {v:Value}
theorem pU (ht:∀ b,g.tag b≠.zt->b < w.heap.size) (ob:Go.Obj):zT w g (w.alloc ob) (qN g w.heap.size m tg v):=
 ⟨fun b hb=>by
  have:=ht b (by rw [hb];simp);exact ⟨by simp only [qN];rw [qZ (by omega)];exact hb,heap_alloc_old w ob this⟩⟩
theorem ZG (ht:∀ b,g.tag b≠.zt->b < w.heap.size) (ob:Go.Obj) {id:Nat} (hid:id≠m):Zh w g (w.alloc ob) (qN g w.heap.size m tg v) id:=by
 refine ⟨⟨fun q=>by simp [qN,hid],fun q b hb=>?_⟩,by simp [qN,hid],fun hb=>?_⟩
 ·have:=ht b (by rw [hb];simp);exact ⟨by simp only [qN];rw [qZ (by omega)];exact hb,heap_alloc_old w ob this⟩
 ·have:=ht (g.qj id) (by rw [hb];simp);exact ⟨by simp only [qN];rw [qZ (by omega)];exact hb,heap_alloc_old w ob this⟩
theorem ZP (ht:∀ b,g.tag b≠.zt->b < w.heap.size) (ob:Go.Obj):Ext w g (w.alloc ob) (qN g w.heap.size m tg v):=by
 refine ⟨rfl,rfl,rfl,yN _,by simp,fun b hb _=>⟨heap_alloc_old w ob hb,?_⟩⟩;simp only [qN];rw [qZ (by omega)]
theorem zR {I:Type} (f:Nat->Option I) (i:Nat) (x:Option I):GJ f i x i=x:=by simp [GJ]
theorem zi {I:Type} (f:Nat->Option I) {i j:Nat} (x:Option I) (h:j≠i):GJ f i x j=f j:=by
 simp only [GJ]
 cases hb:Nat.beq j i with
 | true=>exact absurd (zE hb) h
 | false=>rfl
theorem GN (hh:yY w g J.z6) (ob:Go.Obj) {id:Nat} (hid:id≠m):qv g (qN g w.heap.size m tg v) id (J.z6 id) ((J.setObj m o).z6 id):=by
 simp only [St.setObj];rw [zi _ _ hid];exact qv.same (ZG hh.tags ob hid)
theorem zG.new {n:Nat} {a:Act} (zy:zG n g w a J) (hf:zJ g J m) (ob:Go.Obj) (Jb:tg≠.zt)
  (zp:zo (w.alloc ob) (qN g w.heap.size m tg v) (J.setObj m o).z6 m o):zG n (qN g w.heap.size m tg v) (w.alloc ob) a (J.setObj m o):=by
 refine ⟨fun i av hi=>?_,⟨fun id x hx=>?_,fun b hb=>?_⟩,zy.size,zy.defers,zy.known.kept (pU zy.heap.tags ob)⟩
 ·obtain ⟨u,hu,zS⟩:=zy.zk i av hi;refine ⟨u,hu,zr.frame (pU zy.heap.tags ob) (fun id hid=>GN zy.heap ob ?_) zS⟩;intro he;subst he;exact hf.zk i av hi hid
 ·by_cases hid:id=m
  ·subst hid;simp only [St.setObj,zR,zI] at hx;subst hx;exact zp
  ·have Gh:J.z6 id=some x:=by simpa [St.setObj,zi _ _ hid] using hx
   refine zo.frame (pU zy.heap.tags ob) (ZG zy.heap.tags ob hid) (fun y hy vY Nq=>GN zy.heap ob ?_) (zy.heap.z6 id x Gh);intro he;subst he;subst hy;exact hf.cells id y Gh Nq
 ·simp only [qN] at hb;split at hb
  ·rename_i he;subst he;simp
  ·have:=zy.heap.tags b hb;simp;omega
theorem zJ.new {m':Nat} (hm:m'≠m) (vk:∀ p,tg≠.row m' p) (q2b:tg≠.box m') (ho:∀ y,o = .cell y->m'∉y.ids) (hf:zJ g J m'):zJ (qN g w.heap.size m tg v) (J.setObj m o) m':=by
 refine ⟨by simp only [St.setObj];rw [zi _ _ hm];exact hf.z6,fun b p hb=>?_,fun b hb=>?_,hf.zk,fun id av hi=>?_⟩
 ·simp only [qN] at hb;split at hb
  ·exact vk p hb
  ·exact hf.row b p hb
 ·simp only [qN] at hb;split at hb
  ·exact q2b hb
  ·exact hf.box b hb
 ·by_cases hid:id=m
  ·subst hid;simp only [St.setObj,zR,zI] at hi;exact ho av hi
  ·simp only [St.setObj] at hi;rw [zi _ _ hid] at hi;exact hf.cells id av hi
end
theorem jr (n:Nat) (cs:List Value) (i:Nat) (h:i < n):qS (List.replicate n cs).flatten (i*cs.length) cs.length=cs:=by
 induction n generalizing i with
 | zero=>omega
 | succ n ih=>
  simp only [Z4h,Z2z]
  cases i with
  | zero=>
   simp only [Z2d]
   rw [qi _ _ _ _ (by omega),kr]
  | succ i=>
   rw [wB,Nat.one_mul,Z39];rw [yZ _ _ _ _ _ rfl];exact ih i (by omega)
theorem vP (n:Nat) (cs:List Value):(List.replicate n cs).flatten.length=n*cs.length:=by
 induction n with
 | zero=>simp
 | succ n ih=>simp only [Z4h,Z2z,VH,ih,wB];omega
theorem zjc:(k:Nat)->(zow k).length=Cr k
 | 0=>rfl
 | 1=>rfl
 | _+2=>rfl
theorem qt:(t:Ty)->(zeroCells t).length=t.size
 | .int _=>rfl
 | .bool=>rfl
 | .str=>rfl
 | .unit=>rfl
 | .pair a b=>by simp only [zeroCells,VH,Ty.size,qt a,qt b]
 | .arr n t=>by rw [zeroCells,vP,qt t];rfl
 | .sl _ _=>rfl
 | .ptr _=>rfl
 | .fn f _=>by simp only [zeroCells];cases Nat.beq f 999983 <;> rfl
 | .tree k=>zjc k
theorem wg {w:World} {g:z8}:{t:Ty}->{d:t.den}->t.zW=true->t.zero=some d->zH w g none t d (zeroCells t)
 | .int k,d,_,h=>by
  simp only [Ty.zero,zI] at h;subst h;refine ⟨rfl,?_⟩
  cases k <;> simp [IntKind.min,IntKind.max,IntKind.bits,IntKind.signed]
 | .bool,d,_,h=>by simp only [Ty.zero,zI] at h;subst h;rfl
 | .str,d,_,h=>by
  simp only [Ty.zero,zI] at h;subst h
  exact ⟨ByteArray.empty,rfl,rfl,jt _⟩
 | .unit,d,_,h=>rfl
 | .pair a b,d,hr,h=>by
  simp only [Ty.zero] at h;simp only [Ty.zW,zA] at hr;split at h
  ·rename_i x y hx hy;simp only [zI] at h;subst h;exact ⟨_,_,rfl,wg hr.1 hx,wg hr.2 hy⟩
  ·simp at h
 | .arr n t,d,hr,h=>by
  simp only [Ty.zero] at h;split at h
  ·rename_i x hx;simp only [zI] at h;subst h;have zC:=wg (w:=w) (g:=g) (by simpa [Ty.zW] using hr) hx;refine ⟨by simp,by rw [zeroCells,vP,qt],fun i hi=>?_⟩;have wT:i < n:=by simpa using hi
   simp only [LN,List.getElem_replicate,zeroCells];have:=jr n (zeroCells t) i wT;rw [qt] at this;rw [this];exact zC
  ·simp at h
 | .sl false t,d,_,h=>by
  simp only [Ty.zero,zI] at h;subst h
  exact ⟨none,0,rfl,yN _,jt _,fun hn=>absurd rfl hn⟩
 | .sl true t,d,hr,h=>by simp [Ty.zW] at hr
 | .ptr _,_,_,h=>by simp [Ty.zero] at h
 | .fn _ _,_,_,h=>by simp [Ty.zero] at h
 | .tree _,_,_,h=>by simp [Ty.zero] at h
theorem gQ:{t:Ty}->t.qJ=true->t.zW=true
 | .int _,_=>rfl
 | .bool,_=>rfl
 | .str,_=>rfl
 | .unit,_=>rfl
 | .pair a b,h=>by simp only [Ty.qJ,zA] at h;simp [Ty.zW,gQ h.1,gQ h.2]
 | .arr _ t,h=>by simp only [Ty.qJ] at h;simp only [Ty.zW];exact gQ h
 | .sl _ _,h=>by simp [Ty.qJ] at h
 | .ptr _,h=>by simp [Ty.qJ] at h
 | .fn _ _,h=>by simp [Ty.qJ] at h
 | .tree _,h=>by simp [Ty.qJ] at h
theorem MJ (a b:Ty):pD (.pair a b)=(match Ty.zero (.pair a b),(Ty.pair a b).qJ with
  | some z,true=>some (.data (.pair a b) z)
  | _,_=>(Zj (.pair a b)).map .agg):=rfl
theorem MY (a b:Ty):Zj (.pair a b)=(match pD a,Zj b with
  | some x,some y=>some (.pr x y)
  | _,_=>none):=rfl
theorem SI (n:Nat) (t:Ty):pD (.arr n t)=(match Ty.zero (.arr n t),(Ty.arr n t).zW with
  | some z,true=>some (.data (.arr n t) z)
  | _,_=>none):=by
 unfold pD v7;rfl
mutual
theorem X4 {w:World} {g:z8} {z6:qp}:{u:Ty}->{z:z7}->pD u=some z->z.sk=u.sk/\z.ids=[]/\jK w g z6 z (zeroCells u)/\z.val=true
 | .sl o t,z,h=>by
  simp only [pD,v7,zI] at h;subst h
  exact ⟨rfl,rfl,rfl,rfl⟩
 | .pair a b,z,h=>by
  rw [MJ] at h;split at h
  ·rename_i d h1 h2;simp only [zI] at h;subst h;have hr:=gQ h2;exact ⟨rfl,rfl,⟨hr,wg hr h1⟩,rfl⟩
  ·simp only [wU] at h;obtain ⟨x,hx,rfl⟩:=h;obtain ⟨h1,h2,h3,h4⟩:=Hk (w:=w) (g:=g) (z6:=z6) hx
   exact ⟨h1,h2,h3,h4⟩
 | .int k,z,h=>by
  simp only [pD,v7,Ty.zero,Ty.qJ,zI] at h;subst h
  exact ⟨rfl,rfl,⟨rfl,wg rfl rfl⟩,rfl⟩
 | .bool,z,h=>by
  simp only [pD,v7,Ty.zero,Ty.qJ,zI] at h;subst h
  exact ⟨rfl,rfl,⟨rfl,wg rfl rfl⟩,rfl⟩
 | .str,z,h=>by
  simp only [pD,v7,Ty.zero,Ty.qJ,zI] at h;subst h
  exact ⟨rfl,rfl,⟨rfl,wg rfl rfl⟩,rfl⟩
 | .unit,z,h=>by
  simp only [pD,v7,Ty.zero,Ty.qJ,zI] at h;subst h
  exact ⟨rfl,rfl,⟨rfl,wg rfl rfl⟩,rfl⟩
 | .arr n t,z,h=>by
  rw [SI] at h;split at h
  ·rename_i d h1 h2;simp only [zI] at h;subst h;have hr:=h2;exact ⟨rfl,rfl,⟨hr,wg hr h1⟩,rfl⟩
  ·simp at h
 | .ptr t,z,h=>by simp [pD,v7,Ty.zero] at h
 | .fn f t,z,h=>by simp [pD,v7,Ty.zero] at h
 | .tree _,z,h=>by simp [pD,v7,Ty.zero] at h
theorem Hk {w:World} {g:z8} {z6:qp}:{u:Ty}->{z:z7}->Zj u=some z->z.sk=u.sk/\z.ids=[]/\jK w g z6 z (zeroCells u)/\(z7.agg z).val=true
 | .pair a b,z,h=>by
  rw [MY] at h;split at h
  ·rename_i x y hx hy;simp only [zI] at h;subst h;obtain ⟨h1,h2,h3,_⟩:=X4 (w:=w) (g:=g) (z6:=z6) hx;obtain ⟨k1,k2,k3,_⟩:=Hk (w:=w) (g:=g) (z6:=z6) hy;exact ⟨by simp [z7.sk,Ty.sk,h1,k1],by simp [z7.ids,h2,k2],⟨_,_,rfl,h3,k3⟩,rfl⟩
  ·simp at h
 | .unit,z,h=>by
  simp only [Zj,v7,zI] at h;subst h
  exact ⟨rfl,rfl,rfl,rfl⟩
 | .int _,_,h=>by simp [Zj,v7] at h
 | .bool,_,h=>by simp [Zj,v7] at h
 | .str,_,h=>by simp [Zj,v7] at h
 | .arr _ _,_,h=>by simp [Zj,v7] at h
 | .sl _ _,_,h=>by simp [Zj,v7] at h
 | .ptr _,_,h=>by simp [Zj,v7] at h
 | .fn _ _,_,h=>by simp [Zj,v7] at h
 | .tree _,_,h=>by simp [Zj,v7] at h
end
theorem z0g {w:World} {g:z8} {z6:qp} {id:Nat} {u:Ty} {z:z7} (hid:∀ kt vt m,z6 id≠some (.map kt vt m)) (h:O0 id u=some z):z.sk=u.sk/\(z.ids=[]\/z.ids=[id])/\jK w g z6 z (zeroCells u)/\z.val=true:=by
 cases u with
 | fn f c=>
  simp only [O0,zI] at h;subst h;refine ⟨rfl,.inr rfl,?_,rfl⟩;simp only [zeroCells];cases Nat.beq f 999983
  ·exact ⟨_,rfl,rfl,fun kt vt m hm=>absurd hm (hid kt vt m)⟩
  ·exact ⟨_,rfl,rfl,fun kt vt m hm=>absurd hm (hid kt vt m)⟩
 | ptr t=>
  simp only [O0,zI] at h;subst h
  exact ⟨rfl,.inr rfl,⟨_,rfl,rfl,fun kt vt m hm=>absurd hm (hid kt vt m)⟩,rfl⟩
 | _=>
  obtain ⟨h1,h2,h3,h4⟩:=X4 (w:=w) (g:=g) (z6:=z6) h;exact ⟨h1,.inl h2,h3,h4⟩
section
variable {P:Program} {o:Oper} {a:Act} {w:World} {K:Act->World->Prop} {Q:Exit->Act->World->Prop} {c:Ctx} {J:St} {g:z8} {k:St->Option R} {r:R} {base:Nat} {mo:Bool}
theorem VI {ob:Go.Obj} {obj:Obj} {tg:Tag} {v v':Value} {av:z7} (zy:zG c.ntmps g w a J) (hf:zJ g J base) (Jb:tg = .box base\/∃ p,tg = .row base p)
  (zc:(execOp a.eval o).run P w = .ok (.value v') (w.alloc ob)) (gB:av.ids=[base])
  (zp:zo (w.alloc ob) (qN g w.heap.size base tg v) (J.setObj base obj).z6 base obj)
  (zY:∀ y,obj = .cell y->∀ m,m≠base->zJ g J m->m∉y.ids)
  (hv:zr (w.alloc ob) (qN g w.heap.size base tg v) (J.setObj base obj).z6 av v')
  (h:(J.y6 c o.dst av fun J=>k (J.setObj base obj))=some r) (hK:vu c.ntmps k r g w J base mo K):o.wp P a w K Q:=by
 have je:tg≠.zt:=by rcases Jb with rfl | ⟨p,rfl⟩ <;> simp
 have qT:=zy.new hf ob je zp;have vT:∀ m,(m < base\/base+8<=m)->zJ g J m->zJ (qN g w.heap.size base tg v) (J.setObj base obj) m:=by
  intro m hm wk;have Ob:m≠base:=by omega
  refine zJ.new Ob (fun p=>?_) ?_ (fun y hy=>zY y hy m Ob wk) wk
  ·rcases Jb with rfl | ⟨p',rfl⟩ <;> simp;exact fun h=>absurd h.symm Ob
  ·rcases Jb with rfl | ⟨p',rfl⟩ <;> simp;exact fun h=>Ob h.symm
 unfold Oper.wp;rw [zc,Oper.upon_value];rcases pg h with ⟨hd,hk⟩ | ⟨i,hd,hi,hk⟩
 ·rw [hd];exact hK _ _ _ _ hk qT (ZP zy.heap.tags ob) vT rfl (fun _ b hb=>heap_alloc_old w ob hb)
 ·rw [hd];refine hK _ _ _ _ hk (show zG c.ntmps _ _ _ ((J.setObj base obj).set i av) from qT.put hi hv) (ZP zy.heap.tags ob) (fun m hm wk=>?_) rfl (fun _ b hb=>heap_alloc_old w ob hb);exact (vT m hm wk).set i (by rw [gB];simp;omega)
theorem z0m {ob:Go.Obj} {t:Ty} {d:t.den} {v':Value} {cs:List Value} {vx:Value} (zy:zG c.ntmps g w a J) (hf:zJ g J base)
  (zc:(execOp a.eval o).run P w = .ok (.value v') (w.alloc ob)) (qu:t.zW=true) (zC:zH (w.alloc ob) (qN g w.heap.size base .ro vx) none t d cs) (hv:v'=vN t.sk.isAgg cs)
  (h:J.y6 c o.dst (.data t d) k=some r) (hK:vu c.ntmps k r g w J base mo K):o.wp P a w K Q:=by
 have ht:=zy.heap.tags;have ga:∀ i,i≠base->qv g (qN g w.heap.size base .ro vx) i (J.z6 i) (J.z6 i):=fun i hi=>qv.same (ZG ht ob hi)
 have qT:zG c.ntmps (qN g w.heap.size base .ro vx) (w.alloc ob) a J:=by
  refine ⟨fun i av hi=>?_,⟨fun id x hx=>?_,fun b hb=>?_⟩,zy.size,zy.defers,zy.known.kept (pU ht ob)⟩
  ·obtain ⟨u,hu,zS⟩:=zy.zk i av hi;refine ⟨u,hu,zr.frame (pU ht ob) (fun id hid=>ga id ?_) zS⟩;intro he;subst he;exact hf.zk i av hi hid
  ·have hid:id≠base:=by intro he;subst he;have:=hf.z6;rw [hx] at this;simp at this
   refine zo.frame (pU ht ob) (ZG ht ob hid) (fun y hy vY Nq=>ga vY ?_) (zy.heap.z6 id x hx);intro he;subst he;subst hy;exact hf.cells id y hx Nq
  ·simp only [qN] at hb;split at hb
   ·rename_i he;subst he;simp
   ·have:=ht b hb;simp;omega
 have vT:∀ m,(m < base\/base+8<=m)->zJ g J m->zJ (qN g w.heap.size base .ro vx) J m:=by
  intro m hm wk;refine ⟨wk.z6,fun b p hb=>?_,fun b hb=>?_,wk.zk,wk.cells⟩
  ·simp only [qN] at hb;split at hb
   ·simp at hb
   ·exact wk.row b p hb
  ·simp only [qN] at hb;split at hb
   ·simp at hb
   ·exact wk.box b hb
 have q03:zr (w.alloc ob) (qN g w.heap.size base .ro vx) J.z6 (.data t d) v':=by
  simp only [zr];exact ⟨cs,⟨qu,zC⟩,hv⟩
 unfold Oper.wp;rw [zc,Oper.upon_value];rcases pg h with ⟨hd,hk⟩ | ⟨i,hd,hi,hk⟩
 ·rw [hd];exact hK _ _ _ _ hk qT (ZP ht ob) vT rfl (fun _ b hb=>heap_alloc_old w ob hb)
 ·rw [hd];exact hK _ _ _ _ hk (qT.put hi q03) (ZP ht ob) (fun m hm wk=>(vT m hm wk).set i (by simp [z7.ids])) rfl (fun _ b hb=>heap_alloc_old w ob hb)
theorem z2l (kN:gn P c.tt) {t:TypeId} (ho:o.op = .alloc t) (zy:zG c.ntmps g w a J) (hf:zJ g J base) (h:yG c J base o k=some r) (hK:vu c.ntmps k r g w J base mo K):o.wp P a w K Q:=by
 simp only [yG,ho] at h;split at h
 ·rename_i z hz;simp only [WB] at hz;obtain ⟨u,hu,hz⟩:=hz;have hT:=kN _ _ hu;obtain ⟨i,zv,Gn,VU,_,hi4,hi5,_⟩:=hT.info.info;let g':=qN g w.heap.size base (.box base) undef;let ob:Go.Obj:=.cells zv.cells t;have hz':=z0g (w:=w.alloc ob) (g:=g') (z6:=(J.setObj base (.cell z)).z6) (id:=base) (fun kt vt m hm=>by simp [St.setObj,zR] at hm) hz;refine VI (ob:=ob) (obj:=.cell z) (tg:=.box base) (v:=undef) (v':=.pointer (some ⟨w.heap.size,0,none⟩)) zy hf (.inl rfl) ?_ rfl ?_ ?_ ?_ h hK
  ·simp only [execOp,ho];simp [Instr.alloc,zeroValue,typeInfo,Gn,hi4,newVar,newRow];rfl
  ·refine zo.mk ⟨zv.cells,t,?_,?_,?_⟩
   ·have hb:(qN g w.heap.size base (.box base) undef).qj base=w.heap.size:=by simp [qN]
    rw [hb];exact heap_alloc_new w _
   ·simp [qN]
   ·rw [hi5];exact hz'.2.2.1
  ·intro y hy m hm _;simp only [Obj.cell.injEq] at hy;subst hy;rcases hz'.2.1 with h1 | h1 <;> rw [h1] <;> simp [hm]
  ·simp only [zr];refine ⟨_,⟨_,rfl,rfl,fun x _=>?_⟩,rfl⟩;refine ⟨0,x.sk,by simp [Sk.off],?_⟩;simp [qN]
 ·simp at h
theorem zjl {t:TypeId} {x:Operand} (ho:o.op = .box t x) (zy:zG c.ntmps g w a J) (hf:zJ g J base) (h:yG c J base o k=some r) (hK:vu c.ntmps k r g w J base mo K):o.wp P a w K Q:=by
 simp only [yG,ho] at h;split at h
 ·rename_i av U3;obtain ⟨ex,ef⟩:=qF zy U3
  cases hb:av.val with
  | false=>rw [hb] at h;simp at h
  | true=>
   rw [hb] at h;simp only [zB] at h;obtain ⟨cs,zS,Qf,vj⟩:=jn hb ex;let ob:Go.Obj:=.cells (a.eval x).cells t;refine VI (ob:=ob) (obj:=.cell av) (tg:=.box base) (v:=undef) (v':=.pointer (some ⟨w.heap.size,0,none⟩)) zy hf (.inl rfl) ?_ rfl ?_ ?_ ?_ h hK
   ·simp only [execOp,ho];simp [Instr.box,newVar,newRow];rfl
   ·refine zo.mk ⟨(a.eval x).cells,t,?_,?_,?_⟩
    ·have hb:(qN g w.heap.size base (.box base) undef).qj base=w.heap.size:=by simp [qN]
     rw [hb];exact heap_alloc_new w _
    ·simp [qN]
    ·rw [vj];refine jK.frame (pU zy.heap.tags ob) (fun id hid=>GN zy.heap ob ?_) zS;intro he;subst he;exact ef _ hf hid
   ·intro y hy m _ hm;simp only [Obj.cell.injEq] at hy;subst hy;exact ef m hm
   ·simp only [zr];refine ⟨_,⟨_,rfl,rfl,fun y _=>?_⟩,rfl⟩;refine ⟨0,y.sk,by simp [Sk.off],?_⟩;simp [qN]
 ·simp at h
end
end Go.Kz
namespace Go.Kz
variable {R:Type}
theorem Y5:(P7:List (List Value))->(n:Nat)->(∀ cs∈P7,cs.length=n)->(i:Nat)->(h:i < P7.length)->qS P7.flatten (i*n) n=P7.get ⟨i,h⟩
 | cs :: P7,n,hl,0,_=>by
  have h0:=hl cs (by simp);simp only [Z2z,Z2d,List.get]
  rw [qi _ _ _ _ (by omega),<-h0,kr]
 | cs :: P7,n,hl,i+1,h=>by
  have h0:=hl cs (by simp);simp only [Z2z];rw [wB,Nat.one_mul,Z39 (i*n) n,yZ _ _ _ _ _ h0.symm];have:=Y5 P7 n (fun cs uR=>hl cs (by simp [uR])) i (by simpa using h);simpa using this
theorem length_flatten:(P7:List (List Value))->(n:Nat)->(∀ cs∈P7,cs.length=n)->P7.flatten.length=P7.length*n
 | [],n,_=>by simp
 | cs :: P7,n,hl=>by
  have h0:=hl cs (by simp);have:=length_flatten P7 n (fun cs uR=>hl cs (by simp [uR]));simp only [Z2z,VH,this,h0,Vy,wB];omega
theorem YD (z:Array Value) (n:Nat) (hz:0 < z.size):(madeCells z (n*z.size)).toList=(List.replicate n z.toList).flatten:=by
 have hlen:(List.replicate n z.toList).flatten.length=n*z.size:=by rw [vP,vf]
 apply Z3a
 ·rw [hlen,vf,size_madeCells]
 ·intro i h1 h2;rw [hlen] at h2;have hi:i / z.size < n:=Z3q (by rw [Z25];exact h2);have hm:=Z2r i hz;have hs:=jr n z.toList (i / z.size) hi;rw [vf] at hs;have hdm:=Z3r i z.size;have e:(List.replicate n z.toList).flatten[i]? = z.toList[i % z.size]? := by
   have:=Fo (fun l=>l[i % z.size]?) hs;simp only [qS,Z2y,Z2c,hm,WQ] at this;rw [Z25 (i / z.size) z.size,hdm] at this;exact this
  have e2:(madeCells z (n*z.size)).toList[i]=z[i % z.size]:=by
   simp [madeCells,hm]
  have h3:i < (List.replicate n z.toList).flatten.length:=by rw [hlen];exact h2
  rw [wP h3] at e;rw [e2];have h4:i % z.size < z.toList.length:=by rw [vf];exact hm
  rw [wP h4] at e;simp only [zI] at e;rw [e];simp
theorem WN {P:Program} {c:Ctx} (kN:gn P c.tt) {d:Option Nat} {t:TypeId} {o:Bool} {u:Ty} (h:CD c d t=some (.sl o u)) :
  ∃ E v,P.underlying t=some (.slice E)/\qw P v E/\v.ro=u.ro:=by
 unfold CD at h;split at h
 ·rename_i u' hd;split at h
  ·rename_i v hv;split at h
   ·rename_i hs _;simp only [zI] at h;subst h;have hT:=kN _ _ hv;have he:=hs.down
    cases v with
    | sl o' v=>
     simp only [qw] at hT;obtain ⟨⟨E,h1,h2⟩,_⟩:=hT;simp only [Ty.ro,Ty.sl.injEq,Vq] at he
     exact ⟨E,v,h1,h2,he.symm⟩
    | _=>simp [Ty.ro] at he
   ·simp at h
  ·simp at h
 ·have hT:=kN _ _ h;simp only [qw] at hT;obtain ⟨⟨E,h1,h2⟩,_⟩:=hT;exact ⟨E,u,h1,h2,rfl⟩
theorem gF:(t:Ty)->zeroCells t.ro=zeroCells t
 | .int _=>rfl
 | .bool=>rfl
 | .str=>rfl
 | .unit=>rfl
 | .pair a b=>by simp only [Ty.ro,zeroCells,gF a,gF b]
 | .arr _ t=>by simp only [Ty.ro,zeroCells,gF t]
 | .sl _ _=>rfl
 | .ptr _=>rfl
 | .fn _ _=>rfl
 | .tree _=>rfl
theorem yF.congr {P:Program} {T:TypeId} {u v:Ty} (h:yF P T v) (e:v.ro=u.ro):yF P T u:=by
 obtain ⟨i,z,h1,h2,h3,h4,h5,h6⟩:=h.info;have hs:v.size=u.size:=by rw [<-Ty.qM v,<-Ty.qM u,e]
 have hz:zeroCells v=zeroCells u:=by rw [<-gF v,<-gF u,e]
 exact ⟨⟨i,z,h1,h2.trans hs,h3,h4,h5.trans hz,h6⟩⟩
section
variable {P:Program} {o:Oper} {a:Act} {w:World} {K:Act->World->Prop} {Q:Exit->Act->World->Prop} {c:Ctx} {J:St} {g:z8} {k:St->Option R} {r:R} {base:Nat} {mo:Bool}
theorem EZ {u:Ty} {l:List u.den} {cells:Array Value} {e:TypeId} {cap:Nat} (ht:∀ b,g.tag b≠.zt->b < w.heap.size) (hu:u.zW=true)
  (hc:l.length<=cap) (hm:cap<=maxLen) (hs:cap*u.size<=cells.size)
  (js:∀ (i:Nat) (h:i < l.length),zH w g none u (l.get ⟨i,h⟩) (qS cells.toList (i*u.size) u.size)) (z6:qp) (ep:Nat) :
  zo (w.alloc (.cells cells e)) (qN g w.heap.size base (.row base []) (.slice (some ⟨w.heap.size,0,none⟩) l.length cap)) z6 base (.row u l ep):=by
 refine ⟨hu,some ⟨w.heap.size,0,none⟩,cap,by simp [qN],by simp [qN],hc,hm,.inr ⟨w.heap.size,0,cells,e,rfl,by simp [qN],heap_alloc_new w _,by omega,fun i hi=>?_⟩⟩;rw [Zf];exact zH.y9 hu ((js i hi).kept (pU ht _))
theorem PR {z6:qp} {u:Ty} {l:List u.den} {v:Value} {b0:Nat} (ho:z6 base=some (.row u l 0)) (qE:v.oneCell'=true) :
  zr w (qN g b0 base (.row base []) v) z6 (.ref base [] 0) v:=by
 simp only [zr];refine ⟨_,⟨v,rfl,qE,fun t l' e hx=>?_⟩,rfl⟩;rw [ho] at hx;simp only [zI,Obj.row.injEq] at hx;obtain ⟨_,_,rfl⟩:=hx;exact ⟨yN _,fun _=>by simp [qN]⟩
theorem C8 {t E:TypeId} {u:Ty} {z:u.den} (qV:P.underlying t=some (.slice E)) (vg:yF P E u) (hu:u.zW=true) (hz:u.zero=some z) (ht:∀ b,g.tag b≠.zt->b < w.heap.size)
  (kl kc:IntKind) (l m:Int) (AP:0<=l) (Cy:l<=m) (kT:m<=4294967296) (z6:qp) :
  ∃ cells,(Instr.makeSlice t (.int kl l) (.int kc m)).run P w = .ok (.slice (some ⟨w.heap.size,0,none⟩) l.toNat m.toNat) (w.alloc (.cells cells E))/\
   zo (w.alloc (.cells cells E)) (qN g w.heap.size base (.row base []) (.slice (some ⟨w.heap.size,0,none⟩) l.toNat m.toNat)) z6 base (.row u (List.replicate l.toNat z) 0):=by
 obtain ⟨i,zv,Gn,VU,Cj,hi4,hi5,hi6⟩:=vg.info;have Wz:(i.bytes:Int)*m<=281474976710656:=by
  have h1:(i.bytes:Int)<=32768:=by omega
  have h2:(i.bytes:Int)*m<=32768*m:=Z3s h1 (by omega);omega
 have zc:=run_make (P:=P) w t E i zv qV Gn hi4 kl kc l m AP Cy Wz (by omega);have Pf:zv.cells.size=u.size:=by rw [<-vf,hi5,qt]
 have vj:(madeCells zv.cells (m.toNat*i.size)).toList=(List.replicate m.toNat (zeroCells u)).flatten:=by
  rw [VU,<-Pf,YD _ _ (by rw [Pf,<-VU];exact hi6),hi5]
 have hlen:(List.replicate l.toNat z).length=l.toNat:=by simp
 have zp:zo (w.alloc (.cells (madeCells zv.cells (m.toNat*i.size)) E)) (qN g w.heap.size base (.row base []) (.slice (some ⟨w.heap.size,0,none⟩) (List.replicate l.toNat z).length m.toNat)) z6 base (.row u (List.replicate l.toNat z) 0):=by
  refine EZ ht hu ?_ ?_ ?_ (fun j hj=>?_) _ _
  ·rw [hlen];omega
  ·unfold maxLen;omega
  ·rw [size_madeCells,VU];exact yN _
  ·rw [vj];have ZD:j < l.toNat:=by rw [<-hlen];exact hj
   have:=jr m.toNat (zeroCells u) j (by omega);rw [qt] at this;rw [this];simp only [LN,List.getElem_replicate];exact wg hu hz
 rw [hlen] at zp;exact ⟨_,zc,zp⟩
theorem z1q {u:Ty} (h:Oy u=true):∃ v,u = .sl true v:=by
 unfold Oy at h;split at h
 ·exact ⟨_,rfl⟩
 ·simp at h
theorem A6 {t E:TypeId} {v:Ty} (qV:P.underlying t=some (.slice E)) (vg:yF P E (.sl true v))
  (kl kc:IntKind) (l m:Int) (AP:0<=l) (Cy:l<=m) (kT:m<=4294967296) (z6:qp) :
  ∃ cells,(Instr.makeSlice t (.int kl l) (.int kc m)).run P w = .ok (.slice (some ⟨w.heap.size,0,none⟩) l.toNat m.toNat) (w.alloc (.cells cells E))/\
   zo (w.alloc (.cells cells E)) (qN g w.heap.size base (.row base []) (.slice (some ⟨w.heap.size,0,none⟩) l.toNat m.toNat)) z6 base (.nest (.sl true v) (List.replicate l.toNat ([]:List v.den)) 0 0 none):=by
 obtain ⟨i,zv,Gn,VU,Cj,hi4,hi5,hi6⟩:=vg.info;have Wz:(i.bytes:Int)*m<=281474976710656:=by
  have h1:(i.bytes:Int)<=32768:=by omega
  have h2:(i.bytes:Int)*m<=32768*m:=Z3s h1 (by omega);omega
 have zc:=run_make (P:=P) w t E i zv qV Gn hi4 kl kc l m AP Cy Wz (by omega);have Pf:zv.cells.size=1:=by rw [<-vf,hi5];rfl
 have zs1:i.size=1:=VU;have vj:(madeCells zv.cells (m.toNat*i.size)).toList=(List.replicate m.toNat (zeroCells (.sl true v))).flatten:=by
  rw [zs1,<-Pf,YD _ _ (by rw [Pf];omega),hi5]
 have hlen:(List.replicate l.toNat ([]:List v.den)).length=l.toNat:=by simp
 refine ⟨_,zc,?_⟩;show zH _ _ (some (base,[])) (.sl true (.sl true v)) (List.replicate l.toNat ([]:List v.den)) _;refine ⟨some ⟨w.heap.size,0,none⟩,m.toNat,by rw [hlen];simp [qN],by rw [hlen];simp [qN],by rw [hlen];omega,by unfold maxLen;omega,.inr ⟨w.heap.size,0,_,E,rfl,by simp [qN],heap_alloc_new w _,?_,fun j hj=>?_⟩⟩
 ·rw [size_madeCells,zs1];simp [Ty.size]
 ·have ZD:j < l.toNat:=by rw [<-hlen];exact hj
  rw [vj];have:=jr m.toNat (zeroCells (.sl true v)) j (by omega);rw [qt] at this;rw [Zf,this];have vD:(List.replicate l.toNat ([]:List v.den)).get ⟨j,hj⟩=[]:=by simp
  show zH _ _ (some (base,[]++[Step.idx (j:Int)])) (.sl true v) ((List.replicate l.toNat ([]:List v.den)).get ⟨j,hj⟩) _;rw [vD];exact ⟨none,0,rfl,by simp [qN],yN _,jt _,.inl ⟨rfl,rfl,rfl⟩⟩
theorem Ft {z6:qp} {u:Ty} {l:List u.den} {v:Value} {b0:Nat} (ho:z6 base=some (.nest u l 0 0 none)) (qE:v.oneCell'=true) :
  zr w (qN g b0 base (.row base []) v) z6 (.nv false base [] 0) v:=by
 simp only [zr];refine ⟨_,⟨v,rfl,qE,fun t l' e i h hx=>?_⟩,rfl⟩;rw [ho] at hx;simp only [zI,Obj.nest.injEq] at hx;obtain ⟨_,_,rfl,rfl,_⟩:=hx;exact ⟨yN _,fun _=>⟨fun _=>by simp [qN],fun h=>(by simp at h)⟩⟩
theorem EX (kN:gn P c.tt) {t:TypeId} {x y:Operand} (ho:o.op = .makeSlice t x y) (zy:zG c.ntmps g w a J) (hf:zJ g J base) (h:yG c J base o k=some r) (hK:vu c.ntmps k r g w J base mo K):o.wp P a w K Q:=by
 simp only [yG,ho] at h;split at h
 ·rename_i ow u YS;split at h
  ·rename_i z kl l kc m hz hx hy
   cases hu:u.zW with
   | false=>
    rw [hu] at h;simp only [zU] at h
    cases hr:Oy u with
    | false=>rw [hr] at h;simp at h
    | true=>
     rw [hr] at h;simp only [zB] at h;obtain ⟨v',rfl⟩:=z1q hr;obtain ⟨hb,h⟩:=qm h;simp only [zA,yR] at hb;obtain ⟨⟨AP,Cy⟩,kT⟩:=hb;obtain ⟨E,v,qV,hv,hvu⟩:=WN kN YS;have vg:yF P E (.sl true v'):=hv.info.congr hvu;obtain ⟨vx,_⟩:=jT (qF zy hx).1;obtain ⟨vy,_⟩:=jT (qF zy hy).1
     ·simp only [Ty.zero,zI] at hz;subst hz;obtain ⟨cells,zc,zp⟩:=A6 (P:=P) (base:=base) (w:=w) (g:=g) qV vg kl kc l m AP Cy kT (J.setObj base (.nest (.sl true v') (List.replicate l.toNat ([]:List v'.den)) 0 0 none)).z6;refine VI (tg:=.row base []) zy hf (.inr ⟨[],rfl⟩) ?_ rfl zp (fun y hy=>by simp at hy) (Ft (u:=.sl true v') (l:=List.replicate (Int.toNat l) ([]:List v'.den)) (by simp [St.setObj,zR]) rfl) h hK;simp only [execOp,ho,vx,vy]
      simp [zc]
   | true=>
    rw [hu] at h;simp only [zB] at h;obtain ⟨hb,h⟩:=qm h;simp only [zA,yR] at hb;obtain ⟨⟨AP,Cy⟩,kT⟩:=hb;obtain ⟨E,v,qV,hv,hvu⟩:=WN kN YS;have vg:yF P E u:=hv.info.congr hvu;obtain ⟨vx,_⟩:=jT (qF zy hx).1;obtain ⟨vy,_⟩:=jT (qF zy hy).1;obtain ⟨cells,zc,zp⟩:=C8 (P:=P) (base:=base) qV vg hu hz zy.heap.tags kl kc l m AP Cy kT (J.setObj base (.row u (List.replicate l.toNat z) 0)).z6;refine VI (tg:=.row base []) zy hf (.inr ⟨[],rfl⟩) ?_ rfl zp (fun y hy=>by simp at hy) (PR (u:=u) (l:=List.replicate (Int.toNat l) z) (by simp [St.setObj,zR]) rfl) h hK;simp only [execOp,ho,vx,vy];simp [zc]
  ·simp at h
 ·simp at h
theorem AF (off:Nat):(l:List Value)->(j0:Nat)->(cells:Array Value)->off+j0+l.length<=cells.size->
  ((l.zipIdx j0).foldl (fun cs (x:Value×Nat)=>cs.setIfInBounds (off+x.2) x.1) cells).toList=zD cells.toList (off+j0) l
 | [],j0,cells,_=>by simp [zD]
 | x :: l,j0,cells,h=>by
  simp only [Vy] at h;simp only [List.zipIdx_cons,Z26];rw [AF off l (j0+1) _ (by rw [Array.size_setIfInBounds];omega)];simp only [zD,Array.toList_setIfInBounds,Vy];have e1:(cells.toList.set (off+j0) x).take (off+(j0+1))=cells.toList.take (off+j0)++[x]:=by
   rw [<-S0,Z4y (by simp;omega)];simp [List.take_set_of_le]
  have e2:(cells.toList.set (off+j0) x).drop (off+(j0+1)+l.length)=cells.toList.drop (off+j0+(l.length+1)):=by
   rw [List.drop_set_of_lt (by omega)];congr 1;omega
  rw [e1,e2];simp
theorem UG {size:Nat}:(vs:List Value)->(j:Nat)->(cells:Array Value)->(∀ v∈vs,v.cells.size=size)->(j+vs.length)*size<=cells.size->
  ∃ qn,Instr.fill (fun i=>some (i*size,size)) cells (za j vs)=some qn/\
   qn.toList=cells.toList.take (j*size)++(vs.map (·.cells.toList)).flatten++cells.toList.drop ((j+vs.length)*size)
 | [],j,cells,_,h=>⟨cells,rfl,by simp⟩
 | v :: vs,j,cells,hv,h=>by
  have h0:=hv v (by simp);simp only [Vy] at h;have hmul:(j+(vs.length+1))*size=j*size+size+vs.length*size:=by rw [wB,wB];omega
  have z4x:(j+1+vs.length)*size=j*size+size+vs.length*size:=by rw [wB,wB];omega
  have z5d:=AF (j*size) v.cells.toList 0 cells (by rw [vf,h0];omega);let Z9:Array Value:=(v.cells.toList.zipIdx 0).foldl (fun cs (x:Value×Nat)=>cs.setIfInBounds (j*size+x.2) x.1) cells;have GQ:Z9.toList=zD cells.toList (j*size) v.cells.toList:=z5d;have Z3:Z9.size=cells.size:=by
   rw [<-vf,GQ,yI _ _ _ (by rw [vf,vf,h0];omega),vf]
  obtain ⟨qn,h1,h2⟩:=UG vs (j+1) Z9 (fun u hu=>hv u (by simp [hu])) (by rw [Z3,z4x];omega);refine ⟨qn,?_,?_⟩
  ·simp only [za,Instr.fill];rw [qZ (by simp [h0];omega)];rw [<-h1];congr 1;show v.cells.zipIdx.foldl _ cells=Z9;rw [<-Array.foldl_toList,Array.toList_zipIdx]
  ·rw [h2,GQ];have Ux:v.cells.toList.length=size:=by rw [vf,h0]
   have e1:(zD cells.toList (j*size) v.cells.toList).take ((j+1)*size)=cells.toList.take (j*size)++v.cells.toList:=by
    simp only [zD];rw [Z3l (by simp [Ux];rw [wB];omega)];rw [Z2n (by simp [Ux];rw [wB];omega)]
   have e2:(zD cells.toList (j*size) v.cells.toList).drop ((j+1+vs.length)*size)=cells.toList.drop ((j+(vs.length+1))*size):=by
    obtain ⟨q,hq⟩:∃ q,(j+1+vs.length)*size=(j*size+size)+q:=⟨vs.length*size,z4x⟩;have TK:(j+(vs.length+1))*size=j*size+size+q:=by rw [hmul];rw [z4x] at hq;omega
    rw [hq,TK];simp only [zD];rw [Z3m,MZ (by simp [Ux];omega),QP,Nd];congr 1;simp [Ux];omega
   rw [e1,e2];simp [Gj]
theorem Hr {u:Ty} (hu:u.zW=true):{l:List (Nat×Operand)}->{J:St}->{g:z8}->{k:List u.den->St->Option R}->{r:R}->{n:Nat}->
  zG n g w a J->parts J u l k=some r->
  ∃ ds J' g' P7,k ds J'=some r/\J'.zk=J.zk/\J'.next=J.next/\jJ g J.z6 g' J'.z6/\ds.length=l.length/\
   l.map (fun x=>(a.eval x.2).cells.toList)=P7/\(∀ cs∈P7,cs.length=u.size)/\
   ∀ (i:Nat) (h:i < ds.length) (h':i < P7.length),zH w g' none u (ds.get ⟨i,h⟩) (P7.get ⟨i,h'⟩)
 | [],J,g,k,r,n,zy,h=>⟨[],J,g,[],h,rfl,rfl,.refl _ _,rfl,rfl,by simp,fun i h=>by simp at h⟩
 | (j,x) :: l,J,g,k,r,n,zy,h=>by
  simp only [parts] at h;split at h
  ·rename_i av U3;obtain ⟨ex,ef⟩:=qF zy U3
   cases hb:av.val with
   | false=>rw [hb] at h;simp at h
   | true=>
    rw [hb] at h;simp only [zB] at h;obtain ⟨cs,zS,Qf,vj⟩:=jn hb ex;obtain ⟨d,J1,g1,hk,h1,h2,h3,zC⟩:=gq 20 zy.heap zS hu h;obtain ⟨ds,J2,g2,P7,PX,h4,h5,h6,h7,h8,h9,Ih⟩:=Hr hu (h3.st h1 zy) hk;refine ⟨d :: ds,J2,g2,cs :: P7,PX,h4.trans h1,h5.trans h2,h3.trans h6,by simp [h7],?_,?_,?_⟩
    ·simp only [WY,vj,h8]
    ·intro c hc;rcases pK.1 hc with rfl | hc
     ·exact zC.len
     ·exact h9 c hc
    ·intro i hi wT
     cases i with
     | zero=>exact zC.kept (h6.ro w)
     | succ i=>exact Ih i (by simpa using hi) (by simpa using wT)
  ·simp at h
theorem kK:{l:List (Nat×Operand)}->{j:Nat}->xR j l=true->(f:Operand->Value)->l.map (fun x=>(x.1,f x.2))=za j (l.map fun x=>f x.2)
 | [],_,_,_=>rfl
 | (i,x) :: l,j,h,f=>by
  simp only [xR,zA] at h;have he:=zE h.1;simp only [WY,za,kK h.2 f,he]
theorem C7 (kN:gn P c.tt) {t:TypeId} {len:Nat} {ps:Array (Nat×Operand)} (ho:o.op = .buildSlice t len ps) (zy:zG c.ntmps g w a J) (hf:zJ g J base)
  (Oa:∀ ow u,CD c o.dst t=some (.sl ow u)->GR u=true->len*u.size<=100000->OP c J base o.dst u len ps.toList k=some r->o.wp P a w K Q)
  (h:yG c J base o k=some r) (hK:vu c.ntmps k r g w J base mo K):o.wp P a w K Q:=by
 simp only [yG,ho] at h;split at h
 ·rename_i ow u YS
  cases hb:(u.zW && xR 0 ps.toList && Nat.beq ps.toList.length len && Nat.ble (len*u.size) 100000) with
  | false=>
   rw [hb] at h;simp only [zU] at h
   cases w5:(GR u && Nat.ble (len*u.size) 100000) with
   | false=>rw [w5] at h;simp at h
   | true=>
    rw [w5] at h;simp only [zA] at w5
    exact Oa ow u YS w5.1 (zL w5.2) h
  | true=>
   rw [hb] at h;simp only [zB] at h;simp only [zA] at hb;obtain ⟨⟨⟨hu,V8⟩,hlen⟩,Ck⟩:=hb;have hlen:=zE hlen;have Ck:=zL Ck;obtain ⟨E,v,qV,hv,hvu⟩:=WN kN YS;have vg:yF P E u:=hv.info.congr hvu;obtain ⟨i,zv,Gn,VU,Cj,hi4,hi5,hi6⟩:=vg.info;obtain ⟨ds,J1,g1,P7,hk,h1,h2,h3,h4,h5,h6,h7⟩:=Hr hu zy h;have yP:=h3.st h1 zy;have Qc:=h3.fresh h1 hf;let vs:List Value:=ps.toList.map fun x=>a.eval x.2
   have WX:∀ v∈vs,v.cells.size=u.size:=by
    intro v hv;obtain ⟨x,hx,rfl⟩:=Gq.1 hv;rw [<-vf];exact h6 _ (by rw [<-h5];exact Gq.2 ⟨x,hx,rfl⟩)
   have Ux:vs.length=len:=by simp [vs];rw [<-hlen];simp
   let WC:Array Value:=(Array.range (len*i.size)).map (zv.cells[· % zv.cells.size]!);let zvk:Array Value:=(Array.range (len*i.size)).map ((#[]:Array Value)[· % (#[]:Array Value).size]!);have z4b:WC.size=len*u.size:=by simp [WC,VU]
   obtain ⟨cells,PA,gE⟩:=UG vs 0 WC WX (by rw [z4b,Zf,Ux];exact yN _);have U0:cells.toList=P7.flatten:=by
    rw [gE];simp only [Z2d,Ti,QP,Zf,Ux];rw [MZ (by rw [vf,z4b];exact yN _),Di];rw [<-h5];simp [vs];rfl
   have IT:P7.length=len:=by rw [<-h5];simp [<-hlen]
   have AW:ps.toList.map (fun x=>(x.1,a.eval x.2))=za 0 vs:=kK V8 a.eval;have zc:(Instr.buildSlice t len (ps.map fun x=>(x.1,a.eval x.2))).run P w = .ok (.slice (some ⟨w.heap.size,0,none⟩) len len) (w.alloc (.cells cells E)):=by
    have IB:¬ (2 ^ 24 < len*i.size):=by rw [VU];omega
    unfold Instr.buildSlice;simp only [Sem.run_bind,run_underlying qV,Result.andThen_ok];by_cases hz:len*i.size=0
    ·have AP:len=0:=by
      rcases Nat.mul_eq_zero.1 hz with h0 | h0
      ·exact h0
      ·omega
     have TG:ps = #[]:=by apply Fm.1;exact Z27 (hlen.trans AP)
     have Mg:cells.toList=[]:=by
      rw [U0,Z27 (IT.trans AP)];rfl
     have zlk:cells = #[]:=by apply Fm.1;rw [Mg]
     simp [Go.sizeOf,typeInfo,Gn,AP,TG,Instr.fill,newRow,zlk,Array.range_zero']
    ·have W6:=PA;simp only [WC] at W6;rw [<-VU] at W6;simp [Go.sizeOf,typeInfo,Gn,IB,hz,zeroValue,hi4,AW,W6,newRow]
   have zp:zo (w.alloc (.cells cells E)) (qN g1 w.heap.size base (.row base []) (.slice (some ⟨w.heap.size,0,none⟩) ds.length len)) (J1.setObj base (.row u ds 0)).z6 base (.row u ds 0):=by
    refine EZ yP.heap.tags hu ?_ ?_ ?_ (fun j hj=>?_) _ _
    ·rw [h4,hlen];exact yN _
    ·have:len*1<=len*u.size:=Nat.mul_le_mul_left _ (by omega);unfold maxLen;omega
    ·rw [<-vf,U0,length_flatten P7 u.size h6,IT];exact yN _
    ·rw [U0,Y5 P7 u.size h6 j (by rw [IT,<-hlen,<-h4];exact hj)];exact h7 j hj _
   have hdl:ds.length=len:=h4.trans hlen;rw [hdl] at zp;have hK1:vu c.ntmps k r g1 w J1 base mo K:=by
    intro J' g' a' w' Bi qT ql vT zrf ve;exact hK J' g' a' w' Bi qT (h3.ext.trans ql) (fun m hm wk=>vT m hm (h3.fresh h1 wk)) (zrf.trans h2) ve
   cases hfz:zst c o.dst with
   | true=>
    rw [hfz] at hk;simp only [zB] at hk;obtain ⟨_,a',uY,hcs',_,hlc',hcm',q5z⟩:=zp;have zC:zH (w.alloc (.cells cells E)) (qN g1 w.heap.size base .ro (.slice (some ⟨w.heap.size,0,none⟩) len len)) none (.sl false u) ds [.slice (some ⟨w.heap.size,0,none⟩) len len]:=by
     refine ⟨some ⟨w.heap.size,0,none⟩,len,by rw [hdl],by rw [hdl];exact yN _,?_,fun je=>⟨w.heap.size,0,cells,E,(0,0),rfl,by simp [qN],heap_alloc_new w _,?_,fun j hj=>?_⟩⟩
     ·have:len*1<=len*u.size:=Nat.mul_le_mul_left _ (by omega);unfold maxLen;omega
     ·rw [hdl,<-vf,U0,length_flatten P7 u.size h6,IT,Zf];exact yN _
     ·rw [Zf,U0,Y5 P7 u.size h6 j (by rw [IT,<-hdl];exact hj)];exact (h7 j hj _).kept (pU yP.heap.tags _)
    refine z0m (v':=.slice (some ⟨w.heap.size,0,none⟩) len len) (t:=.sl false u) yP Qc ?_ (by simpa [Ty.zW] using hu) zC rfl hk hK1;simp only [execOp,ho]
    simp [zc]
   | false=>
   rw [hfz] at hk;simp only [zU] at hk;refine VI (tg:=.row base []) yP Qc (.inr ⟨[],rfl⟩) ?_ rfl zp (fun y hy=>by simp at hy) (PR (u:=u) (l:=ds) (by simp [St.setObj,zR]) rfl) hk hK1;simp only [execOp,ho];simp [zc]
 ·simp at h
end
end Go.Kz
namespace Go.Kz
section
variable {P:Program} {w:World}
theorem xF {T:TypeId} {t:Ty} (h:yF P T t) (w:World):(Go.sizeOf T).run P w = .ok t.size w:=by
 obtain ⟨i,z,h1,h2,_⟩:=h.info;simp [Go.sizeOf,typeInfo,h1,h2]
end
section
variable {R:Type} {P:Program} {o:Oper} {a:Act} {w:World} {c:Ctx} {J:St} {g:z8} {k:St->Option R} {r:R} {base:Nat}
def z8e (P:Program) (w:World) (g:z8) (J:St) (a:Act) (u:Ty) (fs:List Field) (off i:Nat) (l:List (Nat×Operand)) (av:z7):Prop:=
 ∃ pl:List (Nat×Nat),(∀ w',(fs.mapM (m:=Sem) fun f=>do pure (f.offset,<-Go.sizeOf f.type)).run P w' = .ok pl w')/\(∀ m,zJ g J m->m∉av.ids)/\
  ∀ (pre:List (Nat×Nat)) (cells:Array Value),pre.length=i->cells.toList.drop off=zeroCells u->off<=cells.size->
   ∃ qn,Instr.fill (fun i=>(pre++pl).toArray[i]?) cells (l.map fun x=>(x.1,a.eval x.2))=some qn/\qn.toList.take off=cells.toList.take off/\qn.size=cells.size/\jK w g J.z6 av (qn.toList.drop off)
theorem AN {n:Nat} (zy:zG n g w a J):{u:Ty}->{fs:List Field}->{off i:Nat}->{l:List (Nat×Operand)}->{av:z7}->pq J u i l=some av->av.sk=u.sk->jo P u fs off->z8e P w g J a u fs off i l av
 | .unit,[],off,i,[],av,h,_,_=>by
  simp only [pq,zI] at h;subst h;refine ⟨[],fun w'=>rfl,fun m _=>by simp [z7.ids],fun pre cells _ hz _=>⟨cells,rfl,rfl,rfl,?_⟩⟩
  rw [hz];rfl
 | .unit,_ :: _,off,i,l,av,_,_,hf=>by simp [jo] at hf
 | .unit,[],off,i,_ :: _,av,h,_,_=>by simp [pq] at h
 | .pair t u,[],off,i,l,av,_,_,hf=>by simp [jo] at hf
 | .pair t u,f :: fs,off,i,l,av,h,hs,hf=>by
  simp only [jo] at hf;obtain ⟨f1,f2,f3⟩:=hf;have Ea:(zeroCells t).length=t.size:=qt t;have skip:∀ z c,pD t=some z->pq J u (i+1) l=some c->av = .pr z c->z8e P w g J a (.pair t u) (f :: fs) off i l av:=fun z c hz hc U3=>by
   subst U3;simp only [z7.sk,Ty.sk,Sk.pair.injEq] at hs;obtain ⟨z1,z2,z3,z4⟩:=X4 (w:=w) (g:=g) (z6:=J.z6) hz;obtain ⟨pl,p1,p2,p3⟩:=AN zy hc hs.2 f3;exact (⟨(off,t.size) :: pl,fun w'=>by
    have:=p1 w';simp only [List.mapM_cons,Sem.run_bind,xF f2.info,Result.andThen_ok,Sem.run_pure,this,f1],fun m hm=>by
    simp only [z7.ids,z2,QP];exact p2 m hm,fun pre cells pe hzc jZ=>by
    have zkh:cells.toList.drop (off+t.size)=zeroCells u:=by
     rw [<-Nd,hzc];simp only [zeroCells];rw [<-Ea];exact List.drop_left
    have hlen:off+t.size<=cells.size:=by
     have:=Fo List.length hzc;simp only [Hw,zeroCells,VH,vf,Ea] at this;omega
    obtain ⟨qn,q1,q2,q3,q4⟩:=p3 (pre++[(off,t.size)]) cells (by simp [pe]) zkh hlen;refine ⟨qn,by simpa [Gj] using q1,?_,q3,?_⟩
    ·have:=Fo (List.take off) q2;rw [Z33,Z33,Z4i (by omega)] at this;exact this
    ·have e:qn.toList.drop off=zeroCells t++qn.toList.drop (off+t.size):=by
      have h1:qn.toList.drop off=(qn.toList.take (off+t.size)).drop off++qn.toList.drop (off+t.size):=by
       rw [<-Z34 (by simp;omega),Mx]
      rw [h1,q2];congr 1;rw [Z46,hzc,show off+t.size-off=t.size from by omega,<-Ea];simp only [zeroCells];exact List.take_left
     rw [e];exact ⟨_,_,rfl,z3,q4⟩⟩)
  cases l with
  | nil=>
   simp only [pq] at h;split at h
   ·rename_i z c hz hc;simp only [zI] at h;subst h;exact skip z c hz hc rfl
   ·simp at h
  | cons jx l=>
   obtain ⟨j,x⟩:=jx;simp only [pq] at h
   cases hj:Nat.beq i j with
   | false=>
    rw [hj] at h;simp only [zU] at h;split at h
    ·rename_i z c hz hc;simp only [zI] at h;subst h;exact skip z c hz hc rfl
    ·simp at h
   | true=>
    have Qb:=zE hj;subst Qb;rw [hj] at h;simp only [zB] at h;split at h
    ·rename_i v c hv hc
     cases hval:v.val with
     | false=>rw [hval] at h;simp at h
     | true=>
      rw [hval] at h;simp only [zB,zI] at h;subst h;simp only [z7.sk,Ty.sk,Sk.pair.injEq] at hs;obtain ⟨pl,p1,p2,p3⟩:=AN zy hc hs.2 f3;obtain ⟨e1,e2⟩:=qF zy hv;obtain ⟨cs,c1,c2,c3⟩:=jn hval e1;have qC:(a.eval x).cells.size=t.size:=by rw [<-vf,c3,c1.len,hs.1,Ty.zQ]
      refine ⟨(off,t.size) :: pl,fun w'=>by
       have:=p1 w';simp only [List.mapM_cons,Sem.run_bind,xF f2.info,Result.andThen_ok,Sem.run_pure,this,f1],fun m hm=>by
       simp only [z7.ids,U5,not_or];exact ⟨e2 m hm,p2 m hm⟩,fun pre cells pe hzc jZ=>?_⟩
      have hlen:off+t.size<=cells.size:=by
       have:=Fo List.length hzc;simp only [Hw,zeroCells,VH,vf,Ea] at this;omega
      have z5d:=AF off (a.eval x).cells.toList 0 cells (by rw [vf];omega);let Z9:Array Value:=((a.eval x).cells.toList.zipIdx 0).foldl (fun cs (x:Value×Nat)=>cs.setIfInBounds (off+x.2) x.1) cells;have GQ:Z9.toList=zD cells.toList off (a.eval x).cells.toList:=z5d;have UW:(a.eval x).cells.toList.length=t.size:=by rw [vf,qC]
      have Z3:Z9.size=cells.size:=by
       rw [<-vf,GQ,yI _ _ _ (by rw [UW,vf];omega),vf]
      have htk:(cells.toList.take off).length=off:=by simp;omega
      have zkh:Z9.toList.drop (off+t.size)=zeroCells u:=by
       rw [GQ];simp only [zD];rw [Z3m,MZ (by rw [VH,htk,UW];omega),QP,VH,htk,UW,Z3b,Z3c,<-Nd,hzc];simp only [zeroCells];rw [<-Ea];exact List.drop_left
      obtain ⟨qn,q1,q2,q3,q4⟩:=p3 (pre++[(off,t.size)]) Z9 (by simp [pe]) zkh (by rw [Z3];exact hlen);have z4g:qn.toList.take (off+t.size)=cells.toList.take off++(a.eval x).cells.toList:=by
       rw [q2,GQ];simp only [zD];rw [Z3l (by rw [VH,htk,UW];omega),Z2n (by rw [VH,htk,UW];omega)]
      refine ⟨qn,?_,?_,by rw [q3,Z3],?_⟩
      ·simp only [WY,Instr.fill];have gV:(pre++(off,t.size) :: pl).toArray[i]? = some (off,t.size):=by
        rw [<-pe];simp
       simp only [gV];rw [qZ (by rw [qC];simp;omega)];rw [show pre++(off,t.size) :: pl=pre++[(off,t.size)]++pl from by simp];rw [<-q1];congr 1;show (a.eval x).cells.zipIdx.foldl _ cells=Z9;rw [<-Array.foldl_toList,Array.toList_zipIdx]
      ·have:=Fo (List.take off) z4g;rw [Z33,Z4i (by omega)] at this;rw [this,Z3l (by omega),Z2n (by omega)]
      ·have e:qn.toList.drop off=(a.eval x).cells.toList++qn.toList.drop (off+t.size):=by
        have h1:qn.toList.drop off=(qn.toList.take (off+t.size)).drop off++qn.toList.drop (off+t.size):=by
         rw [<-Z34 (by simp;omega),Mx]
        rw [h1,z4g];congr 1;rw [Z3m,MZ (by omega),QP,htk,Z3b,Z3c]
       rw [e,c3];exact ⟨_,_,rfl,c1,q4⟩
    ·simp at h
 | .int _,fs,_,_,l,_,h,_,_=>by simp [pq] at h
 | .bool,fs,_,_,l,_,h,_,_=>by simp [pq] at h
 | .str,fs,_,_,l,_,h,_,_=>by simp [pq] at h
 | .arr _ _,fs,_,_,l,_,h,_,_=>by simp [pq] at h
 | .sl _ _,fs,_,_,l,_,h,_,_=>by simp [pq] at h
 | .ptr _,fs,_,_,l,_,h,_,_=>by simp [pq] at h
 | .fn _ _,fs,_,_,l,_,h,_,_=>by simp [pq] at h
 | .tree _,fs,_,_,l,_,h,_,_=>by simp [pq] at h
theorem DN {z6:qp} {t:Ty}:{av:z7}->{vs:List Value}->{f:List t.den->Option R}->{r:R}->qk w g z6 av vs->j7 t=true->jQ t av f=some r->
  ∃ l:List t.den,f l=some r/\l.length=vs.length/\(∀ v∈vs,v.cells.size=1)/\∀ (i:Nat) (h:i < l.length),zH w g none t (l.get ⟨i,h⟩) (qS ((vs.map (·.cells.toList)).flatten) (i*1) 1)
 | .un,vs,f,r,hv,_,h=>by
  simp only [qk] at hv;subst hv;simp only [jQ] at h
  exact ⟨[],h,rfl,by simp,fun i hi=>by simp at hi⟩
 | .pr (.data u d) c,vs,f,r,hv,hk,h=>by
  simp only [qk] at hv;obtain ⟨v,rest,rfl,h1,h2⟩:=hv;simp only [jQ] at h;obtain ⟨e,h⟩:=qe h;subst e;obtain ⟨l,k1,k2,k3,k4⟩:=DN h2 hk h;simp only [zr] at h1;obtain ⟨cs,⟨_,zC⟩,hval⟩:=h1;have Pm:u.size=1:=by cases u <;> simp [j7] at hk <;> rfl
  have hna:u.sk.isAgg=false:=by cases u <;> simp [j7] at hk <;> rfl
  obtain ⟨z,rfl⟩:=zC.z2w hna;have hvz:v=z:=by rw [hval];simp [vN,z7.isAgg,hna]
  have qE:=zC.one z (by simp);have hc:v.cells.toList=[z]:=by
   subst hvz;cases v <;> simp [Value.oneCell'] at qE <;> rfl
  refine ⟨d :: l,k1,by simp [k2],fun x hx=>?_,fun i hi=>?_⟩
  ·rcases pK.1 hx with rfl | hx
   ·rw [<-vf,hc];rfl
   ·exact k3 x hx
  ·simp only [WY,Z2z,hc]
   cases i with
   | zero=>simpa [qS] using zC
   | succ i=>
    have:=k4 i (by simpa using hi);simp only [Z2j] at this ⊢;have e3:=yZ [z] (rest.map (·.cells.toList)).flatten 1 i 1 rfl;rw [Z39 1 i] at e3;rw [e3]
    exact this
 | .pr (.qD) _,_,_,_,_,_,h=>by simp [jQ] at h
 | .pr (.ref _ _ _) _,_,_,_,_,_,h=>by simp [jQ] at h
 | .pr (.view _ _ _ _ _) _,_,_,_,_,_,h=>by simp [jQ] at h
 | .pr (.zq _ _) _,_,_,_,_,_,h=>by simp [jQ] at h
 | .pr (.vA _ _ _) _,_,_,_,_,_,h=>by simp [jQ] at h
 | .pr (.qz _) _,_,_,_,_,_,h=>by simp [jQ] at h
 | .pr (.nv _ _ _ _) _,_,_,_,_,_,h=>by simp [jQ] at h
 | .pr (.qd _ _) _,_,_,_,_,_,h=>by simp [jQ] at h
 | .pr (.agg _) _,_,_,_,_,_,h=>by simp [jQ] at h
 | .pr (.jV _) _,_,_,_,_,_,h=>by simp [jQ] at h
 | .pr (.pr _ _) _,_,_,_,_,_,h=>by simp [jQ] at h
 | .pr .un _,_,_,_,_,_,h=>by simp [jQ] at h
 | .data _ _,_,_,_,_,_,h=>by simp [jQ] at h
 | .qD,_,_,_,_,_,h=>by simp [jQ] at h
 | .ref _ _ _,_,_,_,_,_,h=>by simp [jQ] at h
 | .view _ _ _ _ _,_,_,_,_,_,h=>by simp [jQ] at h
 | .zq _ _,_,_,_,_,_,h=>by simp [jQ] at h
 | .vA _ _ _,_,_,_,_,_,h=>by simp [jQ] at h
 | .qz _,_,_,_,_,_,h=>by simp [jQ] at h
 | .nv _ _ _ _,_,_,_,_,_,h=>by simp [jQ] at h
 | .qd _ _,_,_,_,_,_,h=>by simp [jQ] at h
 | .agg _,_,_,_,_,_,h=>by simp [jQ] at h
 | .jV _,_,_,_,_,_,h=>by simp [jQ] at h
theorem MB {n0:Nat} (zy:zG n0 g w a J) {u:Ty} (qu:u.zW=true) (hna:u.sk.isAgg=false):∀ (n i:Nat) (ps:List (Nat×Operand)) (f:List u.den->Option R),uA J u n i ps f=some r->
  ∃ l,f l=some r/\List.length l=n/\∀ cells:Array Value,cells.size=i+n->(∀ j,i<=j->j < i+n->[cells[j]?]=(zeroCells u).map some)->
   ∃ qn,Instr.fill (fun i=>some (i*1,1)) cells (ps.map fun x=>(x.1,a.eval x.2))=some qn/\qn.size=cells.size/\(∀ j,j < i->qn[j]? = cells[j]?)/\
    ∀ (j:Nat) (hj:j < List.length l),∃ v,qn[i+j]? = some v/\zH w g none u (List.get l ⟨j,hj⟩) [v]:=by
 have zer:∀ {z:u.den},u.zero=some z->∃ v,zeroCells u=[v]/\zH w g none u z [v]:=by
  intro z hz;have h1:=wg (w:=w) (g:=g) qu hz;obtain ⟨v,hv⟩:=h1.z2w hna;exact ⟨v,hv,by rw [<-hv];exact h1⟩
 intro n
 induction n with
 | zero=>
  intro i ps f h
  cases ps with
  | nil=>exact ⟨[],h,rfl,fun cells hs hz=>⟨cells,rfl,rfl,fun _ _=>rfl,fun j hj=>by simp at hj⟩⟩
  | cons x ps=>simp [uA] at h
 | succ n ih=>
  have skip:∀ (i:Nat) (ps:List (Nat×Operand)) (f:List u.den->Option R) (z:u.den),u.zero=some z->uA J u n (i+1) ps (fun l=>f (z :: l))=some r->
    ∃ l,f l=some r/\List.length l=n+1/\∀ cells:Array Value,cells.size=i+(n+1)->(∀ j,i<=j->j < i+(n+1)->[cells[j]?]=(zeroCells u).map some)->
     ∃ qn,Instr.fill (fun i=>some (i*1,1)) cells (ps.map fun x=>(x.1,a.eval x.2))=some qn/\qn.size=cells.size/\(∀ j,j < i->qn[j]? = cells[j]?)/\
      ∀ (j:Nat) (hj:j < List.length l),∃ v,qn[i+j]? = some v/\zH w g none u (List.get l ⟨j,hj⟩) [v]:=by
   intro i ps f z hz h;obtain ⟨v0,hv0,hrz⟩:=zer hz;obtain ⟨l,k1,k2,k3⟩:=ih (i+1) ps _ h;refine ⟨z :: l,k1,by simp [k2],fun cells hs hzc=>?_⟩;obtain ⟨qn,q1,q2,q3,q4⟩:=k3 cells (by omega) fun j h1 h2=>hzc j (by omega) (by omega)
   refine ⟨qn,q1,q2,fun j hj=>q3 j (by omega),fun j hj=>?_⟩
   cases j with
   | zero=>
    have:=hzc i (yN _) (by omega);rw [hv0] at this;simp only [WY,Z28,BL,U6] at this
    exact ⟨v0,by rw [S1,q3 i (by omega),this],hrz⟩
   | succ j=>
    obtain ⟨v,hv,hr⟩:=q4 j (by simpa using hj);exact ⟨v,by rw [<-hv];congr 1;omega,hr⟩
  intro i ps f h
  cases ps with
  | nil=>
   simp only [uA] at h;split at h
   ·rename_i z hz;exact skip i [] f z hz h
   ·simp at h
  | cons x ps=>
   obtain ⟨j,x⟩:=x;simp only [uA] at h
   cases Qb:Nat.beq i j with
   | false=>
    rw [Qb,zU] at h;split at h
    ·rename_i z hz;exact skip i _ f z hz h
    ·simp at h
   | true=>
    rw [Qb,zB] at h;have q1h:=zE Qb;subst q1h;split at h
    ·rename_i t d hx;obtain ⟨e,h⟩:=qe h;subst e;obtain ⟨l,k1,k2,k3⟩:=ih (i+1) ps _ h;have h1:=(qF zy hx).1;simp only [zr] at h1;obtain ⟨cs,⟨_,zC⟩,hval⟩:=h1;obtain ⟨z,rfl⟩:=zC.z2w hna;have hvz:a.eval x=z:=by rw [hval];simp [vN,z7.isAgg,hna]
     have qE:=zC.one z (by simp);have hc:(a.eval x).cells = #[z]:=by
      rw [hvz];cases z <;> simp [Value.oneCell'] at qE <;> rfl
     refine ⟨_,k1,by simp [k2],fun cells hs hzc=>?_⟩;have kz:(a.eval x).cells.zipIdx.foldl (fun cs (y:Value×Nat)=>cs.setIfInBounds (i*1+y.2) y.1) cells=cells.setIfInBounds i z:=by
      rw [hc];simp
     obtain ⟨qn,q1,q2,q3,q4⟩:=k3 (cells.setIfInBounds i z) (by simp;omega) fun j h1 h2=>by
      rw [Z5n (by omega)];exact hzc j (by omega) (by omega)
     refine ⟨qn,?_,by rw [q2];simp,fun j hj=>by rw [q3 j (by omega),Z5n (by omega)],fun j hj=>?_⟩
     ·simp only [WY,Instr.fill];rw [qZ (by rw [hc];simp;omega)];rw [<-q1];congr 1
     ·cases j with
      | zero=>exact ⟨z,by rw [S1,q3 i (by omega),Array.getElem?_setIfInBounds_self_of_lt (by omega)],zH.y9 qu zC⟩
      | succ j=>
       obtain ⟨v,hv,hr⟩:=q4 j (by simpa using hj);exact ⟨v,by rw [<-hv];congr 1;omega,hr⟩
    ·simp at h
theorem z2j (kN:gn P c.tt) {t:TypeId} {ps:Array (Nat×Operand)} (ho:o.op = .build t ps) (zy:zG c.ntmps g w a J) (h:yG c J base o k=some r):vd P o a w g J c k r:=by
 simp only [yG,ho] at h;split at h
 ·-- a struct
  rename_i x y YS;split at h
  ·rename_i av PA
   cases hb:av.sk.same (Ty.pair x y).sk with
   | false=>rw [hb] at h;simp at h
   | true=>
    rw [hb] at h;simp only [zB] at h;have hs:=Sk.qg hb;have hT:=kN _ _ YS;simp only [qw] at hT;obtain ⟨⟨fs,hu,hf⟩,vg⟩:=hT;obtain ⟨i,z,i1,i2,i3,i4,i5,i6⟩:=vg.info;obtain ⟨pl,p1,p2,p3⟩:=AN (P:=P) zy PA hs hf;obtain ⟨cells,q1,_,_,q4⟩:=p3 [] z.cells rfl (by rw [Z3c,i5]) (jt _);rw [Z3c] at q4;simp only [QP] at q1;have q16:∀ w',(fs.mapM (m:=Sem) fun f=>do pure (f.offset,<-Go.sizeOf f.type)).run P w' = .ok pl.toArray w':=fun w'=>by
     have hp:=p1 w';rw [Array.mapM_eq_mapM_toList,<-bind_pure_comp];simp only [Sem.run_bind,hp,Result.andThen_ok,Sem.run_pure]
    refine QD (v:=.agg cells) (fun w' _=>?_) ?_ (fun m hm=>by have:=p2 m hm;simpa [z7.ids] using this) h
    ·have hz:(zeroValue t).run P w' = .ok z w':=by simp [zeroValue,typeInfo,i1,i4]
     have:(Instr.build t (ps.map fun x=>(x.1,a.eval x.2))).run P w' = .ok (.agg cells) w':=by
      unfold Instr.build;simp only [Sem.run_bind,hz,run_underlying hu,Result.andThen_ok,Sem.run_pure,q16 w',Z2x,q1]
     simp [execOp,ho,this]
    ·simp only [zr];exact ⟨_,by simp only [jK];exact q4,by simp [vN,z7.isAgg]⟩
  ·simp at h
 ·-- an array
  rename_i n u YS;split at h
  ·rename_i av hev
   cases hb:(xR 0 ps.toList && Nat.beq ps.toList.length n && j7 u) with
   | false=>
    rw [hb,zU] at h
    cases w5:(u.zW && !u.sk.isAgg) with
    | false=>rw [w5] at h;simp at h
    | true=>
    rw [w5,zB] at h;simp only [zA,PO] at w5;obtain ⟨qu,hna⟩:=w5;have Pm:u.size=1:=by cases u <;> simp [Ty.sk,Sk.isAgg] at hna <;> simp [Ty.size]
    obtain ⟨l,k1,k2,k3⟩:=MB zy qu hna n 0 ps.toList _ h;have hT:=kN _ _ YS;simp only [qw] at hT;obtain ⟨⟨E,hu,hE⟩,vg⟩:=hT;obtain ⟨i,z,i1,i2,i3,i4,i5,i6⟩:=vg.info;have Ea:(zeroCells u).length=1:=by rw [qt,Pm]
    have Pf:z.cells.size=n:=by
     rw [<-vf,i5];have:=qt (.arr n u);rw [this];simp [Ty.size,Pm]
    obtain ⟨cells,q1,q2,_,q4⟩:=k3 z.cells (by omega) fun j _ hj=>by
     obtain ⟨z0,Eb⟩:∃ z0,zeroCells u=[z0]:=by
      cases hq:zeroCells u with
      | nil=>rw [hq] at Ea;simp at Ea
      | cons x l=>rw [hq] at Ea;simp at Ea;exact ⟨x,by rw [Ea]⟩
     rw [Eb,<-Z2b,i5,zeroCells,Eb];have:(List.replicate n [z0]).flatten=List.replicate n z0:=by simp
     rw [this,List.getElem?_replicate];simp;omega
    refine QD (v:=.agg cells) (fun w' _=>?_) ?_ (fun m _=>by simp [z7.ids]) k1
    ·have hz:(zeroValue t).run P w' = .ok z w':=by simp [zeroValue,typeInfo,i1,i4]
     have qC:=xF hE.info w';rw [Pm] at qC;have:(Instr.build t (ps.map fun x=>(x.1,a.eval x.2))).run P w' = .ok (.agg cells) w':=by
      unfold Instr.build;simp only [Sem.run_bind,hz,run_underlying hu,qC,Result.andThen_ok,Sem.run_pure,Z2x,q1]
     simp [execOp,ho,this]
    ·simp only [zr];refine ⟨cells.toList,⟨by simpa [Ty.zW] using qu,k2,by rw [vf,q2,Pf,Pm];omega,fun j hj=>?_⟩,by simp [vN,z7.isAgg,Ty.sk,Sk.isAgg]⟩;obtain ⟨v,hv,hr⟩:=q4 j hj;rw [Pm];have e:qS cells.toList (j*1) 1=[v]:=by
      have qx:j < cells.size:=by rw [q2,Pf,<-k2];exact hj
      simp only [qS,Z2j];rw [Z2q (by rw [vf];exact qx)];simp only [Z2s,Ti,Z4z];rw [Zf,Z3d qx] at hv;rw [Option.some.inj hv]
     rw [e]
     exact zH.y9 qu hr
   | true=>
    rw [hb] at h;simp only [zB] at h;simp only [zA] at hb;obtain ⟨⟨h1,h2⟩,h3⟩:=hb;have hn:=zE h2;obtain ⟨hv,hf⟩:=Wv zy hev;have Pm:u.size=1:=by cases u <;> simp [j7] at h3 <;> rfl
    have qu:u.zW=true:=by cases u <;> simp [j7] at h3 <;> rfl
    obtain ⟨l,k1,k2,k3,k4⟩:=DN hv h3 h;have hT:=kN _ _ YS;simp only [qw] at hT;obtain ⟨⟨E,hu,hE⟩,vg⟩:=hT;obtain ⟨i,z,i1,i2,i3,i4,i5,i6⟩:=vg.info;have AW:ps.toList.map (fun x=>(x.1,a.eval x.2))=za 0 ((ps.toList.map (·.2)).map a.eval):=by
     rw [kK h1 a.eval,Z4d];rfl
    have Ux:((ps.toList.map (·.2)).map a.eval).length=n:=by simp [<-hn]
    have Pf:z.cells.size=n:=by
     rw [<-vf,i5];have:=qt (.arr n u);rw [this];simp [Ty.size,Pm]
    obtain ⟨cells,f1,f2⟩:=UG (size:=1) ((ps.toList.map (·.2)).map a.eval) 0 z.cells k3 (by rw [Ux,Pf];omega);have gE:cells.toList=(((ps.toList.map (·.2)).map a.eval).map (·.cells.toList)).flatten:=by
     rw [f2,Ux];simp only [Z2d,Ti,QP,Zf,Z2j];rw [MZ (by rw [vf,Pf];exact yN _),Di]
    refine QD (v:=.agg cells) (fun w' _=>?_) ?_ (fun m _=>by simp [z7.ids]) k1
    ·have hz:(zeroValue t).run P w' = .ok z w':=by simp [zeroValue,typeInfo,i1,i4]
     have qC:=xF hE.info w';rw [Pm] at qC;have:(Instr.build t (ps.map fun x=>(x.1,a.eval x.2))).run P w' = .ok (.agg cells) w':=by
      unfold Instr.build;simp only [Sem.run_bind,hz,run_underlying hu,qC,Result.andThen_ok,Sem.run_pure,Z2x,AW,f1]
     simp [execOp,ho,this]
    ·simp only [zr];refine ⟨cells.toList,⟨qu,by rw [k2,Ux],?_,fun j hj=>?_⟩,by simp [vN,z7.isAgg,Ty.sk,Sk.isAgg]⟩
     ·rw [gE,length_flatten _ 1 (fun cs uR=>by
       obtain ⟨v,hv,rfl⟩:=Gq.1 uR;rw [vf];exact k3 v hv),Gy,Ux,Pm]
     ·have:=k4 j hj;rw [Pm,gE];exact zH.y9 qu this
  ·simp at h
 ·simp at h
end
end Go.Kz
namespace Go.Kz
variable {R:Type}
structure kA (w:World) (g:z8) (w':World) (g':z8) (id b0:Nat):Prop where
 heap:∀ b,b≠b0->w'.heap[b]? = w.heap[b]?
 size:w'.heap.size=w.heap.size
 os:w'.os=w.os
 tape:w'.tape=w.tape
 output:w'.output=w.output
 drawn:w'.drawn=w.drawn
 own:(∃ p,g.tag b0 = .row id p)\/g.tag b0 = .box id
 tag:g'.tag=g.tag
 qj:g'.qj=g.qj
 sv:∀ i,i≠id->g'.sv i=g.sv i
theorem kA.zg7 {w w':World} {g g':z8} {id b0:Nat} (h:kA w g w' g' id b0) {b:Nat} (hb:g.tag b = .ro\/g.tag b = .zt):b≠b0:=by
 intro he;subst he;rcases h.own with ⟨p,h⟩ | h <;> rw [h] at hb <;> simp at hb
theorem kA.ro {w w':World} {g g':z8} {id b0:Nat} (h:kA w g w' g' id b0):zT w g w' g':=
 ⟨fun b hb=>⟨by rw [h.tag];exact hb,h.heap b (h.zg7 (.inl hb))⟩⟩
theorem kA.same {w w':World} {g g':z8} {id b0:Nat} (h:kA w g w' g' id b0) {i:Nat} (hi:i≠id):Zh w g w' g' i:=by
 refine ⟨⟨fun q=>by rw [h.sv i hi],fun q b hb=>⟨by rw [h.tag];exact hb,h.heap b ?_⟩⟩,by rw [h.qj],fun hb=>⟨by rw [h.tag];exact hb,h.heap _ ?_⟩⟩
 ·intro he;subst he;rcases h.own with ⟨p,h⟩ | h <;> rw [h] at hb <;> simp at hb;exact hi hb.1.symm
 ·intro he;rw [he] at hb;rcases h.own with ⟨p,h⟩ | h <;> rw [h] at hb <;> simp at hb;exact hi hb.symm
theorem kA.ext {w w':World} {g g':z8} {id b0:Nat} (h:kA w g w' g' id b0):Ext w g w' g':=
 ⟨h.os,h.tape,h.output,Z4g h.drawn.symm,by rw [h.size];exact yN _,fun b _ hb=>⟨h.heap b (h.zg7 (hb.symm.imp _root_.id _root_.id)),by rw [h.tag]⟩⟩
theorem kA.st {n:Nat} {w w':World} {a:Act} {g g':z8} {J:St} {id b0:Nat} {o':Obj} (h:kA w g w' g' id b0) (zy:zG n g w a J)
  (hk:qv g g' id (J.z6 id) (some o')) (zp:zo w' g' (J.setObj id o').z6 id o'):zG n g' w' a (J.setObj id o'):=by
 have uG:∀ i,qv g g' i (J.z6 i) ((J.setObj id o').z6 i):=by
  intro i;by_cases hi:i=id
  ·subst hi;simp only [St.setObj,zR];exact hk
  ·simp only [St.setObj];rw [zi _ _ hi];exact qv.same (h.same hi)
 refine ⟨fun i av hi=>?_,⟨fun i x hx=>?_,fun b hb=>?_⟩,zy.size,zy.defers,zy.known.kept h.ro⟩
 ·obtain ⟨v,hv,zS⟩:=zy.zk i av hi;exact ⟨v,hv,zr.frame h.ro (fun i _=>uG i) zS⟩
 ·by_cases hi:i=id
  ·subst hi;simp only [St.setObj,zR,zI] at hx;subst hx;exact zp
  ·have Gh:J.z6 i=some x:=by simpa [St.setObj,zi _ _ hi] using hx
   exact zo.frame h.ro (h.same hi) (fun y hy i' _=>uG i') (zy.heap.z6 i x Gh)
 ·rw [h.tag] at hb;rw [h.size];exact zy.heap.tags b hb
theorem kA.fresh {w w':World} {g g':z8} {J:St} {id b0 m:Nat} {o':Obj} (h:kA w g w' g' id b0) (hid:J.z6 id≠none) (hc:∀ y,o' = .cell y->m∉y.ids) (hf:zJ g J m):zJ g' (J.setObj id o') m:=by
 have hm:m≠id:=by intro he;subst he;exact hid hf.z6
 refine ⟨by simp only [St.setObj];rw [zi _ _ hm];exact hf.z6,fun b p=>by rw [h.tag];exact hf.row b p,fun b=>by rw [h.tag];exact hf.box b,hf.zk,fun i av hi=>?_⟩;by_cases he:i=id
 ·subst he;simp only [St.setObj,zR,zI] at hi;exact hc av hi
 ·simp only [St.setObj] at hi;rw [zi _ _ he] at hi;exact hf.cells i av hi
theorem jU {w:World} {g:z8} {id b0:Nat} (cs:Array Value) (ZB:(∃ p,g.tag b0 = .row id p)\/g.tag b0 = .box id):kA w g (w.setRow b0 cs) g id b0:=
 ⟨fun b hb=>setRow_other w b0 b cs hb,by simp [World.setRow],rfl,rfl,rfl,rfl,ZB,rfl,rfl,fun _ _=>rfl⟩
section
variable {P:Program} {o:Oper} {a:Act} {w:World} {K:Act->World->Prop} {Q:Exit->Act->World->Prop} {c:Ctx} {J:St} {g:z8} {k:St->Option R} {r:R} {base:Nat} {mo:Bool}
theorem uC {T:TypeId} {u:Ty} (hT:qw P u T) {b off:Nat} {cc:Array Value} {e:TypeId} {v:Value} {cs:List Value} (hc:w.heap[b]? = some (.cells cc e (0,0))) (hv:v.cells.toList=cs)
  (hl:cs.length=u.size) (hs:off+u.size<=cc.size) (h1:∀ x∈cs,x.oneCell'=true) :
  (storeVar T ⟨b,off,none⟩ v).run P w = .ok () (w.setRow b (zD cc.toList off cs).toArray):=by
 have qC:=hT.info.sizeOf w;have WX:v.cells.size=u.size:=by rw [<-vf,hv,hl]
 have zy:=run_storeCells_at P b off e cs 0 cc w hc (by rw [hl];omega) h1;simp only [S1] at zy;simp [storeVar,qC,WX,hv,zy,zD]
theorem wp_skip {J':St} {g':z8} {w':World} (hd:o.dst=none) (zc:(execOp a.eval o).run P w = .ok .skip w') (zy:zG c.ntmps g' w' a J') (ql:Ext w g w' g')
  (vT:∀ m,(m < base\/base+8<=m)->zJ g J m->zJ g' J' m) (hn:J'.next=J.next) (hk:k J'=some r) (ve:mo=false->jc w w') (hK:vu c.ntmps k r g w J base mo K):o.wp P a w K Q:=by
 unfold Oper.wp;rw [zc,Oper.upon_skip,hd];exact hK J' g' a w' hk zy ql vT hn ve
theorem Ss {id:Nat} {t:Ty} {l:List t.den} {e:Nat} {i:Int} {q:Path} {u:Ty} {d:u.den} {cs:List Value} {f:List t.den->Option R} {b0 yC:Nat}
  (hh:yY w g J.z6) (ho:J.z6 id=some (.row t l e)) (hu:u.zW=true) (zC:zH w g none u d cs)
  (gV:place g id (.sl true t) [] 0 0 (.idx i :: q)=some (b0,yC)) (h:jM (.sl true t) l (.idx i :: q) u d f=some r) :
  ∃ l' cc ee,f l'=some r/\l'.length=l.length/\w.heap[b0]? = some (.cells cc ee (0,0))/\g.tag b0 = .row id []/\yC+u.size<=cc.size/\
   zo (w.setRow b0 (zD cc.toList yC cs).toArray) g (J.setObj id (.row t l' e)).z6 id (.row t l' e):=by
 have zp:=hh.z6 id _ ho;simp only [jM,WB] at h;obtain ⟨x,hx,h⟩:=h;obtain ⟨h0,hi,rfl,qx⟩:=ji hx;obtain ⟨ad,cap,uR,qf,Po,Pt,vk⟩:=zp.2;rcases vk with ⟨_,hl,_⟩ | ⟨b,off,cc,ee,rfl,zM,zY,qC,KQ⟩
 ·rw [hl] at hi;simp at hi
 ·have js:=zH.y9 (o':=none) zp.1 (KQ _ hi);obtain ⟨d',o',hk,jZ,hr⟩:=Zu zp.1 js zC h;have kL:place g id (.sl true t) [] 0 0 (.idx i :: q)=some (b,off+i.toNat*t.size+o'):=by
   simp only [place,qf,QP];exact px jZ
  rw [gV] at kL;simp only [zI,gP] at kL;obtain ⟨rfl,rfl⟩:=kL;have hle:=Sk.wi jZ;rw [Ty.zQ,Ty.zQ] at hle;have ZF:(i.toNat+1)*t.size<=cap*t.size:=kn _ (by omega);rw [wB] at ZF;have gE:cs.length=u.size:=zC.len;have ZE:cc.toList.length=cc.size:=vf;refine ⟨_,cc,ee,hk,qH _ _ _,zY,zM,by omega,zp.1,some ⟨b0,off,none⟩,cap,?_,?_,?_,Pt,.inr ⟨b0,off,(zD cc.toList (off+i.toNat*t.size+o') cs).toArray,ee,rfl,zM,?_,?_,fun j hj=>?_⟩⟩
  ·rw [qH,qf]
  ·rw [qH];exact qf
  ·rw [qH];exact Po
  ·exact setRow_heap w b0 cc _ ee _ zY
  ·rw [Z2a,yI _ _ _ (by rw [gE,ZE];omega),ZE];exact qC
  ·have hRo:zT w g (w.setRow b0 (zD cc.toList (off+i.toNat*t.size+o') cs).toArray) g:=(jU (id:=id) _ (.inl ⟨[],zM⟩)).ro;have ZD:j < l.length:=by rw [qH] at hj;exact hj
   have IF:(j+1)*t.size<=cap*t.size:=kn _ (by omega);rw [wB] at IF;rw [Y3];refine zH.y9 zp.1 (o:=none) ?_;by_cases Qb:i.toNat=j
   ·rw [yQ Qb];subst Qb;have e:off+i.toNat*t.size+o'=(off+i.toNat*t.size)+o':=rfl;rw [pw _ _ _ _ _ (by rw [gE];exact hle) (by rw [ZE];omega)];exact hr.kept hRo
   ·rw [qZ Qb];have hold:=(zH.y9 (o':=none) zp.1 (KQ j ZD)).kept hRo;rcases Z3n Qb with W5 | hgt
    ·have h3:(i.toNat+1)*t.size<=j*t.size:=kn _ W5;rw [wB] at h3;rw [vM _ _ _ _ _ (by rw [gE];omega) (by rw [gE,ZE];omega)];exact hold
    ·have h3:(j+1)*t.size<=i.toNat*t.size:=kn _ hgt;rw [wB] at h3;rw [jv _ _ _ _ _ (by omega) (by rw [ZE];omega)];exact hold
end
end Go.Kz
