/-
  Lengths, addresses, loads.
-/
import Derived.Test.YtmoggdcmpoobpaaGreatDoorKzL
import Derived.MapKept
import Derived.Laws.MakeOwn
set_option linter.unusedVariables false
set_option linter.unusedSimpArgs false
namespace Go.Kz
variable {R:Type}
section
variable {P:Program} {o:Oper} {a:Act} {w:World} {K:Act->World->Prop} {Q:Exit->Act->World->Prop} {c:Ctx} {J:St} {g:z8} {k:St->Option R} {r:R} {base:Nat}
theorem VC {b:Bool} {x:Option R} {r:R} (h:cond b x none=some r):b=true/\x=some r:=by
 cases b <;> simp_all
theorem qC {b:Bool} {x:Option R} (h:qR b x=some r):b=true/\x=some r:=by
 cases b <;> simp_all [qR]
def z2k (P : Program) (kt : Ty) (K : TypeId) : Prop := qq P kt K /\ (j7 kt = false -> P.stoodInHeld K = false /\ ∀ fs, P.underlying K = some (.struct fs) -> ∀ f ∈ fs.toList, f.name ≠ "_")
def Ez (P:Program) (mt:Nat->Option (Ty×Ty)):Prop:=∀ t kt vt,mt t=some (kt,vt)->∃ K E,P.underlying t=some (.map K E)/\z2k P kt K/\qq P vt E/\∃ i z,P.info? E=some i/\i.zero=some z/\z=jA vt.sk.isAgg z.cells.toList
theorem xd {J:St} {mt:Option (Ty×Ty)} {a:z7} {f:(id:Nat)->(kt vt:Ty)->List (kt.den×vt.den)->Option R} {r:R} (h:IG J mt a f=some r) :
  ∃ id kt vt m,a = .qA id/\mt=some (kt,vt)/\J.z6 id=some (.map kt vt m)/\kTy kt=true/\vt.qn=true/\f id kt vt m=some r:=by
 unfold IG at h;split at h
 ·rename_i id Ur Pe;split at h
  ·rename_i kt vt m zg
   cases hc:((Ty.same kt Ur).isSome && (Ty.same vt Pe).isSome && kTy kt && vt.qn) with
   | false=>rw [hc] at h;simp at h
   | true=>
    rw [hc] at h;simp only [zA,Z3a] at hc;obtain ⟨⟨⟨⟨e1,_⟩,⟨e2,_⟩⟩,hk⟩,hv⟩:=hc;obtain rfl:=e1.down;obtain rfl:=e2.down;exact ⟨id,kt,vt,m,rfl,rfl,zg,hk,hv,h⟩
  ·simp at h
 ·simp at h
theorem yE.length {w:World} {g:z8} {kt vt:Ty}:{es:List MapEntry}->{m:List (kt.den×vt.den)}->yE w g kt vt es m->es.length=m.length
 | [],[],_=>rfl
 | _ :: _,(_,_) :: _,⟨_,_,h⟩=>by simp [h.length]
 | [],_ :: _,h=>h.elim
 | _ :: _,[],h=>h.elim
theorem Zy {w:World} {g:z8} {z6:qk} {id:Nat} {v:Value} {kt vt:Ty} {m:List (kt.den×vt.den)} (h:zl w g z6 (.qA id) v) (ho:z6 id=some (.map kt vt m)):v = .map (some (g.zt id)):=by
 simp only [zl] at h;obtain ⟨cs,⟨x,rfl,_,hx⟩,hv⟩:=h;rw [hv];exact hx _ _ _ ho
theorem zd7 {args:Array Operand} {ts:Array TypeId} (ho:o.op = .call { callee:=.builtin .len,args:=args,argTypes:=ts }) (kp:gP P c.tt) (Mg:Ez P c.mt)
  (zq:zK c.ntmps g w a J) (h:y9 c J base o k=some r):vN P o a w g J c k r:=by
 simp only [y9,ho] at h;split at h
 ·rename_i x t hargs pB;split at h
  ·rename_i av ot u hx AV;have hT:=kp _ _ AV;simp only [qq] at hT;obtain ⟨⟨E,qg,_⟩,_⟩:=hT;obtain ⟨ex,ef⟩:=qG zq hx;clear ef;have key:∃ n:Nat,(∃ b cp,a.eval x = .slice b n cp)/\n<=maxLen/\(J.qe c o.dst (.data (.int .i64) (n:Int)) k=some r):=by
    unfold zik at h;split at h
    ·have:=Ze.1 ex;exact ⟨0,⟨none,0,this⟩,jE _,h⟩
    ·rename_i ow t' l;simp only [zl] at ex;obtain ⟨cs,⟨qv,zX⟩,hv⟩:=ex
     cases ow with
     | true=>simp [Ty.zV] at qv
     | false=>
      obtain ⟨b,cp,rfl,h1,h2,_⟩:=zX;exact ⟨_,⟨b,cp,hv⟩,by omega,h⟩
    ·obtain ⟨t',l,zg,rfl,_,h⟩:=wE zq.heap h;simp only [zl] at ex;obtain ⟨cs,⟨v,rfl,qL,hv⟩,jb⟩:=ex;have e1:=(hv _ _ _ zg).2 rfl;obtain ⟨b,cp,_,qT,h1,h2,_⟩:=(zq.heap.z6 _ _ zg).2;refine ⟨l.length,⟨b,cp,?_⟩,by omega,h⟩;rw [<-qT,<-e1];exact jb
    ·rename_i id p ep av bv;obtain ⟨t',l,zg,rfl,_,h⟩:=wE zq.heap h;simp only [zl] at ex;obtain ⟨cs,⟨v,rfl,qL,hv⟩,jb⟩:=ex;obtain ⟨_,h0,KY,JW,e1⟩:=(hv _ _ _ zg).2 rfl;obtain ⟨b,cp,_,qT,h1,h2,_⟩:=(zq.heap.z6 _ _ zg).2;refine ⟨(bv-av).toNat,⟨if cp-av.toNat=0 then b else b.map (·.add (av.toNat*t'.size)),cp-av.toNat,?_⟩,by omega,?_⟩
     ·rw [jb];show v=_;rw [e1,qT];rfl
     ·rw [Z2n (by omega)];exact h
    ·obtain ⟨t',l0,e,i,v',l,zg,FB,zX,h,_,_⟩:=Pq zq.heap h;simp only [zl] at ex;obtain ⟨cs,⟨v,rfl,qL,hv⟩,jb⟩:=ex;have e1:=((hv _ _ _ _ _ zg).2 FB).1 rfl;obtain ⟨b,cp,_,qT,h1,h2,_⟩:=zX;refine ⟨l.length,⟨b,cp,?_⟩,by omega,h⟩;rw [<-qT,<-e1];exact jb
    ·simp at h
   obtain ⟨n,⟨b,cp,hv⟩,hn,h⟩:=key;refine Zi (v:=.int .i64 n) ?_ (jl ?_) (fun m _=>by simp [z7.ids]) h
   ·intro w' _;have e1:args = #[x]:=by apply Dr.1;simpa using hargs
    have e2:ts = #[t]:=by apply Dr.1;simpa using pB
    subst e1;subst e2;simp [execOp,ho,resolve,invoke,builtin,Builtin.len_,run_underlying qg,hv,goInt]
   ·simp only [maxLen] at hn;simp only [IntKind.min,IntKind.max,IntKind.bits,IntKind.signed];simp;omega
  ·rename_i l hx AV;have hT:=kp _ _ AV;simp only [qq] at hT;obtain ⟨s,hv,hl,hs⟩:=Kw (l:=l) (qG zq hx).1;subst hl;have qK:s.data.toList.length=s.size:=vX;refine Zi (v:=.int .i64 s.size) ?_ (by rw [qK];refine jl ?_;simp only [maxLen] at hs;simp only [IntKind.min,IntKind.max,IntKind.bits,IntKind.signed];simp;omega) (fun m _=>by simp [z7.ids]) h;intro w' _;have e1:args = #[x]:=by apply Dr.1;simpa using hargs
   have e2:ts = #[t]:=by apply Dr.1;simpa using pB
   subst e1;subst e2;simp [execOp,ho,resolve,invoke,builtin,Builtin.len_,run_underlying hT.1,hv,goInt]
  ·rename_i av hx AV _;obtain ⟨id,kt,vt,m,rfl,AG,zg,_,_,h⟩:=xd h;obtain ⟨hlen,h⟩:=qC h;obtain ⟨K,E,qg,_,_⟩:=Mg _ _ _ AG;obtain ⟨ex,_⟩:=qG zq hx;obtain ⟨es,ck,hblk,zH,_,_,zX,_⟩:=zq.heap.z6 _ _ zg;have hv:=Zy ex zg;have hl:=zX.length;have qJ:g.zt id < w.heap.size:=zq.heap.tags _ (by rw [zH];simp);refine Zi (v:=.int .i64 m.length) ?_ (jl ?_) (fun m _=>by simp [z7.ids]) h
   ·intro w' vl;replace vl:=vl (by simp [isP,ho]);have e1:args = #[x]:=by apply Dr.1;simpa using hargs
    have e2:ts = #[t]:=by apply Dr.1;simpa using pB
    subst e1;subst e2;have Zg:w'.heap[g.zt id]? = some (.map es ck):=by rw [vl _ qJ];exact hblk
    have qK:es.size=m.length:=by rw [<-hl,vX]
    have hg:(getObj (g.zt id)).run P w' = .ok (.map es ck) w':=by simp [getObj,Sem.run,Zg]
    simp [execOp,ho,resolve,invoke,builtin,Builtin.len_,run_underlying qg,hv,goInt,hg,qK]
   ·have:m.length<=room:=by simpa using hlen
    simp only [room] at this;simp only [IntKind.min,IntKind.max,IntKind.bits,IntKind.signed];simp;omega
  ·simp at h
 ·simp at h
theorem yF.sizeOf {T:TypeId} {t:Ty} (h:yF P T t) (w:World):(sizeOf T).run P w = .ok t.size w:=by
 obtain ⟨i,z,hi,hs,_⟩:=h.info;simp [Go.sizeOf,typeInfo,hi,hs]
theorem run_indexAt_slice {T E:TypeId} {t:Ty} (hT:P.underlying T=some (.slice E)) (hE:yF P E t) (b off len cap:Nat) (ki:IntKind) (i:Int) (h0:0<=i) (h1:i < len) (w:World) :
  (Instr.indexAt T (.slice (some ⟨b,off,none⟩) len cap) (.int ki i)).run P w = .ok (.pointer (some ⟨b,off+i.toNat*t.size,none⟩)) w:=by
 have hs:=hE.sizeOf w;simp [Instr.indexAt,asIntOf,run_underlying hT,h0,h1,hs,Addr.add_lit]
theorem pG {T E:TypeId} {t:Ty} {n:Nat} (hT:P.underlying T=some (.array n E)) (hE:yF P E t) (b off:Nat) (ki:IntKind) (i:Int) (h0:0<=i) (h1:i < n) (w:World) :
  (Instr.indexAt T (.pointer (some ⟨b,off,none⟩)) (.int ki i)).run P w = .ok (.pointer (some ⟨b,off+i.toNat*t.size,none⟩)) w:=by
 have hs:=hE.sizeOf w;simp [Instr.indexAt,Instr.sureAddr,asIntOf,run_underlying hT,h0,h1,hs,Addr.add_lit]
theorem Wx {I:Type} {l:List I} {i:Int} (h:gU l i=true):0<=i/\i < (l.length:Int):=by
 simpa [gU] using h
theorem Ap {t:TypeId} {x i:Operand} {id:Nat} {p:Path} {ep:Nat} {ow':Bool} {u':Ty} {j:Int} {ki:IntKind} (hT:qq P (.sl ow' u') t) (ho:o.op = .indexAddr t x i) (zq:zK c.ntmps g w a J)
  (hx:ev J x=some (.nv false id p ep)) (vi:a.eval i = .int ki j) (ef:∀ m,zY g J m->m∉(z7.nv false id p ep).ids) (ex:zl w g J.z6 (.nv false id p ep) (a.eval x))
  (h:(UH J id p ep fun t l=>cond (t.sk.same u'.sk) (qR (gU l j) (J.qe c o.dst (.nv true id (p++[.idx j]) (Pv J id)) k)) none)=some r):vN P o a w g J c k r:=by
 simp only [qq] at hT;obtain ⟨⟨E,qg,hE⟩,_⟩:=hT;obtain ⟨t0,l0,e0,i0,t',l,zg,FB,zX,h,hq,xx,gy⟩:=Pq zq.heap h
 cases hs:t'.sk.same u'.sk with
 | false=>rw [hs] at h;simp at h
 | true=>
  rw [hs] at h;have w7:=Sk.qw hs;have qK:u'.size=t'.size:=by rw [<-Ty.zZ,<-Ty.zZ,w7]
  simp only [zD] at h;obtain ⟨Qv,h⟩:=qC h;obtain ⟨h0,qJ⟩:=Wx Qv;simp only [zl] at ex;obtain ⟨cs,⟨v,rfl,qL,hv⟩,jb⟩:=ex;have e1:=((hv _ _ _ _ _ zg).2 FB).1 rfl;obtain ⟨ad,cp,_,qT,h1,h2,h3⟩:=zX;rcases h3 with ⟨_,hl,_⟩ | ⟨bk,off,cc,e,rfl,zH,zQ,Ge,jo⟩
  ·rw [hl] at qJ;simp at qJ;omega
  ·have uc:a.eval x = .slice (some ⟨bk,off,none⟩) l.length cp:=by rw [<-qT,<-e1];exact jb
   refine Zi (v:=.pointer (some ⟨bk,off+j.toNat*t'.size,none⟩)) ?_ ?_ (fun m hm=>by have:=ef m hm;simpa [z7.ids] using this) h
   ·intro w' _;simp [execOp,ho,uc,vi,run_indexAt_slice qg hE.info bk off _ cp ki j h0 qJ w',qK]
   ·simp only [zl];refine ⟨_,⟨_,rfl,rfl,fun t1 l1 e1 i1 h1 qN=>?_⟩,rfl⟩;rw [zg] at qN;simp only [zI,Obj.nest.injEq] at qN;obtain ⟨rfl,_,rfl,rfl,_⟩:=qN;have Qv:Pv J id=i0:=by simp [Pv,zg]
    rw [Qv];refine ⟨yS _,fun _=>⟨fun h=>(by simp at h),fun _=>⟨by simp,bk,off+j.toNat*t'.size,kH (x:=xx) hq gy (by simpa using qT),rfl⟩⟩⟩
theorem Au {t:TypeId} {x i:Operand} {id:Nat} {ep:Nat} {ow':Bool} {u':Ty} {j:Int} {ki:IntKind} (hT:qq P (.sl ow' u') t) (ho:o.op = .indexAddr t x i) (zq:zK c.ntmps g w a J)
  (vi:a.eval i = .int ki j) (ef:∀ m,zY g J m->m∉(z7.nv false id [] ep).ids) (ex:zl w g J.z6 (.nv false id [] ep) (a.eval x))
  (h:(TL J id ep u' j fun v=>J.qe c o.dst v k)=some r):vN P o a w g J c k r:=by
 simp only [qq] at hT;obtain ⟨⟨E,qg,hE⟩,_⟩:=hT;unfold TL at h;split at h
 ·rename_i t' l e n hp zg
  cases hs:(Nat.beq e ep && t'.sk.same u'.sk) with
  | false=>rw [hs] at h;simp at h
  | true=>
   rw [hs] at h;simp only [zA] at hs;have FD:=zE hs.1;subst FD;have w7:=Sk.qw hs.2;have qK:u'.size=t'.size:=by rw [<-Ty.zZ,<-Ty.zZ,w7]
   simp only [zD] at h;obtain ⟨Qv,h⟩:=qC h;obtain ⟨h0,qJ⟩:=Wx Qv;simp only [zl] at ex;obtain ⟨cs,⟨v,rfl,qL,hv⟩,jb⟩:=ex;have e1:=((hv _ _ _ _ _ zg).2 rfl).1 rfl;obtain ⟨⟨bk,off,cp,qT⟩,_⟩:=zq.heap.z6 _ _ zg;have uc:a.eval x = .slice (some ⟨bk,off,none⟩) l.length cp:=by rw [<-qT,<-e1];exact jb
   refine Zi (v:=.pointer (some ⟨bk,off+j.toNat*t'.size,none⟩)) ?_ ?_ (fun m hm=>by have:=ef m hm;simpa [z7.ids] using this) h
   ·intro w' _;simp [execOp,ho,uc,vi,run_indexAt_slice qg hE.info bk off _ cp ki j h0 qJ w',qK]
   ·simp only [zl];refine ⟨_,⟨_,rfl,rfl,fun t1 l1 e1 i1 h1 qN=>?_⟩,rfl⟩;rw [zg] at qN;simp only [zI,Obj.nest.injEq] at qN;obtain ⟨rfl,_,rfl,rfl,_⟩:=qN;refine ⟨yS _,fun _=>⟨fun h=>(by simp at h),fun _=>⟨by simp,bk,off+j.toNat*t'.size,?_,rfl⟩⟩⟩;exact kH (p:=[]) (x:=(0,0)) rfl (by simp [place]) (by simpa using qT)
 ·simp at h
theorem Fe:{u:Ty}->{fs:List Field}->{yB i:Nat}->jm P u fs yB->(vz u (qV i)).isSome=true->
  ∃ f s,fs[i]? = some f/\vz u (qV i)=some s/\qq P s f.type/\∃ o,u.sk.off (qV i)=some (o,s.sk)/\yB+o=f.offset
 | .pair a b,f :: fs,yB,0,h,hi=>by
  simp only [jm] at h
  exact ⟨f,a,rfl,by simp [qV,vz],h.2.1,0,by simp [qV,Ty.sk,Sk.off],by rw [h.1];omega⟩
 | .pair a b,f :: fs,yB,i+1,h,hi=>by
  simp only [jm] at h;simp only [qV,vz] at hi;obtain ⟨f',s,h1,h2,h3,o,h4,h5⟩:=Fe h.2.2 hi;refine ⟨f',s,by simpa using h1,by simpa [qV,vz] using h2,h3,a.size+o,?_,by omega⟩
  simp [qV,Ty.sk,Sk.off,h4,Ty.zZ]
 | .pair _ _,[],_,_,h,_=>by simp [jm] at h
 | .unit,_,_,i,_,hi=>by cases i <;> simp [qV,vz] at hi
 | .int _,_,_,_,h,_=>by simp [jm] at h
 | .bool,_,_,_,h,_=>by simp [jm] at h
 | .str,_,_,_,h,_=>by simp [jm] at h
 | .arr _ _,_,_,_,h,_=>by simp [jm] at h
 | .sl _ _,_,_,_,h,_=>by simp [jm] at h
 | .ptr _,_,_,_,h,_=>by simp [jm] at h
 | .fn _ _,_,_,_,h,_=>by simp [jm] at h
 | .tree _,_,_,_,h,_=>by simp [jm] at h
theorem Ni {u:Ty} {i:Nat} (h:(vz u (qV i)).isSome=true):∃ a b,u = .pair a b:=by
 cases u with
 | pair a b=>exact ⟨a,b,rfl⟩
 | _=>cases i <;> simp [qV,vz] at h
theorem py {T:TypeId} {u:Ty} {i:Nat} (hT:qq P u T) (hi:(vz u (qV i)).isSome=true) (b off:Nat) :
  ∃ o s,u.sk.off (qV i)=some (o,s)/\∀ w,(Instr.fieldAt T (.pointer (some ⟨b,off,none⟩)) i).run P w = .ok (.pointer (some ⟨b,off+o,none⟩)) w:=by
 obtain ⟨x,y,rfl⟩:=Ni hi;simp only [qq] at hT;obtain ⟨⟨fs,qg,Ct⟩,_⟩:=hT;obtain ⟨f,s,h1,h2,h3,o,h4,h5⟩:=Fe Ct hi;refine ⟨o,s.sk,h4,fun w=>?_⟩;have hf:fs[i]? = some f:=by rw [<-Z22];exact h1
 obtain ⟨inf,z,G2,Jd,_,_,_,AX⟩:=h3.info.info;have vI:¬ inf.size=0:=by omega
 have ho:f.offset=o:=by omega
 simp [Instr.fieldAt,Instr.sureAddr,run_underlying qg,hf,fieldPlace,Go.sizeOf,typeInfo,G2,vI,Addr.add_lit,ho]
theorem YR:{t:Ty}->{d:t.den}->{p:Path}->{f:(u:Ty)->u.den->Option R}->t.zV=true->za t d p f=some r->(vz t p).isSome=true
 | t,d,[],f,_,_=>by simp [vz]
 | .pair a b,(x,y),.fst :: p,f,ht,h=>by simp only [za] at h;simp only [Ty.zV,zA] at ht;simp only [vz];exact YR ht.1 h
 | .pair a b,(x,y),.snd :: p,f,ht,h=>by simp only [za] at h;simp only [Ty.zV,zA] at ht;simp only [vz];exact YR ht.2 h
 | .arr n t,l,.idx i :: p,f,ht,h=>by
  simp only [za,VN] at h;obtain ⟨x,_,h⟩:=h
  simp only [vz];exact YR (by simpa [Ty.zV] using ht) h
 | .sl true t,l,.idx i :: p,_,ht,h=>by simp [Ty.zV] at ht
 | .sl false t,l,s :: p,_,_,h=>by cases s <;> simp [za] at h
 | .sl true t,l,.fst :: p,_,_,h=>by simp [za] at h
 | .sl true t,l,.snd :: p,_,_,h=>by simp [za] at h
 | .int _,_,s :: _,_,_,h=>by cases s <;> simp [za] at h
 | .bool,_,s :: _,_,_,h=>by cases s <;> simp [za] at h
 | .str,_,s :: _,_,_,h=>by cases s <;> simp [za] at h
 | .unit,_,s :: _,_,_,h=>by cases s <;> simp [za] at h
 | .ptr _,_,s :: _,_,_,h=>by cases s <;> simp [za] at h
 | .fn _ _,_,s :: _,_,_,h=>by cases s <;> simp [za] at h
 | .tree _,_,s :: _,_,_,h=>by cases s <;> simp [za] at h
 | .pair _ _,_,.idx _ :: _,_,_,h=>by simp [za] at h
 | .arr _ _,_,.fst :: _,_,_,h=>by simp [za] at h
 | .arr _ _,_,.snd :: _,_,_,h=>by simp [za] at h
theorem Zx:{t u:Ty}->{p:Path}->t.sk=u.sk->(vz t p).isSome=true->(vz u p).isSome=true
 | _,_,[],_,_=>by simp [vz]
 | .pair a b,.pair c d,.fst :: p,hs,h=>by simp only [Ty.sk,Sk.pair.injEq] at hs;simp only [vz] at h ⊢;exact Zx hs.1 h
 | .pair a b,.pair c d,.snd :: p,hs,h=>by simp only [Ty.sk,Sk.pair.injEq] at hs;simp only [vz] at h ⊢;exact Zx hs.2 h
 | .arr n t,.arr m u,.idx i :: p,hs,h=>by simp only [Ty.sk,Sk.arr.injEq] at hs;simp only [vz] at h ⊢;exact Zx hs.2 h
 | .pair a b,u,.fst :: p,hs,h=>by cases u <;> simp [Ty.sk] at hs;simp only [vz] at h ⊢;exact Zx hs.1 h
 | .pair a b,u,.snd :: p,hs,h=>by cases u <;> simp [Ty.sk] at hs;simp only [vz] at h ⊢;exact Zx hs.2 h
 | .arr n t,u,.idx i :: p,hs,h=>by cases u <;> simp [Ty.sk] at hs;simp only [vz] at h ⊢;exact Zx hs.2 h
 | .int _,_,s :: _,_,h=>by cases s <;> simp [vz] at h
 | .bool,_,s :: _,_,h=>by cases s <;> simp [vz] at h
 | .str,_,s :: _,_,h=>by cases s <;> simp [vz] at h
 | .unit,_,s :: _,_,h=>by cases s <;> simp [vz] at h
 | .ptr _,_,s :: _,_,h=>by cases s <;> simp [vz] at h
 | .fn _ _,_,s :: _,_,h=>by cases s <;> simp [vz] at h
 | .tree _,_,s :: _,_,h=>by cases s <;> simp [vz] at h
 | .sl _ _,_,s :: _,_,h=>by cases s <;> simp [vz] at h
 | .pair _ _,_,.idx _ :: _,_,h=>by simp [vz] at h
 | .arr _ _,_,.fst :: _,_,h=>by simp [vz] at h
 | .arr _ _,_,.snd :: _,_,h=>by simp [vz] at h
theorem uS {id:Nat} {p:Path} {ep:Nat} {f:(u:Ty)->u.den->Option R} (h:p6 J id p ep f=some r):∃ t l,J.z6 id=some (.row t l ep):=by
 unfold p6 at h;split at h
 ·rename_i t l e ho
  cases hb:Nat.beq e ep with
  | false=>rw [hb] at h;simp at h
  | true=>exact ⟨t,l,by rw [ho,zE hb]⟩
 ·simp at h
theorem jN {id:Nat}:{t:Ty}->{pre:Path}->{b off:Nat}->{p q:Path}->{b' Vz o:Nat}->{s s':Sk}->
  place g id t pre b off p=some (b',Vz)->Ju t p=some s->s.off q=some (o,s')->place g id t pre b off (p++q)=some (b',Vz+o)
 | t,pre,b,off,[],q,b',Vz,o,s,s',h,hs,hq=>by
  simp only [place,zI,gB] at h;obtain ⟨rfl,rfl⟩:=h;simp only [Ju,zI] at hs;subst hs
  exact gO hq
 | .pair a c,pre,b,off,.fst :: p,q,b',Vz,o,s,s',h,hs,hq=>by
  simp only [place,ue,Ju] at h hs ⊢;exact jN h hs hq
 | .pair a c,pre,b,off,.snd :: p,q,b',Vz,o,s,s',h,hs,hq=>by
  simp only [place,ue,Ju] at h hs ⊢;exact jN h hs hq
 | .arr n t,pre,b,off,.idx i :: p,q,b',Vz,o,s,s',h,hs,hq=>by
  simp only [place,ue,Ju] at h hs ⊢;exact jN h hs hq
 | .sl true t,pre,b,off,.idx i :: p,q,b',Vz,o,s,s',h,hs,hq=>by
  simp only [place,ue,Ju] at h hs ⊢;split at h
  ·exact jN h hs hq
  ·simp at h
 | .sl false t,_,_,_,s :: _,_,_,_,_,_,_,h,_,_=>by cases s <;> simp [place] at h
 | .sl true t,_,_,_,.fst :: _,_,_,_,_,_,_,h,_,_=>by simp [place] at h
 | .sl true t,_,_,_,.snd :: _,_,_,_,_,_,_,h,_,_=>by simp [place] at h
 | .int _,_,_,_,s :: _,_,_,_,_,_,_,h,_,_=>by cases s <;> simp [place] at h
 | .bool,_,_,_,s :: _,_,_,_,_,_,_,h,_,_=>by cases s <;> simp [place] at h
 | .str,_,_,_,s :: _,_,_,_,_,_,_,h,_,_=>by cases s <;> simp [place] at h
 | .unit,_,_,_,s :: _,_,_,_,_,_,_,h,_,_=>by cases s <;> simp [place] at h
 | .ptr _,_,_,_,s :: _,_,_,_,_,_,_,h,_,_=>by cases s <;> simp [place] at h
 | .fn _ _,_,_,_,s :: _,_,_,_,_,_,_,h,_,_=>by cases s <;> simp [place] at h
 | .tree _,_,_,_,s :: _,_,_,_,_,_,_,h,_,_=>by cases s <;> simp [place] at h
 | .pair _ _,_,_,_,.idx _ :: _,_,_,_,_,_,_,h,_,_=>by simp [place] at h
 | .arr _ _,_,_,_,.fst :: _,_,_,_,_,_,_,h,_,_=>by simp [place] at h
 | .arr _ _,_,_,_,.snd :: _,_,_,_,_,_,_,h,_,_=>by simp [place] at h
end
end Go.Kz
namespace Go.Kz
variable {R:Type}
theorem Ad:(t:Ty)->(RL t).size=t.size
 | .tree k=>(Uu k).symm
 | .int _ | .bool | .str | .unit | .pair _ _ | .arr _ _ | .sl _ _ | .ptr _ | .fn _ _=>rfl
theorem RM:(t:Ty)->(d:t.den)->(z4y t d).ids=[]
 | .tree _,_ | .int _,_ | .bool,_ | .str,_ | .unit,_ | .pair _ _,_ | .arr _ _,_ | .sl _ _,_ | .ptr _,_ | .fn _ _,_=>rfl
theorem z4x {w:World} {g:z8} {ob:qk} {v:Value}:{t:Ty}->{d:t.den}->zl w g ob (.data (.ptr t) d) v->zl w g ob (z4y t d) v
 | .tree k,x,h=>by
  simp only [zl] at h;simp only [z4y,zl];obtain ⟨cs,⟨qv,b,off,c,e,fz,rfl,ht,hb,hs,hr⟩,hv⟩:=h;have hz:(Ty.tree k).size=(Ty.pair (pn k) (pf k)).size:=Uu k;rw [hz] at hs hr
  exact ⟨_,⟨SZ k,b,off,c,e,fz,rfl,ht,hb,hs,zC.Vd.1 hr⟩,hv⟩
 | .int _,_,h | .bool,_,h | .str,_,h | .unit,_,h | .pair _ _,_,h | .arr _ _,_,h | .sl _ _,_,h | .ptr _,_,h | .fn _ _,_,h=>h
section
variable {P:Program} {o:Oper} {a:Act} {w:World} {K:Act->World->Prop} {Q:Exit->Act->World->Prop} {c:Ctx} {J:St} {g:z8} {k:St->Option R} {r:R} {base:Nat}
theorem SX (kp:gP P c.tt) {t:TypeId} {x i:Operand} (ho:o.op = .indexAddr t x i) (zq:zK c.ntmps g w a J) (h:y9 c J base o k=some r):vN P o a w g J c k r:=by
 simp only [y9,ho] at h;split at h
 ·rename_i av ki j u hx hi hu;have hT:=kp _ _ hu;obtain ⟨ex,ef⟩:=qG zq hx;obtain ⟨vi,_⟩:=jF (qG zq hi).1;unfold TQ at h;split at h
  ·-- read-only slice
   rename_i ow t' l ow' u';simp only [qq] at hT;obtain ⟨⟨E,qg,hE⟩,_⟩:=hT
   cases hs:(RL t').sk.same u'.sk with
   | false=>rw [hs] at h;simp at h
   | true=>
    rw [hs] at h;have w7:=Sk.qw hs;have qK:u'.size=t'.size:=by rw [<-Ad t',<-Ty.zZ,<-Ty.zZ,w7]
    simp only [zD,VN] at h;obtain ⟨d,hd,h⟩:=h;obtain ⟨h0,vf,rfl,qJ⟩:=jf hd;simp only [zl] at ex;obtain ⟨cs,⟨qv,zX⟩,hv⟩:=ex
    cases ow with
    | true=>simp [Ty.zV] at qv
    | false=>
     obtain ⟨b,cp,rfl,h1,h2,h3⟩:=zX;obtain ⟨bk,off,cc,e,fz,rfl,zH,zQ,Ge,jo⟩:=h3 (by intro hn;rw [hn] at vf;simp at vf);have jb:a.eval x = .slice (some ⟨bk,off,none⟩) (List.length l) cp:=hv;refine Zi (v:=.pointer (some ⟨bk,off+j.toNat*t'.size,none⟩)) ?_ ?_ (fun m _=>by simp [RM]) h
     ·intro w' _;simp [execOp,ho,jb,vi,run_indexAt_slice qg hE.info bk off _ cp ki j h0 qJ w',qK]
     ·refine z4x ?_;simp only [zl];refine ⟨_,⟨by simpa [Ty.zV] using qv,bk,off+j.toNat*t'.size,cc,e,fz,rfl,zH,zQ,?_,jo _ vf⟩,rfl⟩;have:(j.toNat+1)*t'.size<=List.length l*t'.size:=kj _ vf;rw [wz] at this;omega
  ·-- pointer to a read-only array
   rename_i n t' l m u';simp only [qq] at hT;obtain ⟨⟨E,qg,hE⟩,_⟩:=hT
   cases hs:(Nat.beq n m && t'.sk.same u'.sk) with
   | false=>rw [hs] at h;simp at h
   | true=>
    rw [hs] at h;simp only [zA] at hs;have Zw:n=m:=zE hs.1;subst Zw;have w7:=Sk.qw hs.2;have qK:u'.size=t'.size:=by rw [<-Ty.zZ,<-Ty.zZ,w7]
    simp only [zD,VN] at h;obtain ⟨d,hd,h⟩:=h;rw [Mq] at hd;obtain ⟨h0,vf,rfl,qJ⟩:=jf hd;simp only [zl] at ex;obtain ⟨cs,⟨qv,bk,off,cc,e,fz,rfl,zH,zQ,Ge,hl,pO,jo⟩,hv⟩:=ex;have jb:a.eval x = .pointer (some ⟨bk,off,none⟩):=hv;have Jc:j.toNat < n:=by rw [<-hl];exact vf
    have hmul:(j.toNat+1)*t'.size<=n*t'.size:=kj _ Jc;rw [wz] at hmul;simp only [Ty.size] at Ge;refine Zi (v:=.pointer (some ⟨bk,off+j.toNat*t'.size,none⟩)) ?_ ?_ (fun m _=>by simp [z7.ids]) h
    ·intro w' _;simp [execOp,ho,jb,vi,pG qg hE.info bk off ki j h0 (by omega) w',qK]
    ·simp only [zl];refine ⟨_,⟨by simpa [Ty.zV] using qv,bk,off+j.toNat*t'.size,cc,e,fz,rfl,zH,zQ,by omega,?_⟩,rfl⟩;have:=jo _ vf;simp only [Ty.size] at this;rw [gh _ _ _ _ _ (by omega)] at this;exact this
  ·-- a row of zid own
   rename_i id p ep ow' u';simp only [qq] at hT;obtain ⟨⟨E,qg,hE⟩,_⟩:=hT;obtain ⟨t',l,zg,rfl,qv,h⟩:=wE zq.heap h
   cases hs:t'.sk.same u'.sk with
   | false=>rw [hs] at h;simp at h
   | true=>
    rw [hs] at h;have w7:=Sk.qw hs;have qK:u'.size=t'.size:=by rw [<-Ty.zZ,<-Ty.zZ,w7]
    simp only [zD] at h;obtain ⟨Qv,h⟩:=qC h;obtain ⟨h0,qJ⟩:=Wx Qv;simp only [zl] at ex;obtain ⟨cs,⟨v,rfl,qL,hv⟩,jb⟩:=ex;have e1:=(hv _ _ _ zg).2 rfl;obtain ⟨ad,cp,_,qT,h1,h2,h3⟩:=(zq.heap.z6 _ _ zg).2;rcases h3 with ⟨_,hl,_⟩ | ⟨bk,off,cc,e,rfl,zH,zQ,Ge,jo⟩
    ·rw [hl] at qJ;simp at qJ;omega
    ·have uc:a.eval x = .slice (some ⟨bk,off,none⟩) l.length cp:=by rw [<-qT,<-e1];exact jb
     refine Zi (v:=.pointer (some ⟨bk,off+j.toNat*t'.size,none⟩)) ?_ ?_ (fun m hm=>by have:=ef m hm;simpa [z7.ids] using this) h
     ·intro w' _;simp [execOp,ho,uc,vi,run_indexAt_slice qg hE.info bk off _ cp ki j h0 qJ w',qK]
     ·simp only [zl];refine ⟨_,⟨_,rfl,rfl,fun t1 l1 e1 qN=>?_⟩,rfl⟩;rw [zg] at qN;simp only [zI,Obj.row.injEq] at qN;obtain ⟨rfl,II,rfl⟩:=qN;refine ⟨yS _,fun _=>⟨by simp,bk,off+j.toNat*t'.size,?_,rfl⟩⟩;simp [place,qT]
  ·-- a part of a row of zid own
   rename_i id p ep av bv ow' u';simp only [qq] at hT;obtain ⟨⟨E,qg,hE⟩,_⟩:=hT;obtain ⟨t',l,zg,rfl,qv,h⟩:=wE zq.heap h
   cases hs:t'.sk.same u'.sk with
   | false=>rw [hs] at h;simp at h
   | true=>
    rw [hs] at h;have w7:=Sk.qw hs;have qK:u'.size=t'.size:=by rw [<-Ty.zZ,<-Ty.zZ,w7]
    simp only [zD] at h;obtain ⟨Qv,h⟩:=qC h;simp only [zA,jL] at Qv;obtain ⟨h0,qJ⟩:=Qv;simp only [zl] at ex;obtain ⟨cs,⟨v,rfl,qL,hv⟩,jb⟩:=ex;obtain ⟨_,ha0,KY,JW,e1⟩:=(hv _ _ _ zg).2 rfl;obtain ⟨ad,cp,_,qT,h1,h2,h3⟩:=(zq.heap.z6 _ _ zg).2;rcases h3 with ⟨_,hl,_⟩ | ⟨bk,off,cc,e,rfl,zH,zQ,Ge,jo⟩
    ·rw [hl] at JW;simp at JW;omega
    ·have uc:a.eval x = .slice (some ⟨bk,off+av.toNat*t'.size,none⟩) (bv-av).toNat (cp-av.toNat):=by
      rw [jb];show v=_;rw [e1,qT];simp only [jz];rw [qQ (by omega)];simp [Addr.add_lit]
     refine Zi (v:=.pointer (some ⟨bk,off+(av+j).toNat*t'.size,none⟩)) ?_ ?_ (fun m hm=>by have:=ef m hm;simpa [z7.ids] using this) h
     ·intro w' _;have ztz:∀ x:Int,x < bv-av->x < (((bv-av).toNat:Nat):Int):=fun x hx=>by omega
      have hj3:=ztz j qJ;have e3:off+av.toNat*t'.size+j.toNat*t'.size=off+(av+j).toNat*t'.size:=by
       have:(av+j).toNat=av.toNat+j.toNat:=by omega
       rw [this,wz];omega
      simp [execOp,ho,uc,vi,run_indexAt_slice qg hE.info bk _ _ (cp-av.toNat) ki j h0 hj3 w',qK,e3]
     ·simp only [zl];refine ⟨_,⟨_,rfl,rfl,fun t1 l1 e1 qN=>?_⟩,rfl⟩;rw [zg] at qN;simp only [zI,Obj.row.injEq] at qN;obtain ⟨rfl,II,rfl⟩:=qN;refine ⟨yS _,fun _=>⟨by simp,bk,off+(av+j).toNat*t'.size,?_,rfl⟩⟩;simp [place,qT]
  ·-- a row of rows,or one of its rows: see below
   rename_i id p ep ow' u'
   cases hb:(noP p && Mv J id) with
   | false=>rw [hb] at h;exact Ap hT ho zq hx vi ef ex h
   | true=>
    rw [hb] at h;simp only [zA] at hb
    cases p with
    | nil=>exact Au hT ho zq vi ef ex h
    | cons s p=>simp [noP] at hb
  ·-- an array zi2 is a variable
   rename_i id p m u';simp only [qq] at hT;obtain ⟨⟨E,qg,hE⟩,_⟩:=hT;obtain ⟨xc,x',off,cc,e,zg,h2,ju,zQ,zH,hle,Qi,zl7⟩:=Z9 zq.heap h;split at h2
   ·rename_i n t' l
    cases hs:(Nat.beq n m && t'.sk.same u'.sk) with
    | false=>rw [hs] at h2;simp at h2
    | true=>
     rw [hs] at h2;simp only [zA] at hs;have Zw:n=m:=zE hs.1;subst Zw;have w7:=Sk.qw hs.2;have qK:u'.size=t'.size:=by rw [<-Ty.zZ,<-Ty.zZ,w7]
     simp only [zD] at h2;obtain ⟨Qv,h2⟩:=qC h2;obtain ⟨h0,qJ⟩:=Wx Qv;have Cr:List.length l=n:=Qi.2.1;simp only [zl] at ex;obtain ⟨cs,⟨v,rfl,qL,hv⟩,jb⟩:=ex;obtain ⟨Vz,s,wD,gR⟩:=hv _ zg;rw [ju] at wD;simp only [zI,gB] at wD;obtain ⟨rfl,_⟩:=wD;have uc:a.eval x = .pointer (some ⟨g.zt id,off,none⟩):=by rw [jb];exact gR
     refine Zi (v:=.pointer (some ⟨g.zt id,off+j.toNat*t'.size,none⟩)) ?_ ?_ (fun m hm=>by have:=ef m hm;simpa [z7.ids] using this) h2
     ·intro w' _;simp [execOp,ho,uc,vi,pG qg hE.info (g.zt id) off ki j h0 (by omega) w',qK]
     ·simp only [zl];refine ⟨_,⟨_,rfl,rfl,fun x1 qN=>?_⟩,rfl⟩;rw [zg] at qN;simp only [zI,Obj.cell.injEq] at qN;subst qN;rw [Sk.uA _ ju];simp only [z7.sk,Ty.sk,Sk.off];rw [yW ⟨h0,by omega⟩];exact ⟨_,_,rfl,by simp [Ty.zZ]⟩
   ·simp at h2
  ·-- an array zi2 is an element of a row
   rename_i id p ep m u';simp only [qq] at hT;obtain ⟨⟨E,qg,hE⟩,_⟩:=hT;split at h
   ·simp at h
   ·rename_i s q;obtain ⟨t0,l0,Co⟩:=uS h;simp only [zl] at ex;obtain ⟨cs,⟨v,rfl,qL,hv⟩,jb⟩:=ex;obtain ⟨hp,b0,yB,gy,gR⟩:=(hv _ _ _ Co).2 rfl;obtain ⟨t1,l1,u1,e1,b,off,cc,ee,BH,qv,hk,IA,kz,vZ,zH,zQ,qK,zX⟩:=uJ zq.heap hp h;rw [Co] at BH;simp only [zI,Obj.row.injEq] at BH;obtain ⟨rfl,_,_⟩:=BH;rw [gy] at kz;simp only [zI,gB] at kz;obtain ⟨rfl,rfl⟩:=kz;split at hk
    ·rename_i n t' l
     cases hs:(Nat.beq n m && t'.sk.same u'.sk) with
     | false=>rw [hs] at hk;simp at hk
     | true=>
      rw [hs] at hk;simp only [zA] at hs;have Zw:n=m:=zE hs.1;subst Zw;have w7:=Sk.qw hs.2;have gJ:u'.size=t'.size:=by rw [<-Ty.zZ,<-Ty.zZ,w7]
      simp only [zD] at hk;obtain ⟨Qv,hk⟩:=qC hk;obtain ⟨h0,qJ⟩:=Wx Qv;have Cr:List.length l=n:=zX.1;have uc:a.eval x = .pointer (some ⟨b0,yB,none⟩):=by rw [jb];exact gR
      refine Zi (v:=.pointer (some ⟨b0,yB+j.toNat*t'.size,none⟩)) ?_ ?_ (fun m hm=>by have:=ef m hm;simpa [z7.ids] using this) hk
      ·intro w' _;simp [execOp,ho,uc,vi,pG qg hE.info b0 yB ki j h0 (by omega) w',gJ]
      ·simp only [zl];refine ⟨_,⟨_,rfl,rfl,fun t2 l2 e2 qN=>?_⟩,rfl⟩;rw [Co] at qN;simp only [zI,Obj.row.injEq] at qN;obtain ⟨rfl,_,rfl⟩:=qN;refine ⟨yS _,fun _=>⟨by simp,b0,yB+j.toNat*t'.size,?_,rfl⟩⟩;refine jN (s':=t'.sk) gy vZ ?_;simp only [Ty.sk,Sk.off];rw [yW ⟨h0,by omega⟩];simp [Ty.zZ]
    ·simp at hk
  ·simp at h
 ·simp at h
theorem SA (kp:gP P c.tt) {t:TypeId} {x:Operand} {i:Nat} (ho:o.op = .fieldAddr t x i) (zq:zK c.ntmps g w a J) (h:y9 c J base o k=some r):vN P o a w g J c k r:=by
 simp only [y9,ho] at h;split at h
 ·rename_i av u hx hu;have hT:=kp _ _ hu;obtain ⟨ex,ef⟩:=qG zq hx;unfold z0d at h;split at h
  ·rename_i t' d
   cases hs:t'.sk.same u.sk with
   | false=>rw [hs] at h;simp at h
   | true=>
    rw [hs] at h;simp only [zD] at h;have w7:=Sk.qw hs;simp only [zl] at ex;obtain ⟨cs,⟨qv,b,off,cc,e,fz,rfl,zH,zQ,qK,zX⟩,hv⟩:=ex;have jb:a.eval x = .pointer (some ⟨b,off,none⟩):=hv;have gS:t'.zV=true:=by simpa [Ty.zV] using qv
    have vZ:=Zx w7 (YR gS h);obtain ⟨u2,e2,o2,hk,hu2,BF,A8⟩:=Z0 gS zX h;obtain ⟨o3,s3,Mw,zb⟩:=py hT vZ b off;rw [<-w7,BF] at Mw;simp only [zI,gB] at Mw;obtain ⟨rfl,_⟩:=Mw;have hle:=Sk.wU BF;rw [Ty.zZ,Ty.zZ] at hle;refine Zi (v:=.pointer (some ⟨b,off+o2,none⟩)) ?_ ?_ (fun m _=>by simp [z7.ids]) hk
    ·intro w' _;simp [execOp,ho,jb,zb]
    ·simp only [zl];refine ⟨_,⟨by simpa [Ty.zV] using hu2,b,off+o2,cc,e,fz,rfl,zH,zQ,by omega,?_⟩,rfl⟩;rw [gh _ _ _ _ _ hle] at A8;exact A8
  ·rename_i id p;obtain ⟨xc,x',off,cc,e,zg,h2,ju,zQ,zH,hle,Qi,zl7⟩:=Z9 zq.heap h
   cases hs:(x'.sk.same u.sk && (vz u (qV i)).isSome) with
   | false=>rw [hs] at h2;simp at h2
   | true=>
    rw [hs] at h2;simp only [zD] at h2;simp only [zA] at hs;have w7:=Sk.qw hs.1;simp only [zl] at ex;obtain ⟨cs,⟨v,rfl,qL,hv⟩,jb⟩:=ex;obtain ⟨Vz,s,wD,gR⟩:=hv _ zg;rw [ju] at wD;simp only [zI,gB] at wD;obtain ⟨rfl,_⟩:=wD;have uc:a.eval x = .pointer (some ⟨g.zt id,off,none⟩):=by rw [jb];exact gR
    obtain ⟨o3,s3,Mw,zb⟩:=py hT hs.2 (g.zt id) off;refine Zi (v:=.pointer (some ⟨g.zt id,off+o3,none⟩)) ?_ ?_ (fun m hm=>by have:=ef m hm;simpa [z7.ids] using this) h2
    ·intro w' _;simp [execOp,ho,uc,zb]
    ·simp only [zl];refine ⟨_,⟨_,rfl,rfl,fun x1 qN=>?_⟩,rfl⟩;rw [zg] at qN;simp only [zI,Obj.cell.injEq] at qN;subst qN;rw [Sk.uA _ ju,w7,Mw];exact ⟨_,_,rfl,rfl⟩
  ·rename_i id p ep;split at h
   ·simp at h
   ·rename_i s q;obtain ⟨t0,l0,Co⟩:=uS h;simp only [zl] at ex;obtain ⟨cs,⟨v,rfl,qL,hv⟩,jb⟩:=ex;obtain ⟨hp,b0,yB,gy,gR⟩:=(hv _ _ _ Co).2 rfl;obtain ⟨t1,l1,u1,e1,b,off,cc,ee,BH,qv,hk,IA,kz,vZ,zH,zQ,qK,zX⟩:=uJ zq.heap hp h;rw [Co] at BH;simp only [zI,Obj.row.injEq] at BH;obtain ⟨rfl,_,_⟩:=BH;rw [gy] at kz;simp only [zI,gB] at kz;obtain ⟨rfl,rfl⟩:=kz
    cases hs:(u1.sk.same u.sk && (vz u (qV i)).isSome) with
    | false=>rw [hs] at hk;simp at hk
    | true=>
     rw [hs] at hk;simp only [zD] at hk;simp only [zA] at hs;have w7:=Sk.qw hs.1;have uc:a.eval x = .pointer (some ⟨b0,yB,none⟩):=by rw [jb];exact gR
     obtain ⟨o3,s3,Mw,zb⟩:=py hT hs.2 b0 yB;refine Zi (v:=.pointer (some ⟨b0,yB+o3,none⟩)) ?_ ?_ (fun m hm=>by have:=ef m hm;simpa [z7.ids] using this) hk
     ·intro w' _;simp [execOp,ho,uc,zb]
     ·simp only [zl];refine ⟨_,⟨_,rfl,rfl,fun t2 l2 e2 qN=>?_⟩,rfl⟩;rw [Co] at qN;simp only [zI,Obj.row.injEq] at qN;obtain ⟨rfl,_,rfl⟩:=qN;refine ⟨yS _,fun _=>⟨by simp,b0,yB+o3,?_,rfl⟩⟩;exact jN gy vZ (by rw [w7];exact Mw)
  ·-- an element of a row of rows
   rename_i id p ep
   cases hho:Mv J id with
   | true=>
    rw [hho] at h;simp only [zD] at h;unfold zae at h;split at h
    ·rename_i j t1 l1 e1 i1 zyk zg;have hb:=(VC h).1;replace h:=(VC h).2;simp only [zA] at hb;have G2:=zE hb.1.1;subst G2;have w7:=Sk.qw hb.1.2;simp only [zl] at ex;obtain ⟨cs,⟨v,rfl,qL,hv⟩,jb⟩:=ex;obtain ⟨hp,b0,yB,gy,gR⟩:=((hv _ _ _ _ _ zg).2 rfl).2 rfl;have uc:a.eval x = .pointer (some ⟨b0,yB,none⟩):=by rw [jb];exact gR
     obtain ⟨o3,s3,Mw,zb⟩:=py hT hb.2 b0 yB;refine Zi (v:=.pointer (some ⟨b0,yB+o3,none⟩)) ?_ ?_ (fun m hm=>by have:=ef m hm;simpa [z7.ids] using this) h
     ·intro w' _;simp [execOp,ho,uc,zb]
     ·simp only [zl];refine ⟨_,⟨_,rfl,rfl,fun t2 l2 e2 i2 h2 qN=>?_⟩,rfl⟩;rw [zg] at qN;simp only [zI,Obj.nest.injEq] at qN;obtain ⟨rfl,_,rfl,rfl,_⟩:=qN;refine ⟨yS _,fun _=>⟨fun h=>(by simp at h),fun _=>⟨by simp,b0,yB+o3,?_,rfl⟩⟩⟩;have vZ:Ju (.sl true t1) [.idx j]=some t1.sk:=by simp [Ju]
      exact jN gy vZ (by rw [w7];exact Mw)
    ·simp at h
   | false=>
   rw [hho] at h;simp only [zW] at h;obtain ⟨t1,l1,e1,i1,zg,FB,zX,hk⟩:=YH zq.heap h;simp only [zl] at ex;obtain ⟨cs,⟨v,rfl,qL,hv⟩,jb⟩:=ex;obtain ⟨hp,b0,yB,gy,gR⟩:=((hv _ _ _ _ _ zg).2 FB).2 rfl
   cases p with
   | nil=>exact absurd rfl hp
   | cons s q=>
    obtain ⟨u1,x1,bh,oh,ch,eh,ph,hk,kz,vZ,_,zH,zQ,qK,hr⟩:=uD zX hk
    cases hs:(u1.sk.same u.sk && (vz u (qV i)).isSome) with
    | false=>rw [hs] at hk;simp at hk
    | true=>
     rw [hs] at hk;simp only [zD] at hk;simp only [zA] at hs;have w7:=Sk.qw hs.1;have uc:a.eval x = .pointer (some ⟨b0,yB,none⟩):=by rw [jb];exact gR
     obtain ⟨o3,s3,Mw,zb⟩:=py hT hs.2 b0 yB;refine Zi (v:=.pointer (some ⟨b0,yB+o3,none⟩)) ?_ ?_ (fun m hm=>by have:=ef m hm;simpa [z7.ids] using this) hk
     ·intro w' _;simp [execOp,ho,uc,zb]
     ·simp only [zl];refine ⟨_,⟨_,rfl,rfl,fun t2 l2 e2 i2 h2 qN=>?_⟩,rfl⟩;rw [zg] at qN;simp only [zI,Obj.nest.injEq] at qN;obtain ⟨rfl,_,rfl,rfl,_⟩:=qN;have G2:i1=ep:=FB;refine ⟨Z3b G2.symm,fun _=>⟨fun h=>(by simp at h),fun _=>⟨by simp,b0,yB+o3,?_,rfl⟩⟩⟩;exact jN gy vZ (by rw [w7];exact Mw)
  ·simp at h
 ·simp at h
theorem B2 {T:TypeId} {u:Ty} (hT:qq P u T) (w:World):(isAgg T).run P w = .ok u.sk.isAgg w:=by
 unfold isAgg;rw [Sem.run_bind]
 cases u with
 | int _=>simp only [qq] at hT;rw [run_underlying hT.1];rfl
 | bool=>simp only [qq] at hT;rw [run_underlying hT.1];rfl
 | str=>simp only [qq] at hT;rw [run_underlying hT.1];rfl
 | unit=>simp only [qq] at hT
 | pair x y=>simp only [qq] at hT;obtain ⟨⟨fs,h,_⟩,_⟩:=hT;rw [run_underlying h];rfl
 | arr n t=>simp only [qq] at hT;obtain ⟨⟨E,h,_⟩,_⟩:=hT;rw [run_underlying h];rfl
 | sl _ t=>simp only [qq] at hT;obtain ⟨⟨E,h,_⟩,_⟩:=hT;rw [run_underlying h];rfl
 | ptr _=>simp only [qq] at hT;obtain ⟨⟨E,h⟩,_⟩:=hT;rw [run_underlying h];rfl
 | fn _ _=>simp only [qq] at hT;obtain ⟨⟨x,y,z,h⟩ | ⟨x,y,h⟩,_⟩:=hT <;> rw [run_underlying h] <;> rfl
 | tree _=>simp only [qq] at hT;obtain ⟨⟨_,_,fs,h⟩,_⟩:=hT;rw [run_underlying h];rfl
theorem qq.zia {T:TypeId} {u:Ty} (hT:qq P u T) (h:u.sk.isAgg=false):u.size=1:=by
 cases u <;> simp [Ty.sk,Sk.isAgg] at h <;> simp [Ty.size]
theorem GY {T:TypeId} {u:Ty} (hT:qq P u T) {b off:Nat} {cc:Array Value} {e:TypeId} {fz:Nat×Nat} (hc:w.heap[b]? = some (.cells cc e fz)) (hs:off+u.size<=cc.size) :
  (loadVar T ⟨b,off,none⟩).run P w = .ok (jA u.sk.isAgg (qB cc.toList off u.size)) w:=by
 have vl:=B2 hT w;have hlen:(qB cc.toList off u.size).length=u.size:=yV (by rw [vX];exact hs);unfold loadVar;rw [Sem.run_bind,vl]
 cases hu:u.sk.isAgg with
 | true=>
  have hl:=run_loadCells_list (P:=P) w ⟨b,off,none⟩ (qB cc.toList off u.size) (fun j v hv=>by
   rw [Addr.add_lit,cell_of_row w b (off+j) cc e fz hc];simp only [qB,Z2v,Z27] at hv;split at hv
   ·simpa using hv
   ·simp at hv)
  rw [hlen] at hl;have qK:=hT.info.sizeOf w
  simp [hl,qK,jA]
 | false=>
  have h1:=hT.zia hu;rw [h1] at hs;have zQ:w.cell? ⟨b,off,none⟩=some cc[off]:=by
   rw [cell_of_row w b off cc e fz hc];simp [show off < cc.size by omega]
  have zeb:qB cc.toList off u.size=[cc[off]]:=by
   rw [h1];simp only [qB];rw [Z23 (by rw [vX];omega)];simp
  simp [load,Sem.run,zQ,zeb,jA]
theorem w6 {av:z7} (h:av.val=true):av.isAgg=av.sk.isAgg/\(∀ x y,av≠.pr x y)/\av≠.un/\∀ x,av≠.jC x:=by
 cases av with
 | agg x=>cases x <;> simp [z7.val] at h <;> simp [z7.isAgg,z7.sk,Sk.isAgg]
 | data t d=>simp [z7.isAgg,z7.sk]
 | pr=>simp [z7.val] at h
 | un=>simp [z7.val] at h
 | jC=>simp [z7.val] at h
 | _=>simp [z7.isAgg,z7.sk,Sk.isAgg]
theorem T9 {n:Nat} {av:z7} {xv:Value} {f:z7->Option R} (zq:zK n g w a J) (ex:zl w g J.z6 av xv) (ef:∀ m,zY g J m->m∉av.ids) (h:BA J av f=some r) :
  ∃ lv b off cc e fz,xv = .pointer (some ⟨b,off,none⟩)/\w.heap[b]? = some (.cells cc e fz)/\off+lv.sk.size<=cc.size/\
   jV w g J.z6 lv (qB cc.toList off lv.sk.size)/\(∀ m,zY g J m->m∉lv.ids)/\f lv=some r:=by
 unfold BA at h;split at h
 ·rename_i t' d;simp only [zl] at ex;obtain ⟨cs,⟨qv,b,off,cc,e,fz,rfl,zH,zQ,qK,zX⟩,hv⟩:=ex;exact ⟨.data t' d,b,off,cc,e,fz,hv,zQ,by simpa [z7.sk,Ty.zZ] using qK,⟨by simpa [Ty.zV] using qv,by simpa [z7.sk,Ty.zZ] using zX⟩,fun m _=>by simp [z7.ids],h⟩
 ·rename_i id p ep;split at h
  ·simp at h
  ·rename_i s q;obtain ⟨t0,l0,Co⟩:=uS h;simp only [zl] at ex;obtain ⟨cs,⟨v,rfl,qL,hv⟩,jb⟩:=ex;obtain ⟨hp,b0,yB,gy,gR⟩:=(hv _ _ _ Co).2 rfl;obtain ⟨t1,l1,u1,e1,b,off,cc,ee,BH,qv,hk,IA,kz,vZ,zH,zQ,qK,zX⟩:=uJ zq.heap hp h;rw [Co] at BH;simp only [zI,Obj.row.injEq] at BH;obtain ⟨rfl,_,_⟩:=BH;rw [gy] at kz;simp only [zI,gB] at kz;obtain ⟨rfl,rfl⟩:=kz;exact ⟨.data u1 e1,b0,yB,cc,ee,(0,0),by rw [jb];exact gR,zQ,by simpa [z7.sk,Ty.zZ] using qK,⟨IA,by simpa [z7.sk,Ty.zZ] using zX⟩,fun m _=>by simp [z7.ids],hk⟩
 ·rename_i id p;obtain ⟨xc,y,off,cc,e,zg,h2,ju,zQ,zH,hle,Qi,hi⟩:=Z9 zq.heap h;simp only [zl] at ex;obtain ⟨cs,⟨v,rfl,qL,hv⟩,jb⟩:=ex;obtain ⟨Vz,s,wD,gR⟩:=hv _ zg;rw [ju] at wD;simp only [zI,gB] at wD;obtain ⟨rfl,_⟩:=wD;exact ⟨y,g.zt id,off,cc,e,(0,0),by rw [jb];exact gR,zQ,hle,Qi,fun m hm=>hi m (hm.cells _ _ zg),h2⟩
 ·rename_i id p ep;obtain ⟨t1,l1,e1,i1,zg,FB,zX,hk⟩:=YH zq.heap h;simp only [zl] at ex;obtain ⟨cs,⟨v,rfl,qL,hv⟩,jb⟩:=ex;obtain ⟨hp,b0,yB,gy,gR⟩:=((hv _ _ _ _ _ zg).2 FB).2 rfl
  cases p with
  | nil=>exact absurd rfl hp
  | cons s q=>
   obtain ⟨u1,x1,bh,oh,ch,eh,ph,hk,kz,vZ,_,zH,zQ,qK,hr⟩:=uD zX hk;rw [gy] at kz;simp only [zI,gB] at kz;obtain ⟨rfl,rfl⟩:=kz
   cases qv:u1.zV with
   | true=>
    rw [qv] at hk
    exact ⟨.data u1 x1,b0,yB,ch,eh,(0,0),by rw [jb];exact gR,zQ,by simpa [z7.sk,Ty.zZ] using qK,⟨qv,by simpa [z7.sk,Ty.zZ] using zC.qt (o':=none) qv hr⟩,fun m _=>by simp [z7.ids],hk⟩
   | false=>
    rw [qv] at hk;simp only [zW] at hk;split at hk
    ·rename_i v1;obtain ⟨ad,cp,pN,qT,_⟩:=hr;refine ⟨.nv false id (s :: q) ep,b0,yB,ch,eh,(0,0),by rw [jb];exact gR,zQ,qK,⟨_,pN,rfl,fun t2 l2 e2 i2 h2 qN=>?_⟩,fun m hm=>by have:=ef m hm;simpa [z7.ids] using this,hk⟩;rw [zg] at qN;simp only [zI,Obj.nest.injEq] at qN;obtain ⟨rfl,_,rfl,rfl,_⟩:=qN;have G2:i1=ep:=FB;exact ⟨Z3b G2.symm,fun _=>⟨fun _=>qT.symm,fun h=>(by simp at h)⟩⟩
    ·simp at hk
 ·simp at h
theorem z5u (kp:gP P c.tt) {t:TypeId} {x:Operand} (ho:o.op = .load t x) (zq:zK c.ntmps g w a J) (h:y9 c J base o k=some r):vN P o a w g J c k r:=by
 simp only [y9,ho] at h;split at h
 ·rename_i av u hx hu;have hT:=kp _ _ hu;obtain ⟨ex,ef⟩:=qG zq hx;have key:=T9 zq ex ef h;obtain ⟨lv,b,off,cc,e,fz,hv,zQ,hle,zR,vQ,WQ⟩:=key
  cases hb:(lv.val && u.sk.same lv.sk) with
  | false=>rw [hb] at WQ;simp at WQ
  | true=>
   rw [hb] at WQ;simp only [zD] at WQ;simp only [zA] at hb;have w7:=Sk.qw hb.2;obtain ⟨vl,Zo,Xq,OH⟩:=w6 hb.1;have qK:u.size=lv.sk.size:=by rw [<-w7,Ty.zZ]
   refine Zi (v:=jA u.sk.isAgg (qB cc.toList off u.size)) ?_ ?_ vQ WQ
   ·intro w' GG;replace GG:=GG (by simp [isP,ho]);have zb:=GY (P:=P) (w:=w') hT ((GG b (Z28.1 zQ).1).trans zQ) (by rw [qK];exact hle);simp [execOp,ho,hv,Instr.loadAt,Instr.sureAddr,zb]
   ·refine yA zR ?_ Zo Xq;rw [vl,<-w7,qK,w7]
 ·simp at h
end
end Go.Kz
namespace Go.Kz
variable {R:Type}
structure jQ (g:z8) (BZ:qk) (g':z8) (wy:qk):Prop where
 sv:g'.sv=g.sv
 zt:g'.zt=g.zt
 z6:∀ i,wy i=BZ i\/wy i=none
 tag:∀ b,g'.tag b=g.tag b\/(g'.tag b = .ro/\∃ id,BZ id≠none/\wy id=none/\((∃ p,g.tag b = .row id p)\/g.tag b = .box id))
theorem jQ.refl (g:z8) (z6:qk):jQ g z6 g z6:=⟨rfl,rfl,fun _=>.inl rfl,fun _=>.inl rfl⟩
theorem jQ.trans {g g' g'':z8} {o o' o'':qk} (h:jQ g o g' o') (k:jQ g' o' g'' o''):jQ g o g'' o'':=by
 refine ⟨k.sv.trans h.sv,k.zt.trans h.zt,fun i=>?_,fun b=>?_⟩
 ·rcases k.z6 i with e | e
  ·rw [e];exact h.z6 i
  ·exact .inr e
 ·rcases k.tag b with e | ⟨e,id,hs,hn,ht⟩
  ·rcases h.tag b with e2 | ⟨e2,id,hs,hn,ht⟩
   ·exact .inl (e.trans e2)
   ·refine .inr ⟨e.trans e2,id,hs,?_,ht⟩;rcases k.z6 id with e3 | e3
    ·rw [e3];exact hn
    ·exact e3
  ·rcases h.tag b with e2 | ⟨e2,_,_,_,_⟩
   ·rw [e2] at ht;refine .inr ⟨e,id,fun h0=>?_,hn,ht⟩;rcases h.z6 id with e3 | e3
    ·rw [e3] at hs;exact hs h0
    ·exact hs e3
   ·rw [e2] at ht;rcases ht with ⟨p,ht⟩ | ht <;> simp at ht
theorem jQ.ro {g g':z8} {o o':qk} (h:jQ g o g' o') (w:World):zO w g w g':=
 ⟨fun b hb=>⟨(h.tag b).elim (fun e=>by rw [e,hb]) (fun e=>e.1),rfl⟩⟩
theorem jQ.same {g g':z8} {o o':qk} (h:jQ g o g' o') (w:World) {id:Nat} (hid:o' id≠none):Zj w g w g' id:=by
 refine ⟨⟨fun q=>by rw [h.sv],fun q b hb=>⟨?_,rfl⟩⟩,by rw [h.zt],fun hb=>⟨?_,rfl⟩⟩
 ·rcases h.tag b with e | ⟨_,vu,_,hn,ht⟩
  ·rw [e,hb]
  ·rw [hb] at ht;rcases ht with ⟨p,ht⟩ | ht
   ·simp only [Tag.row.injEq] at ht;rw [<-ht.1] at hn;exact absurd hn hid
   ·simp at ht
 ·rcases h.tag (g.zt id) with e | ⟨_,vu,_,hn,ht⟩
  ·rw [e,hb]
  ·rw [hb] at ht;rcases ht with ⟨p,ht⟩ | ht
   ·simp at ht
   ·simp only [Tag.box.injEq] at ht;rw [<-ht] at hn;exact absurd hn hid
theorem jQ.kept {w:World} {g g':z8} {o o':qk} (h:jQ g o g' o') (hh:yZ w g o) (id:Nat):qz g g' id (o id) (o' id):=by
 rcases h.z6 id with e | e
 ·rw [e];by_cases hn:o' id=none
  ·left;rw [<-e];exact hn
  ·exact qz.same (h.same w hn)
 ·exact .inl e
theorem jQ.heap {w:World} {g g':z8} {o o':qk} (h:jQ g o g' o') (hh:yZ w g o):yZ w g' o':=by
 refine ⟨fun id x hx=>?_,fun b hb=>?_⟩
 ·have hid:o' id≠none:=by rw [hx];simp
  have Gd:o id=some x:=by
   rcases h.z6 id with e | e
   ·rw [<-e];exact hx
   ·exact absurd e hid
  exact zm.frame (h.ro w) (h.same w hid) (fun a ha vu _=>h.kept hh vu) (hh.z6 id x Gd)
 ·refine hh.tags b ?_;rcases h.tag b with e | ⟨_,vu,_,_,ht⟩
  ·rw [<-e];exact hb
  ·rcases ht with ⟨p,ht⟩ | ht <;> rw [ht] <;> simp
theorem jQ.ext {w:World} {g g':z8} {o o':qk} (h:jQ g o g' o'):Ext w g w g':=by
 refine ⟨rfl,rfl,rfl,yS _,yS _,fun b _ ht=>⟨rfl,?_⟩⟩;rcases h.tag b with e | ⟨_,vu,_,_,h2⟩
 ·exact e
 ·rcases h2 with ⟨p,h2⟩ | h2 <;> rw [h2] at ht <;> simp at ht
theorem jQ.fresh {g g':z8} {J J':St} {m:Nat} (h:jQ g J.z6 g' J'.z6) (hs:J'.zj=J.zj) (hf:zY g J m):zY g' J' m:=by
 refine ⟨?_,fun b p hb=>?_,fun b hb=>?_,fun i av hi=>hf.zj i av (by rw [<-hs];exact hi),fun id av hi=>hf.cells id av ?_⟩
 ·rcases h.z6 m with e | e
  ·rw [e];exact hf.z6
  ·exact e
 ·rcases h.tag b with e | ⟨e,_⟩
  ·rw [e] at hb;exact hf.row b p hb
  ·rw [e] at hb;simp at hb
 ·rcases h.tag b with e | ⟨e,_⟩
  ·rw [e] at hb;exact hf.box b hb
  ·rw [e] at hb;simp at hb
 ·rcases h.z6 id with e | e
  ·rw [<-e];exact hi
  ·rw [e] at hi;simp at hi
theorem jQ.st {n:Nat} {w:World} {a:Act} {g g':z8} {J J':St} (h:jQ g J.z6 g' J'.z6) (hs:J'.zj=J.zj) (zq:zK n g w a J):zK n g' w a J':=by
 refine ⟨fun i av hi=>?_,h.heap zq.heap,zq.size,zq.defers,zq.known.kept (h.ro w)⟩;rw [hs] at hi;obtain ⟨v,hv,zR⟩:=zq.zj i av hi;exact ⟨v,hv,zl.frame (h.ro w) (fun id _=>h.kept zq.heap id) zR⟩
def p5 (g:z8) (id:Nat):z8:={ g with tag:=fun b=>match g.tag b with
 | .row i p=>if i=id then .ro else .row i p
 | .box i=>if i=id then .ro else .box i
 | t=>t }
theorem vM {g:z8} {J:St} (id:Nat) (hid:J.z6 id≠none):jQ g J.z6 (p5 g id) (J.kill id).z6:=by
 refine ⟨rfl,rfl,fun i=>?_,fun b=>?_⟩
 ·simp only [St.kill,KK];cases Nat.beq i id <;> simp
 ·simp only [p5]
  cases hb:g.tag b with
  | zn=>left;rfl
  | ro=>left;rfl
  | row i p=>
   by_cases hi:i=id
   ·right;simp only [hi,Dn];exact ⟨trivial,id,hid,by simp [St.kill,KK],.inl ⟨p,rfl⟩⟩
   ·left;simp [hi]
  | box i=>
   by_cases hi:i=id
   ·right;simp only [hi,Dn];exact ⟨trivial,id,hid,by simp [St.kill,KK],.inr rfl⟩
   ·left;simp [hi]
theorem YF {t:Ty} {k:t.den->Option R} {r:R} (h:Si t k=some r):∃ o u,∃ e:t = .sl o u,k (e ▸ ([]:List u.den))=some r:=by
 cases t with
 | sl o u=>exact ⟨o,u,rfl,h⟩
 | _=>simp [Si] at h
theorem kA {w:World}:(n:Nat)->{a:z7}->{u:Ty}->{J:St}->{g:z8}->{k:u.den->St->Option R}->{r:R}->{cs:List Value}->
  yZ w g J.z6->jV w g J.z6 a cs->u.zV=true->j6 n a u J k=some r->
  ∃ d J' g',k d J'=some r/\J'.zj=J.zj/\J'.next=J.next/\jQ g J.z6 g' J'.z6/\zC w g' none u d cs
 | 0,_,_,_,_,_,_,_,_,_,_,h=>by simp [j6] at h
 | n+1,.data t d,u,J,g,k,r,cs,hh,zR,hu,h=>by
  simp only [j6] at h;obtain ⟨_,h,_,zX⟩:=vV h zR.1
  exact ⟨_,J,g,h,rfl,rfl,.refl _ _,zX _ _ _ zR.2⟩
 | n+1,.qy,u,J,g,k,r,cs,hh,zR,hu,h=>by
  simp only [j6] at h;obtain ⟨o,v,rfl,h⟩:=YF h
  cases o with
  | true=>simp [Ty.zV] at hu
  | false=>
   have WY:cs=[.slice none 0 0]:=zR;subst WY
   exact ⟨_,J,g,h,rfl,rfl,.refl _ _,none,0,rfl,yS _,jE _,fun hn=>absurd rfl hn⟩
 | n+1,.ref id p ep,u,J,g,k,r,cs,hh,zR,hu,h=>by
  cases p with
  | cons s q=>simp [j6] at h
  | nil=>
   simp only [j6] at h;split at h
   ·rename_i t l e ho
    cases hb:Nat.beq e ep with
    | false=>rw [hb] at h;simp at h
    | true=>
     have he:e=ep:=zE hb;subst he;rw [hb] at h;simp only [zD] at h;obtain ⟨v,rfl,_,hv⟩:=zR;have qT:=(hv _ _ _ ho).2 rfl;have zg:=hh.z6 id _ ho;split at h
     ·simp [Ty.zV] at hu
     ·rename_i v' kk;obtain ⟨_,h,_,WZ⟩:=vV h (Ty.kX _);refine ⟨_,J.kill id,p5 g id,h,rfl,rfl,vM id (by rw [ho];simp),?_⟩;have hs:=vM (g:=g) (J:=J) id (by rw [ho];simp);have hf:=zC.freeze (hs.ro w) (o:=some (id,[])) (show Zh w g w (p5 g id) id [] from ⟨fun q b hb=>⟨by simp only [p5,Zu] at hb ⊢;rw [hb];simp,rfl⟩⟩) zg.2;rw [<-qT] at hf;exact WZ _ _ _ hf
     ·simp at h
   ·simp at h
 | n+1,.zu id p,u,J,g,k,r,cs,hh,zR,hu,h=>by
  cases u with
  | ptr u=>
   cases p with
   | cons s q=>simp [j6] at h
   | nil=>
    simp only [j6] at h;split at h
    ·rename_i a ho;obtain ⟨hnt,h⟩:=Vv h;obtain ⟨c,e,hc,ht,hca⟩:=(hh.z6 id _ ho).out hnt;have hs:=vM (g:=g) (J:=J) id (by rw [ho];simp);have zuo:=jV.frame (wy:=(J.kill id).z6) (hs.ro w) (fun i _=>hs.kept hh i) hca;obtain ⟨d,J',g',hk,h1,h2,h3,zX⟩:=kA n (hs.heap hh) zuo (by simpa [Ty.zV] using hu) h;obtain ⟨v,rfl,_,hv⟩:=zR;obtain ⟨off,s,ju,rfl⟩:=hv _ ho;simp only [Sk.off,zI,gB] at ju;obtain ⟨rfl,_⟩:=ju;have zH:(p5 g id).tag (g.zt id) = .ro:=by simp [p5,ht]
     refine ⟨d,J',g',hk,h1,h2,hs.trans h3,g.zt id,0,c,e,(0,0),rfl,((h3.ro w).zt _ zH).1,hc,?_,?_⟩
     ·have:=zX.len;rw [vX] at this;omega
     ·have hl:=zX.len;rw [<-hl,kU];exact zX
    ·simp at h
  | _=>cases p <;> simp [j6] at h
 | n+1,.yG f c,u,J,g,k,r,cs,hh,zR,hu,h=>by
  cases u with
  | fn f' t=>
   simp only [j6] at h
   cases hb:Nat.beq f f' with
   | false=>rw [hb] at h;simp at h
   | true=>
    rw [hb] at h;have he:f=f':=zE hb;subst he;obtain ⟨vs,rfl,hc⟩:=zR;obtain ⟨d,J',g',hk,h1,h2,h3,zX⟩:=kA n (a:=c) hh hc (by simpa [Ty.zV] using hu) h
    exact ⟨d,J',g',hk,h1,h2,h3,vs,rfl,zX⟩
  | _=>simp [j6] at h
 | n+1,.agg c,u,J,g,k,r,cs,hh,zR,hu,h=>by
  simp only [j6] at h
  exact kA n (a:=c) hh zR hu h
 | n+1,.pr a b,u,J,g,k,r,cs,hh,zR,hu,h=>by
  cases u with
  | pair t u=>
   simp only [j6] at h;simp only [Ty.zV,zA] at hu;obtain ⟨c1,c2,rfl,ha,hb⟩:=zR;obtain ⟨x,J1,g1,Zk,h1,h2,h3,pH⟩:=kA n hh ha hu.1 h;have Zg:=jV.frame (wy:=J1.z6) (h3.ro w) (fun i _=>h3.kept hh i) hb;obtain ⟨y,J2,g2,GX,h4,h5,h6,pg⟩:=kA n (h3.heap hh) Zg hu.2 Zk
   exact ⟨(x,y),J2,g2,GX,h4.trans h1,h5.trans h2,h3.trans h6,c1,c2,rfl,pH.kept (h6.ro w),pg⟩
  | _=>simp [j6] at h
 | n+1,.un,u,J,g,k,r,cs,hh,zR,hu,h=>by
  cases u with
  | unit=>
   simp only [j6] at h
   exact ⟨(),J,g,h,rfl,rfl,.refl _ _,zR⟩
  | _=>simp [j6] at h
 | n+1,.view _ _ _ _ _,u,J,g,k,r,cs,hh,zR,hu,h=>by cases u <;> simp [j6] at h
 | n+1,.vW _ _ _,u,J,g,k,r,cs,hh,zR,hu,h=>by cases u <;> simp [j6] at h
 | n+1,.qA _,u,J,g,k,r,cs,hh,zR,hu,h=>by cases u <;> simp [j6] at h
 | n+1,.nv true _ _ _,u,J,g,k,r,cs,hh,zR,hu,h=>by cases u <;> simp [j6] at h
 | n+1,.nv false _ (_ :: _) _,u,J,g,k,r,cs,hh,zR,hu,h=>by cases u <;> simp [j6] at h
 | n+1,.nv false id [] ep,u,J,g,k,r,cs,hh,zR,hu,h=>by
  simp only [j6] at h;split at h
  ·rename_i t l e i ho
   cases hb:Nat.beq e ep with
   | false=>rw [hb] at h;simp at h
   | true=>
    have he:e=ep:=zE hb;subst he;rw [hb] at h;simp only [zD] at h;obtain ⟨v,rfl,_,hv⟩:=zR;have qT:=((hv _ _ _ _ _ ho).2 rfl).1 rfl;have zg:zC w g (some (id,[])) (.sl true t) l [g.sv id []]:=hh.z6 id _ ho;split at h
    ·rename_i v' kk;obtain ⟨_,h,_,WZ⟩:=vV h (Ty.kX _);refine ⟨_,J.kill id,p5 g id,h,rfl,rfl,vM id (by rw [ho];simp),?_⟩;have hs:=vM (g:=g) (J:=J) id (by rw [ho];simp);have hf:=zC.freeze (hs.ro w) (o:=some (id,[])) (show Zh w g w (p5 g id) id [] from ⟨fun q b hb=>⟨by simp only [p5,Zu] at hb ⊢;rw [hb];simp,rfl⟩⟩) zg;rw [<-qT] at hf;exact WZ _ _ _ hf
    ·simp at h
  ·simp at h
 | n+1,.jC _,u,J,g,k,r,cs,hh,zR,hu,h=>zR.elim
theorem JX.one {F:(k:Nat)->Rec k->List Value->Prop} {w:World} {g:z8} (hF:∀ k x cs,F k x cs->∀ v∈cs,v.oneCell'=true):{t:Ty}->{d:t.den}->{cs:List Value}->JX F w g t d cs->∀ v∈cs,v.oneCell'=true
 | .int _,_,_,h=>by obtain ⟨rfl,_⟩:=h;simp [Value.oneCell']
 | .bool,_,_,h=>by cases h;simp [Value.oneCell']
 | .str,_,_,h=>by obtain ⟨s,rfl,_⟩:=h;simp [Value.oneCell']
 | .unit,_,_,h=>by cases h;simp
 | .pair a b,(x,y),_,h=>by
  obtain ⟨c1,c2,rfl,h1,h2⟩:=h;intro v hv;rcases Gt.1 hv with hv | hv
  ·exact JX.one hF h1 v hv
  ·exact JX.one hF h2 v hv
 | .arr n t,l,cs,h=>by
  intro v hv;obtain ⟨j,hj,rfl⟩:=VI.1 hv;have hlen:=h.2.1;have htz:0 < t.size:=by
   rcases Z3v t.size with hz | hz
   ·rw [hz] at hlen;omega
   ·exact hz
  have hdiv:j / t.size < n:=Z3w (by rw [Z24];omega);have hi:j / t.size < List.length l:=by rw [h.1];exact hdiv
  have hr:=JX.one hF (h.2.2 (j / t.size) hi);refine hr _ ?_;have hm:=Z2w j htz;have hdm:=Z3x j t.size;have hle:(j / t.size+1)*t.size<=n*t.size:=kj _ hdiv;rw [wz] at hle;refine VI.2 ⟨j % t.size,?_,?_⟩
  ·rw [yV (by omega)];exact hm
  ·simp only [qB,Z38,Z3t];congr 1
   rw [Z24];exact hdm
 | .sl false t,_,_,h=>by obtain ⟨a,cap,rfl,_⟩:=h;simp [Value.oneCell']
 | .tree _,_,_,h=>hF _ _ _ h
theorem kn.one {w:World} {g:z8}:{n k:Nat}->{x:Rec k}->{cs:List Value}->kn w g n k x cs->∀ v∈cs,v.oneCell'=true
 | n+1,_,_,_,h=>JX.one (fun _ _ _ h=>kn.one h) h
theorem zC.one {w:World} {g:z8}:{o:AR}->{t:Ty}->{d:t.den}->{cs:List Value}->zC w g o t d cs->∀ v∈cs,v.oneCell'=true
 | _,.int _,_,_,h=>by obtain ⟨rfl,_⟩:=h;simp [Value.oneCell']
 | _,.bool,_,_,h=>by cases h;simp [Value.oneCell']
 | _,.str,_,_,h=>by obtain ⟨s,rfl,_⟩:=h;simp [Value.oneCell']
 | _,.unit,_,_,h=>by cases h;simp
 | _,.pair a b,(x,y),_,h=>by
  obtain ⟨c1,c2,rfl,h1,h2⟩:=h;intro v hv;rcases Gt.1 hv with hv | hv
  ·exact zC.one h1 v hv
  ·exact zC.one h2 v hv
 | _,.arr n t,l,cs,h=>by
  intro v hv;obtain ⟨j,hj,rfl⟩:=VI.1 hv;have hlen:=h.2.1;have htz:0 < t.size:=by
   rcases Z3v t.size with hz | hz
   ·rw [hz] at hlen;omega
   ·exact hz
  have hdiv:j / t.size < n:=Z3w (by rw [Z24];omega);have hi:j / t.size < List.length l:=by rw [h.1];exact hdiv
  have hr:=zC.one (h.2.2 (j / t.size) hi);refine hr _ ?_;have hm:=Z2w j htz;have hdm:=Z3x j t.size;have hle:(j / t.size+1)*t.size<=n*t.size:=kj _ hdiv;rw [wz] at hle;refine VI.2 ⟨j % t.size,?_,?_⟩
  ·rw [yV (by omega)];exact hm
  ·simp only [qB,Z38,Z3t];congr 1
   rw [Z24];exact hdm
 | _,.sl false t,_,_,h=>by obtain ⟨a,cap,rfl,_⟩:=h;simp [Value.oneCell']
 | some (_,_),.sl true t,_,_,h=>by obtain ⟨a,cap,rfl,_⟩:=h;simp [Value.oneCell']
 | none,.sl true t,_,_,h=>h.elim
 | _,.ptr t,_,_,h=>by obtain ⟨b,off,c,e,fz,rfl,_⟩:=h;simp [Value.oneCell']
 | _,.fn f t,_,_,h=>by obtain ⟨vs,rfl,_⟩:=h;simp [Value.oneCell']
 | _,.tree _,_,_,h=>by obtain ⟨n,h⟩:=h;exact h.one
theorem jV.one {w:World} {g:z8} {z6:qk}:{a:z7}->{cs:List Value}->jV w g z6 a cs->∀ v∈cs,v.oneCell'=true
 | .data t d,_,h=>h.2.one
 | .qy,_,h=>by cases h;simp [Value.oneCell']
 | .ref _ _ _,_,h=>by obtain ⟨v,rfl,h,_⟩:=h;simp [h]
 | .view _ _ _ _ _,_,h=>by obtain ⟨v,rfl,h,_⟩:=h;simp [h]
 | .zu _ _,_,h=>by obtain ⟨v,rfl,h,_⟩:=h;simp [h]
 | .vW _ _ _,_,h=>by obtain ⟨v,rfl,h,_⟩:=h;simp [h]
 | .qA _,_,h=>by obtain ⟨v,rfl,h,_⟩:=h;simp [h]
 | .nv _ _ _ _,_,h=>by obtain ⟨v,rfl,h,_⟩:=h;simp [h]
 | .yG _ _,_,h=>by obtain ⟨v,rfl,_⟩:=h;simp [Value.oneCell']
 | .JJ _ _,_,h=>by obtain ⟨v,Bf,rfl,_⟩:=h;simp [Value.oneCell']
 | .agg c,_,h=>jV.one (a:=c) h
 | .jC _,_,h=>h.elim
 | .pr a b,_,h=>by
  obtain ⟨c1,c2,rfl,h1,h2⟩:=h;intro v hv;rcases Gt.1 hv with hv | hv
  ·exact jV.one h1 v hv
  ·exact jV.one h2 v hv
 | .un,_,h=>by cases h;simp
theorem zC.Sh {w:World} {g:z8} {t:Ty} {d:t.den} {cs:List Value} (h:zC w g none t d cs) (ha:t.sk.isAgg=false):∃ v,cs=[v]:=by
 have hl:=h.len;have:t.size=1:=by cases t <;> simp [Ty.sk,Sk.isAgg] at ha <;> simp [Ty.size]
 rw [this] at hl;exact Z2e.1 hl
theorem ji {w:World} {g:z8} {z6:qk} {av:z7} {v:Value} (hv:av.val=true) (h:zl w g z6 av v):∃ cs,jV w g z6 av cs/\v=jA av.isAgg cs/\v.cells.toList=cs:=by
 obtain ⟨vl,Zo,Xq,OH⟩:=w6 hv;obtain ⟨cs,zR,Qj⟩:=wc h OH;refine ⟨cs,zR,Qj,?_⟩
 cases ha:av.isAgg with
 | true=>
  rw [ha] at Qj;simp only [jA,Dn] at Qj
  rw [Qj];rfl
 | false=>
  rw [ha] at Qj;simp only [jA,Z25,Lp] at Qj;have hl:=zR.len;have:av.sk.size=1:=by
   rw [vl] at ha;cases w7:av.sk <;> rw [w7] at ha <;> simp [Sk.isAgg] at ha;rfl
  rw [this] at hl;obtain ⟨x,rfl⟩:=Z2e.1 hl;have h1:=zR.one x (by simp);have hx:v=x:=Qj;subst hx;cases v <;> simp [Value.oneCell'] at h1 <;> rfl
end Go.Kz
namespace Go.Kz
variable {R:Type}
def qI (g:z8) (b0 m:Nat) (tg:Tag) (v:Value):z8 where
 tag:=fun b=>if b=b0 then tg else g.tag b
 sv:=fun i p=>if i=m then (if p=[] then v else .slice none 0 0) else g.sv i p
 zt:=fun i=>if i=m then b0 else g.zt i
section
variable {w:World} {g:z8} {J:St} {o:Obj} {m:Nat} {tg:Tag} {v:Value}
theorem gn (ht:∀ b,g.tag b≠.zn->b < w.heap.size) (ob:Go.Obj):zO w g (w.alloc ob) (qI g w.heap.size m tg v):=
 ⟨fun b hb=>by
  have:=ht b (by rw [hb];simp);exact ⟨by simp only [qI];rw [qQ (by omega)];exact hb,heap_alloc_old w ob this⟩⟩
theorem xa (ht:∀ b,g.tag b≠.zn->b < w.heap.size) (ob:Go.Obj) {id:Nat} (hid:id≠m):Zj w g (w.alloc ob) (qI g w.heap.size m tg v) id:=by
 refine ⟨⟨fun q=>by simp [qI,hid],fun q b hb=>?_⟩,by simp [qI,hid],fun hb=>?_⟩
 ·have:=ht b (by rw [hb];simp);exact ⟨by simp only [qI];rw [qQ (by omega)];exact hb,heap_alloc_old w ob this⟩
 ·have:=ht (g.zt id) (by rw [hb];simp);exact ⟨by simp only [qI];rw [qQ (by omega)];exact hb,heap_alloc_old w ob this⟩
theorem xb (ht:∀ b,g.tag b≠.zn->b < w.heap.size) (ob:Go.Obj):Ext w g (w.alloc ob) (qI g w.heap.size m tg v):=by
 refine ⟨rfl,rfl,rfl,yS _,by simp,fun b hb _=>⟨heap_alloc_old w ob hb,?_⟩⟩;simp only [qI];rw [qQ (by omega)]
theorem zN {I:Type} (f:Nat->Option I) (i:Nat) (x:Option I):KK f i x i=x:=by simp [KK]
theorem ze {I:Type} (f:Nat->Option I) {i j:Nat} (x:Option I) (h:j≠i):KK f i x j=f j:=by
 simp only [KK]
 cases hb:Nat.beq j i with
 | true=>exact absurd (zE hb) h
 | false=>rfl
theorem Kb (hh:yZ w g J.z6) (ob:Go.Obj) {id:Nat} (hid:id≠m):qz g (qI g w.heap.size m tg v) id (J.z6 id) ((J.setObj m o).z6 id):=by
 simp only [St.setObj];rw [ze _ _ hid];exact qz.same (xa hh.tags ob hid)
theorem zK.new {n:Nat} {a:Act} (zq:zK n g w a J) (hf:zY g J m) (ob:Go.Obj) (JV:tg≠.zn)
  (zg:zm (w.alloc ob) (qI g w.heap.size m tg v) (J.setObj m o).z6 m o):zK n (qI g w.heap.size m tg v) (w.alloc ob) a (J.setObj m o):=by
 refine ⟨fun i av hi=>?_,⟨fun id x hx=>?_,fun b hb=>?_⟩,zq.size,zq.defers,zq.known.kept (gn zq.heap.tags ob)⟩
 ·obtain ⟨u,hu,zR⟩:=zq.zj i av hi;refine ⟨u,hu,zl.frame (gn zq.heap.tags ob) (fun id hid=>Kb zq.heap ob ?_) zR⟩;intro he;subst he;exact hf.zj i av hi hid
 ·by_cases hid:id=m
  ·subst hid;simp only [St.setObj,zN,zI] at hx;subst hx;exact zg
  ·have Gd:J.z6 id=some x:=by simpa [St.setObj,ze _ _ hid] using hx
   refine zm.frame (gn zq.heap.tags ob) (xa zq.heap.tags ob hid) (fun y hy vu IL=>Kb zq.heap ob ?_) (zq.heap.z6 id x Gd);intro he;subst he;subst hy;exact hf.cells id y Gd IL
 ·simp only [qI] at hb;split at hb
  ·rename_i he;subst he;simp
  ·have:=zq.heap.tags b hb;simp;omega
theorem zY.new {m':Nat} (hm:m'≠m) (wC:∀ p,tg≠.row m' p) (z05:tg≠.box m') (ho:∀ y,o = .cell y->m'∉y.ids) (hf:zY g J m'):zY (qI g w.heap.size m tg v) (J.setObj m o) m':=by
 refine ⟨by simp only [St.setObj];rw [ze _ _ hm];exact hf.z6,fun b p hb=>?_,fun b hb=>?_,hf.zj,fun id av hi=>?_⟩
 ·simp only [qI] at hb;split at hb
  ·exact wC p hb
  ·exact hf.row b p hb
 ·simp only [qI] at hb;split at hb
  ·exact z05 hb
  ·exact hf.box b hb
 ·by_cases hid:id=m
  ·subst hid;simp only [St.setObj,zN,zI] at hi;exact ho av hi
  ·simp only [St.setObj] at hi;rw [ze _ _ hid] at hi;exact hf.cells id av hi
end
theorem jn (n:Nat) (cs:List Value) (i:Nat) (h:i < n):qB (List.replicate n cs).flatten (i*cs.length) cs.length=cs:=by
 induction n generalizing i with
 | zero=>omega
 | succ n ih=>
  simp only [Z4f,Z2x]
  cases i with
  | zero=>
   simp only [Z2f]
   rw [qd _ _ _ _ (by omega),kU]
  | succ i=>
   rw [wz,Nat.one_mul,Z4g];rw [y8 _ _ _ _ _ rfl];exact ih i (by omega)
theorem vJ (n:Nat) (cs:List Value):(List.replicate n cs).flatten.length=n*cs.length:=by
 induction n with
 | zero=>simp
 | succ n ih=>simp only [Z4f,Z2x,Kj,ih,wz];omega
theorem zd1:(k:Nat)->(zic k).length=B9 k
 | 0=>rfl
 | 1=>rfl
 | _+2=>rfl
theorem qm:(t:Ty)->(zeroCells t).length=t.size
 | .int _=>rfl
 | .bool=>rfl
 | .str=>rfl
 | .unit=>rfl
 | .pair a b=>by simp only [zeroCells,Kj,Ty.size,qm a,qm b]
 | .arr n t=>by rw [zeroCells,vJ,qm t];rfl
 | .sl _ _=>rfl
 | .ptr _=>rfl
 | .fn f _=>by simp only [zeroCells];cases Nat.beq f 999983 <;> rfl
 | .tree k=>zd1 k
theorem vA {w:World} {g:z8}:{t:Ty}->{d:t.den}->t.zV=true->t.zero=some d->zC w g none t d (zeroCells t)
 | .int k,d,_,h=>by
  simp only [Ty.zero,zI] at h;subst h;refine ⟨rfl,?_⟩
  cases k <;> simp [IntKind.min,IntKind.max,IntKind.bits,IntKind.signed]
 | .bool,d,_,h=>by simp only [Ty.zero,zI] at h;subst h;rfl
 | .str,d,_,h=>by
  simp only [Ty.zero,zI] at h;subst h
  exact ⟨ByteArray.empty,rfl,rfl,jE _⟩
 | .unit,d,_,h=>rfl
 | .pair a b,d,hr,h=>by
  simp only [Ty.zero] at h;simp only [Ty.zV,zA] at hr;split at h
  ·rename_i x y hx hy;simp only [zI] at h;subst h;exact ⟨_,_,rfl,vA hr.1 hx,vA hr.2 hy⟩
  ·simp at h
 | .arr n t,d,hr,h=>by
  simp only [Ty.zero] at h;split at h
  ·rename_i x hx;simp only [zI] at h;subst h;have zX:=vA (w:=w) (g:=g) (by simpa [Ty.zV] using hr) hx;refine ⟨by simp,by rw [zeroCells,vJ,qm],fun i hi=>?_⟩;have vf:i < n:=by simpa using hi
   simp only [HV,List.getElem_replicate,zeroCells];have:=jn n (zeroCells t) i vf;rw [qm] at this;rw [this];exact zX
  ·simp at h
 | .sl false t,d,_,h=>by
  simp only [Ty.zero,zI] at h;subst h
  exact ⟨none,0,rfl,yS _,jE _,fun hn=>absurd rfl hn⟩
 | .sl true t,d,hr,h=>by simp [Ty.zV] at hr
 | .ptr _,_,_,h=>by simp [Ty.zero] at h
 | .fn _ _,_,_,h=>by simp [Ty.zero] at h
 | .tree _,_,_,h=>by simp [Ty.zero] at h
theorem wS:{t:Ty}->t.qn=true->t.zV=true
 | .int _,_=>rfl
 | .bool,_=>rfl
 | .str,_=>rfl
 | .unit,_=>rfl
 | .pair a b,h=>by simp only [Ty.qn,zA] at h;simp [Ty.zV,wS h.1,wS h.2]
 | .arr _ t,h=>by simp only [Ty.qn] at h;simp only [Ty.zV];exact wS h
 | .sl _ _,h=>by simp [Ty.qn] at h
 | .ptr _,h=>by simp [Ty.qn] at h
 | .fn _ _,h=>by simp [Ty.qn] at h
 | .tree _,h=>by simp [Ty.qn] at h
theorem Hh (a b:Ty):p8 (.pair a b)=(match Ty.zero (.pair a b),(Ty.pair a b).qn with
  | some z,true=>some (.data (.pair a b) z)
  | _,_=>(xC (.pair a b)).map .agg):=rfl
theorem Hf (a b:Ty):xC (.pair a b)=(match p8 a,xC b with
  | some x,some y=>some (.pr x y)
  | _,_=>none):=rfl
theorem Na (n:Nat) (t:Ty):p8 (.arr n t)=(match Ty.zero (.arr n t),(Ty.arr n t).zV with
  | some z,true=>some (.data (.arr n t) z)
  | _,_=>none):=by
 unfold p8 v8;rfl
mutual
theorem Pa {w:World} {g:z8} {z6:qk}:{u:Ty}->{z:z7}->p8 u=some z->z.sk=u.sk/\z.ids=[]/\jV w g z6 z (zeroCells u)/\z.val=true
 | .sl o t,z,h=>by
  simp only [p8,v8,zI] at h;subst h
  exact ⟨rfl,rfl,rfl,rfl⟩
 | .pair a b,z,h=>by
  rw [Hh] at h;split at h
  ·rename_i d h1 h2;simp only [zI] at h;subst h;have hr:=wS h2;exact ⟨rfl,rfl,⟨hr,vA hr h1⟩,rfl⟩
  ·simp only [wq] at h;obtain ⟨x,hx,rfl⟩:=h;obtain ⟨h1,h2,h3,h4⟩:=EJ (w:=w) (g:=g) (z6:=z6) hx
   exact ⟨h1,h2,h3,h4⟩
 | .int k,z,h=>by
  simp only [p8,v8,Ty.zero,Ty.qn,zI] at h;subst h
  exact ⟨rfl,rfl,⟨rfl,vA rfl rfl⟩,rfl⟩
 | .bool,z,h=>by
  simp only [p8,v8,Ty.zero,Ty.qn,zI] at h;subst h
  exact ⟨rfl,rfl,⟨rfl,vA rfl rfl⟩,rfl⟩
 | .str,z,h=>by
  simp only [p8,v8,Ty.zero,Ty.qn,zI] at h;subst h
  exact ⟨rfl,rfl,⟨rfl,vA rfl rfl⟩,rfl⟩
 | .unit,z,h=>by
  simp only [p8,v8,Ty.zero,Ty.qn,zI] at h;subst h
  exact ⟨rfl,rfl,⟨rfl,vA rfl rfl⟩,rfl⟩
 | .arr n t,z,h=>by
  rw [Na] at h;split at h
  ·rename_i d h1 h2;simp only [zI] at h;subst h;have hr:=h2;exact ⟨rfl,rfl,⟨hr,vA hr h1⟩,rfl⟩
  ·simp at h
 | .ptr t,z,h=>by simp [p8,v8,Ty.zero] at h
 | .fn f t,z,h=>by simp [p8,v8,Ty.zero] at h
 | .tree _,z,h=>by simp [p8,v8,Ty.zero] at h
theorem EJ {w:World} {g:z8} {z6:qk}:{u:Ty}->{z:z7}->xC u=some z->z.sk=u.sk/\z.ids=[]/\jV w g z6 z (zeroCells u)/\(z7.agg z).val=true
 | .pair a b,z,h=>by
  rw [Hf] at h;split at h
  ·rename_i x y hx hy;simp only [zI] at h;subst h;obtain ⟨h1,h2,h3,_⟩:=Pa (w:=w) (g:=g) (z6:=z6) hx;obtain ⟨k1,k2,k3,_⟩:=EJ (w:=w) (g:=g) (z6:=z6) hy;exact ⟨by simp [z7.sk,Ty.sk,h1,k1],by simp [z7.ids,h2,k2],⟨_,_,rfl,h3,k3⟩,rfl⟩
  ·simp at h
 | .unit,z,h=>by
  simp only [xC,v8,zI] at h;subst h
  exact ⟨rfl,rfl,rfl,rfl⟩
 | .int _,_,h=>by simp [xC,v8] at h
 | .bool,_,h=>by simp [xC,v8] at h
 | .str,_,h=>by simp [xC,v8] at h
 | .arr _ _,_,h=>by simp [xC,v8] at h
 | .sl _ _,_,h=>by simp [xC,v8] at h
 | .ptr _,_,h=>by simp [xC,v8] at h
 | .fn _ _,_,h=>by simp [xC,v8] at h
 | .tree _,_,h=>by simp [xC,v8] at h
end
theorem RA {w:World} {g:z8} {z6:qk} {id:Nat} {u:Ty} {z:z7} (hid:∀ kt vt m,z6 id≠some (.map kt vt m)) (h:LU id u=some z):z.sk=u.sk/\(z.ids=[]\/z.ids=[id])/\jV w g z6 z (zeroCells u)/\z.val=true:=by
 cases u with
 | fn f c=>
  simp only [LU,zI] at h;subst h;refine ⟨rfl,.inr rfl,?_,rfl⟩;simp only [zeroCells];cases Nat.beq f 999983
  ·exact ⟨_,rfl,rfl,fun kt vt m hm=>absurd hm (hid kt vt m)⟩
  ·exact ⟨_,rfl,rfl,fun kt vt m hm=>absurd hm (hid kt vt m)⟩
 | ptr t=>
  simp only [LU,zI] at h;subst h
  exact ⟨rfl,.inr rfl,⟨_,rfl,rfl,fun kt vt m hm=>absurd hm (hid kt vt m)⟩,rfl⟩
 | _=>
  obtain ⟨h1,h2,h3,h4⟩:=Pa (w:=w) (g:=g) (z6:=z6) h;exact ⟨h1,.inl h2,h3,h4⟩
section
variable {P:Program} {o:Oper} {a:Act} {w:World} {K:Act->World->Prop} {Q:Exit->Act->World->Prop} {c:Ctx} {J:St} {g:z8} {k:St->Option R} {r:R} {base:Nat} {mo:Bool}
theorem Jt {ob:Go.Obj} {obj:Obj} {tg:Tag} {v v':Value} {av:z7} (zq:zK c.ntmps g w a J) (hf:zY g J base) (JV:tg = .box base\/∃ p,tg = .row base p)
  (zb:(execOp a.eval o).run P w = .ok (.value v') (w.alloc ob)) (gz:av.ids=[base])
  (zg:zm (w.alloc ob) (qI g w.heap.size base tg v) (J.setObj base obj).z6 base obj)
  (zQ:∀ y,obj = .cell y->∀ m,m≠base->zY g J m->m∉y.ids)
  (hv:zl (w.alloc ob) (qI g w.heap.size base tg v) (J.setObj base obj).z6 av v')
  (h:(J.qe c o.dst av fun J=>k (J.setObj base obj))=some r) (hK:jt c.ntmps k r g w J base mo K):o.wp P a w K Q:=by
 have vI:tg≠.zn:=by rcases JV with rfl | ⟨p,rfl⟩ <;> simp
 have qP:=zq.new hf ob vI zg;have vQ:∀ m,(m < base\/base+8<=m)->zY g J m->zY (qI g w.heap.size base tg v) (J.setObj base obj) m:=by
  intro m hm w9;have Mp:m≠base:=by omega
  refine zY.new Mp (fun p=>?_) ?_ (fun y hy=>zQ y hy m Mp w9) w9
  ·rcases JV with rfl | ⟨p',rfl⟩ <;> simp;exact fun h=>absurd h.symm Mp
  ·rcases JV with rfl | ⟨p',rfl⟩ <;> simp;exact fun h=>Mp h.symm
 unfold Oper.wp;rw [zb,Oper.upon_value];rcases gM h with ⟨hd,hk⟩ | ⟨i,hd,hi,hk⟩
 ·rw [hd];exact hK _ _ _ _ hk qP (xb zq.heap.tags ob) vQ rfl (fun _ b hb=>heap_alloc_old w ob hb)
 ·rw [hd];refine hK _ _ _ _ hk (show zK c.ntmps _ _ _ ((J.setObj base obj).set i av) from qP.put hi hv) (xb zq.heap.tags ob) (fun m hm w9=>?_) rfl (fun _ b hb=>heap_alloc_old w ob hb);exact (vQ m hm w9).set i (by rw [gz];simp;omega)
theorem RF {ob:Go.Obj} {t:Ty} {d:t.den} {v':Value} {cs:List Value} {vx:Value} (zq:zK c.ntmps g w a J) (hf:zY g J base)
  (zb:(execOp a.eval o).run P w = .ok (.value v') (w.alloc ob)) (qv:t.zV=true) (zX:zC (w.alloc ob) (qI g w.heap.size base .ro vx) none t d cs) (hv:v'=jA t.sk.isAgg cs)
  (h:J.qe c o.dst (.data t d) k=some r) (hK:jt c.ntmps k r g w J base mo K):o.wp P a w K Q:=by
 have ht:=zq.heap.tags;have gV:∀ i,i≠base->qz g (qI g w.heap.size base .ro vx) i (J.z6 i) (J.z6 i):=fun i hi=>qz.same (xa ht ob hi)
 have qP:zK c.ntmps (qI g w.heap.size base .ro vx) (w.alloc ob) a J:=by
  refine ⟨fun i av hi=>?_,⟨fun id x hx=>?_,fun b hb=>?_⟩,zq.size,zq.defers,zq.known.kept (gn ht ob)⟩
  ·obtain ⟨u,hu,zR⟩:=zq.zj i av hi;refine ⟨u,hu,zl.frame (gn ht ob) (fun id hid=>gV id ?_) zR⟩;intro he;subst he;exact hf.zj i av hi hid
  ·have hid:id≠base:=by intro he;subst he;have:=hf.z6;rw [hx] at this;simp at this
   refine zm.frame (gn ht ob) (xa ht ob hid) (fun y hy vu IL=>gV vu ?_) (zq.heap.z6 id x hx);intro he;subst he;subst hy;exact hf.cells id y hx IL
  ·simp only [qI] at hb;split at hb
   ·rename_i he;subst he;simp
   ·have:=ht b hb;simp;omega
 have vQ:∀ m,(m < base\/base+8<=m)->zY g J m->zY (qI g w.heap.size base .ro vx) J m:=by
  intro m hm w9;refine ⟨w9.z6,fun b p hb=>?_,fun b hb=>?_,w9.zj,w9.cells⟩
  ·simp only [qI] at hb;split at hb
   ·simp at hb
   ·exact w9.row b p hb
  ·simp only [qI] at hb;split at hb
   ·simp at hb
   ·exact w9.box b hb
 have zso:zl (w.alloc ob) (qI g w.heap.size base .ro vx) J.z6 (.data t d) v':=by
  simp only [zl];exact ⟨cs,⟨qv,zX⟩,hv⟩
 unfold Oper.wp;rw [zb,Oper.upon_value];rcases gM h with ⟨hd,hk⟩ | ⟨i,hd,hi,hk⟩
 ·rw [hd];exact hK _ _ _ _ hk qP (xb ht ob) vQ rfl (fun _ b hb=>heap_alloc_old w ob hb)
 ·rw [hd];exact hK _ _ _ _ hk (qP.put hi zso) (xb ht ob) (fun m hm w9=>(vQ m hm w9).set i (by simp [z7.ids])) rfl (fun _ b hb=>heap_alloc_old w ob hb)
theorem SI (kp:gP P c.tt) {t:TypeId} (ho:o.op = .alloc t) (zq:zK c.ntmps g w a J) (hf:zY g J base) (h:y9 c J base o k=some r) (hK:jt c.ntmps k r g w J base mo K):o.wp P a w K Q:=by
 simp only [y9,ho] at h;split at h
 ·rename_i z hz;simp only [VN] at hz;obtain ⟨u,hu,hz⟩:=hz;have hT:=kp _ _ hu;obtain ⟨i,zv,G2,Jd,_,Rk,Rw,_⟩:=hT.info.info;let g':=qI g w.heap.size base (.box base) undef;let ob:Go.Obj:=.cells zv.cells t;have hz':=RA (w:=w.alloc ob) (g:=g') (z6:=(J.setObj base (.cell z)).z6) (id:=base) (fun kt vt m hm=>by simp [St.setObj,zN] at hm) hz;refine Jt (ob:=ob) (obj:=.cell z) (tg:=.box base) (v:=undef) (v':=.pointer (some ⟨w.heap.size,0,none⟩)) zq hf (.inl rfl) ?_ rfl ?_ ?_ ?_ h hK
  ·simp only [execOp,ho];simp [Instr.alloc,zeroValue,typeInfo,G2,Rk,newVar,newRow];rfl
  ·refine zm.mk ⟨zv.cells,t,?_,?_,?_⟩
   ·have hb:(qI g w.heap.size base (.box base) undef).zt base=w.heap.size:=by simp [qI]
    rw [hb];exact heap_alloc_new w _
   ·simp [qI]
   ·rw [Rw];exact hz'.2.2.1
  ·intro y hy m hm _;simp only [Obj.cell.injEq] at hy;subst hy;rcases hz'.2.1 with h1 | h1 <;> rw [h1] <;> simp [hm]
  ·simp only [zl];refine ⟨_,⟨_,rfl,rfl,fun x _=>?_⟩,rfl⟩;refine ⟨0,x.sk,by simp [Sk.off],?_⟩;simp [qI]
 ·simp at h
theorem zd8 {t:TypeId} {x:Operand} (ho:o.op = .box t x) (zq:zK c.ntmps g w a J) (hf:zY g J base) (h:y9 c J base o k=some r) (hK:jt c.ntmps k r g w J base mo K):o.wp P a w K Q:=by
 simp only [y9,ho] at h;split at h
 ·rename_i av Gr;obtain ⟨ex,ef⟩:=qG zq Gr
  cases hb:av.val with
  | false=>rw [hb] at h;simp at h
  | true=>
   rw [hb] at h;simp only [zD] at h;obtain ⟨cs,zR,Qj,vL⟩:=ji hb ex;let ob:Go.Obj:=.cells (a.eval x).cells t;refine Jt (ob:=ob) (obj:=.cell av) (tg:=.box base) (v:=undef) (v':=.pointer (some ⟨w.heap.size,0,none⟩)) zq hf (.inl rfl) ?_ rfl ?_ ?_ ?_ h hK
   ·simp only [execOp,ho];simp [Instr.box,newVar,newRow];rfl
   ·refine zm.mk ⟨(a.eval x).cells,t,?_,?_,?_⟩
    ·have hb:(qI g w.heap.size base (.box base) undef).zt base=w.heap.size:=by simp [qI]
     rw [hb];exact heap_alloc_new w _
    ·simp [qI]
    ·rw [vL];refine jV.frame (gn zq.heap.tags ob) (fun id hid=>Kb zq.heap ob ?_) zR;intro he;subst he;exact ef _ hf hid
   ·intro y hy m _ hm;simp only [Obj.cell.injEq] at hy;subst hy;exact ef m hm
   ·simp only [zl];refine ⟨_,⟨_,rfl,rfl,fun y _=>?_⟩,rfl⟩;refine ⟨0,y.sk,by simp [Sk.off],?_⟩;simp [qI]
 ·simp at h
end
end Go.Kz
namespace Go.Kz
variable {R:Type}
theorem QW:(Gk:List (List Value))->(n:Nat)->(∀ cs∈Gk,cs.length=n)->(i:Nat)->(h:i < Gk.length)->qB Gk.flatten (i*n) n=Gk.get ⟨i,h⟩
 | cs :: Gk,n,hl,0,_=>by
  have h0:=hl cs (by simp);simp only [Z2x,Z2f,List.get]
  rw [qd _ _ _ _ (by omega),<-h0,kU]
 | cs :: Gk,n,hl,i+1,h=>by
  have h0:=hl cs (by simp);simp only [Z2x];rw [wz,Nat.one_mul,Z4g (i*n) n,y8 _ _ _ _ _ h0.symm];have:=QW Gk n (fun cs pN=>hl cs (by simp [pN])) i (by simpa using h);simpa using this
theorem length_flatten:(Gk:List (List Value))->(n:Nat)->(∀ cs∈Gk,cs.length=n)->Gk.flatten.length=Gk.length*n
 | [],n,_=>by simp
 | cs :: Gk,n,hl=>by
  have h0:=hl cs (by simp);have:=length_flatten Gk n (fun cs pN=>hl cs (by simp [pN]));simp only [Z2x,Kj,this,h0,GO,wz];omega
theorem QN (z:Array Value) (n:Nat) (hz:0 < z.size):(madeCells z (n*z.size)).toList=(List.replicate n z.toList).flatten:=by
 have hlen:(List.replicate n z.toList).flatten.length=n*z.size:=by rw [vJ,vX]
 apply Z2y
 ·rw [hlen,vX,size_madeCells]
 ·intro i h1 h2;rw [hlen] at h2;have hi:i / z.size < n:=Z3w (by rw [Z24];exact h2);have hm:=Z2w i hz;have hs:=jn n z.toList (i / z.size) hi;rw [vX] at hs;have hdm:=Z3x i z.size;have e:(List.replicate n z.toList).flatten[i]? = z.toList[i % z.size]? := by
   have:=C6 (fun l=>l[i % z.size]?) hs;simp only [qB,Z2v,Z27,hm,Dn] at this;rw [Z24 (i / z.size) z.size,hdm] at this;exact this
  have e2:(madeCells z (n*z.size)).toList[i]=z[i % z.size]:=by
   simp [madeCells,hm]
  have h3:i < (List.replicate n z.toList).flatten.length:=by rw [hlen];exact h2
  rw [gj h3] at e;rw [e2];have h4:i % z.size < z.toList.length:=by rw [vX];exact hm
  rw [gj h4] at e;simp only [zI] at e;rw [e];simp
theorem Vc {P:Program} {c:Ctx} (kp:gP P c.tt) {d:Option Nat} {t:TypeId} {o:Bool} {u:Ty} (h:Ae c d t=some (.sl o u)) :
  ∃ E v,P.underlying t=some (.slice E)/\qq P v E/\v.ro=u.ro:=by
 unfold Ae at h;split at h
 ·rename_i u' hd;split at h
  ·rename_i v hv;split at h
   ·rename_i hs _;simp only [zI] at h;subst h;have hT:=kp _ _ hv;have he:=hs.down
    cases v with
    | sl o' v=>
     simp only [qq] at hT;obtain ⟨⟨E,h1,h2⟩,_⟩:=hT;simp only [Ty.ro,Ty.sl.injEq,VL] at he
     exact ⟨E,v,h1,h2,he.symm⟩
    | _=>simp [Ty.ro] at he
   ·simp at h
  ·simp at h
 ·have hT:=kp _ _ h;simp only [qq] at hT;obtain ⟨⟨E,h1,h2⟩,_⟩:=hT;exact ⟨E,u,h1,h2,rfl⟩
theorem gk:(t:Ty)->zeroCells t.ro=zeroCells t
 | .int _=>rfl
 | .bool=>rfl
 | .str=>rfl
 | .unit=>rfl
 | .pair a b=>by simp only [Ty.ro,zeroCells,gk a,gk b]
 | .arr _ t=>by simp only [Ty.ro,zeroCells,gk t]
 | .sl _ _=>rfl
 | .ptr _=>rfl
 | .fn _ _=>rfl
 | .tree _=>rfl
theorem yF.congr {P:Program} {T:TypeId} {u v:Ty} (h:yF P T v) (e:v.ro=u.ro):yF P T u:=by
 obtain ⟨i,z,h1,h2,h3,h4,h5,h6⟩:=h.info;have hs:v.size=u.size:=by rw [<-Ty.qH v,<-Ty.qH u,e]
 have hz:zeroCells v=zeroCells u:=by rw [<-gk v,<-gk u,e]
 exact ⟨⟨i,z,h1,h2.trans hs,h3,h4,h5.trans hz,h6⟩⟩
section
variable {P:Program} {o:Oper} {a:Act} {w:World} {K:Act->World->Prop} {Q:Exit->Act->World->Prop} {c:Ctx} {J:St} {g:z8} {k:St->Option R} {r:R} {base:Nat} {mo:Bool}
theorem CV {u:Ty} {l:List u.den} {cells:Array Value} {e:TypeId} {cap:Nat} (ht:∀ b,g.tag b≠.zn->b < w.heap.size) (hu:u.zV=true)
  (hc:l.length<=cap) (hm:cap<=maxLen) (hs:cap*u.size<=cells.size)
  (jo:∀ (i:Nat) (h:i < l.length),zC w g none u (l.get ⟨i,h⟩) (qB cells.toList (i*u.size) u.size)) (z6:qk) (ep:Nat) :
  zm (w.alloc (.cells cells e)) (qI g w.heap.size base (.row base []) (.slice (some ⟨w.heap.size,0,none⟩) l.length cap)) z6 base (.row u l ep):=by
 refine ⟨hu,some ⟨w.heap.size,0,none⟩,cap,by simp [qI],by simp [qI],hc,hm,.inr ⟨w.heap.size,0,cells,e,rfl,by simp [qI],heap_alloc_new w _,by omega,fun i hi=>?_⟩⟩;rw [Zp];exact zC.qt hu ((jo i hi).kept (gn ht _))
theorem GR {z6:qk} {u:Ty} {l:List u.den} {v:Value} {b0:Nat} (ho:z6 base=some (.row u l 0)) (qL:v.oneCell'=true) :
  zl w (qI g b0 base (.row base []) v) z6 (.ref base [] 0) v:=by
 simp only [zl];refine ⟨_,⟨v,rfl,qL,fun t l' e hx=>?_⟩,rfl⟩;rw [ho] at hx;simp only [zI,Obj.row.injEq] at hx;obtain ⟨_,_,rfl⟩:=hx;exact ⟨yS _,fun _=>by simp [qI]⟩
theorem AJ {t E:TypeId} {u:Ty} {z:u.den} (qg:P.underlying t=some (.slice E)) (vk:yF P E u) (hu:u.zV=true) (hz:u.zero=some z) (ht:∀ b,g.tag b≠.zn->b < w.heap.size)
  (kl kc:IntKind) (l m:Int) (Xj:0<=l) (AP:l<=m) (kS:m<=4294967296) (z6:qk) :
  ∃ cells,(Instr.makeSlice t (.int kl l) (.int kc m)).run P w = .ok (.slice (some ⟨w.heap.size,0,none⟩) l.toNat m.toNat) (w.alloc (.cells cells E))/\
   zm (w.alloc (.cells cells E)) (qI g w.heap.size base (.row base []) (.slice (some ⟨w.heap.size,0,none⟩) l.toNat m.toNat)) z6 base (.row u (List.replicate l.toNat z) 0):=by
 obtain ⟨i,zv,G2,Jd,AX,Rk,Rw,hi6⟩:=vk.info;have VW:(i.bytes:Int)*m<=281474976710656:=by
  have h1:(i.bytes:Int)<=32768:=by omega
  have h2:(i.bytes:Int)*m<=32768*m:=Z29 h1 (by omega);omega
 have zb:=run_make (P:=P) w t E i zv qg G2 Rk kl kc l m Xj AP VW (by omega);have Gc:zv.cells.size=u.size:=by rw [<-vX,Rw,qm]
 have vL:(madeCells zv.cells (m.toNat*i.size)).toList=(List.replicate m.toNat (zeroCells u)).flatten:=by
  rw [Jd,<-Gc,QN _ _ (by rw [Gc,<-Jd];exact hi6),Rw]
 have hlen:(List.replicate l.toNat z).length=l.toNat:=by simp
 have zg:zm (w.alloc (.cells (madeCells zv.cells (m.toNat*i.size)) E)) (qI g w.heap.size base (.row base []) (.slice (some ⟨w.heap.size,0,none⟩) (List.replicate l.toNat z).length m.toNat)) z6 base (.row u (List.replicate l.toNat z) 0):=by
  refine CV ht hu ?_ ?_ ?_ (fun j hj=>?_) _ _
  ·rw [hlen];omega
  ·unfold maxLen;omega
  ·rw [size_madeCells,Jd];exact yS _
  ·rw [vL];have v7:j < l.toNat:=by rw [<-hlen];exact hj
   have:=jn m.toNat (zeroCells u) j (by omega);rw [qm] at this;rw [this];simp only [HV,List.getElem_replicate];exact vA hu hz
 rw [hlen] at zg;exact ⟨_,zb,zg⟩
theorem Sj {u:Ty} (h:LN u=true):∃ v,u = .sl true v:=by
 unfold LN at h;split at h
 ·exact ⟨_,rfl⟩
 ·simp at h
theorem Uf {t E:TypeId} {v:Ty} (qg:P.underlying t=some (.slice E)) (vk:yF P E (.sl true v))
  (kl kc:IntKind) (l m:Int) (Xj:0<=l) (AP:l<=m) (kS:m<=4294967296) (z6:qk) :
  ∃ cells,(Instr.makeSlice t (.int kl l) (.int kc m)).run P w = .ok (.slice (some ⟨w.heap.size,0,none⟩) l.toNat m.toNat) (w.alloc (.cells cells E))/\
   zm (w.alloc (.cells cells E)) (qI g w.heap.size base (.row base []) (.slice (some ⟨w.heap.size,0,none⟩) l.toNat m.toNat)) z6 base (.nest (.sl true v) (List.replicate l.toNat ([]:List v.den)) 0 0 none):=by
 obtain ⟨i,zv,G2,Jd,AX,Rk,Rw,hi6⟩:=vk.info;have VW:(i.bytes:Int)*m<=281474976710656:=by
  have h1:(i.bytes:Int)<=32768:=by omega
  have h2:(i.bytes:Int)*m<=32768*m:=Z29 h1 (by omega);omega
 have zb:=run_make (P:=P) w t E i zv qg G2 Rk kl kc l m Xj AP VW (by omega);have Gc:zv.cells.size=1:=by rw [<-vX,Rw];rfl
 have zla:i.size=1:=Jd;have vL:(madeCells zv.cells (m.toNat*i.size)).toList=(List.replicate m.toNat (zeroCells (.sl true v))).flatten:=by
  rw [zla,<-Gc,QN _ _ (by rw [Gc];omega),Rw]
 have hlen:(List.replicate l.toNat ([]:List v.den)).length=l.toNat:=by simp
 refine ⟨_,zb,?_⟩;show zC _ _ (some (base,[])) (.sl true (.sl true v)) (List.replicate l.toNat ([]:List v.den)) _;refine ⟨some ⟨w.heap.size,0,none⟩,m.toNat,by rw [hlen];simp [qI],by rw [hlen];simp [qI],by rw [hlen];omega,by unfold maxLen;omega,.inr ⟨w.heap.size,0,_,E,rfl,by simp [qI],heap_alloc_new w _,?_,fun j hj=>?_⟩⟩
 ·rw [size_madeCells,zla];simp [Ty.size]
 ·have v7:j < l.toNat:=by rw [<-hlen];exact hj
  rw [vL];have:=jn m.toNat (zeroCells (.sl true v)) j (by omega);rw [qm] at this;rw [Zp,this];have gq:(List.replicate l.toNat ([]:List v.den)).get ⟨j,hj⟩=[]:=by simp
  show zC _ _ (some (base,[]++[Step.idx (j:Int)])) (.sl true v) ((List.replicate l.toNat ([]:List v.den)).get ⟨j,hj⟩) _;rw [gq];exact ⟨none,0,rfl,by simp [qI],yS _,jE _,.inl ⟨rfl,rfl,rfl⟩⟩
theorem E4 {z6:qk} {u:Ty} {l:List u.den} {v:Value} {b0:Nat} (ho:z6 base=some (.nest u l 0 0 none)) (qL:v.oneCell'=true) :
  zl w (qI g b0 base (.row base []) v) z6 (.nv false base [] 0) v:=by
 simp only [zl];refine ⟨_,⟨v,rfl,qL,fun t l' e i h hx=>?_⟩,rfl⟩;rw [ho] at hx;simp only [zI,Obj.nest.injEq] at hx;obtain ⟨_,_,rfl,rfl,_⟩:=hx;exact ⟨yS _,fun _=>⟨fun _=>by simp [qI],fun h=>(by simp at h)⟩⟩
theorem CD (kp:gP P c.tt) {t:TypeId} {x y:Operand} (ho:o.op = .makeSlice t x y) (zq:zK c.ntmps g w a J) (hf:zY g J base) (h:y9 c J base o k=some r) (hK:jt c.ntmps k r g w J base mo K):o.wp P a w K Q:=by
 simp only [y9,ho] at h;split at h
 ·rename_i ow u Qe;split at h
  ·rename_i z kl l kc m hz hx hy
   cases hu:u.zV with
   | false=>
    rw [hu] at h;simp only [zW] at h
    cases hr:LN u with
    | false=>rw [hr] at h;simp at h
    | true=>
     rw [hr] at h;simp only [zD] at h;obtain ⟨v',rfl⟩:=Sj hr;obtain ⟨hb,h⟩:=qC h;simp only [zA,jL] at hb;obtain ⟨⟨Xj,AP⟩,kS⟩:=hb;obtain ⟨E,v,qg,hv,hvu⟩:=Vc kp Qe;have vk:yF P E (.sl true v'):=hv.info.congr hvu;obtain ⟨vx,_⟩:=jF (qG zq hx).1;obtain ⟨vy,_⟩:=jF (qG zq hy).1
     ·simp only [Ty.zero,zI] at hz;subst hz;obtain ⟨cells,zb,zg⟩:=Uf (P:=P) (base:=base) (w:=w) (g:=g) qg vk kl kc l m Xj AP kS (J.setObj base (.nest (.sl true v') (List.replicate l.toNat ([]:List v'.den)) 0 0 none)).z6;refine Jt (tg:=.row base []) zq hf (.inr ⟨[],rfl⟩) ?_ rfl zg (fun y hy=>by simp at hy) (E4 (u:=.sl true v') (l:=List.replicate (Int.toNat l) ([]:List v'.den)) (by simp [St.setObj,zN]) rfl) h hK;simp only [execOp,ho,vx,vy]
      simp [zb]
   | true=>
    rw [hu] at h;simp only [zD] at h;obtain ⟨hb,h⟩:=qC h;simp only [zA,jL] at hb;obtain ⟨⟨Xj,AP⟩,kS⟩:=hb;obtain ⟨E,v,qg,hv,hvu⟩:=Vc kp Qe;have vk:yF P E u:=hv.info.congr hvu;obtain ⟨vx,_⟩:=jF (qG zq hx).1;obtain ⟨vy,_⟩:=jF (qG zq hy).1;obtain ⟨cells,zb,zg⟩:=AJ (P:=P) (base:=base) qg vk hu hz zq.heap.tags kl kc l m Xj AP kS (J.setObj base (.row u (List.replicate l.toNat z) 0)).z6;refine Jt (tg:=.row base []) zq hf (.inr ⟨[],rfl⟩) ?_ rfl zg (fun y hy=>by simp at hy) (GR (u:=u) (l:=List.replicate (Int.toNat l) z) (by simp [St.setObj,zN]) rfl) h hK;simp only [execOp,ho,vx,vy];simp [zb]
  ·simp at h
 ·simp at h
theorem Xp (off:Nat):(l:List Value)->(j0:Nat)->(cells:Array Value)->off+j0+l.length<=cells.size->
  ((l.zipIdx j0).foldl (fun cs (x:Value×Nat)=>cs.setIfInBounds (off+x.2) x.1) cells).toList=zU cells.toList (off+j0) l
 | [],j0,cells,_=>by simp [zU]
 | x :: l,j0,cells,h=>by
  simp only [GO] at h;simp only [List.zipIdx_cons,Z2g];rw [Xp off l (j0+1) _ (by rw [Array.size_setIfInBounds];omega)];simp only [zU,Array.toList_setIfInBounds,GO];have e1:(cells.toList.set (off+j0) x).take (off+(j0+1))=cells.toList.take (off+j0)++[x]:=by
   rw [<-R4,Z5s (by simp;omega)];simp [List.take_set_of_le]
  have e2:(cells.toList.set (off+j0) x).drop (off+(j0+1)+l.length)=cells.toList.drop (off+j0+(l.length+1)):=by
   rw [List.drop_set_of_lt (by omega)];congr 1;omega
  rw [e1,e2];simp
theorem Pp {size:Nat}:(vs:List Value)->(j:Nat)->(cells:Array Value)->(∀ v∈vs,v.cells.size=size)->(j+vs.length)*size<=cells.size->
  ∃ qf,Instr.fill (fun i=>some (i*size,size)) cells (zT j vs)=some qf/\
   qf.toList=cells.toList.take (j*size)++(vs.map (·.cells.toList)).flatten++cells.toList.drop ((j+vs.length)*size)
 | [],j,cells,_,h=>⟨cells,rfl,by simp⟩
 | v :: vs,j,cells,hv,h=>by
  have h0:=hv v (by simp);simp only [GO] at h;have hmul:(j+(vs.length+1))*size=j*size+size+vs.length*size:=by rw [wz,wz];omega
  have TT:(j+1+vs.length)*size=j*size+size+vs.length*size:=by rw [wz,wz];omega
  have Tn:=Xp (j*size) v.cells.toList 0 cells (by rw [vX,h0];omega);let xP:Array Value:=(v.cells.toList.zipIdx 0).foldl (fun cs (x:Value×Nat)=>cs.setIfInBounds (j*size+x.2) x.1) cells;have Pg:xP.toList=zU cells.toList (j*size) v.cells.toList:=Tn;have gJ:xP.size=cells.size:=by
   rw [<-vX,Pg,yM _ _ _ (by rw [vX,vX,h0];omega),vX]
  obtain ⟨qf,h1,h2⟩:=Pp vs (j+1) xP (fun u hu=>hv u (by simp [hu])) (by rw [gJ,TT];omega);refine ⟨qf,?_,?_⟩
  ·simp only [zT,Instr.fill];rw [qQ (by simp [h0];omega)];rw [<-h1];congr 1;show v.cells.zipIdx.foldl _ cells=xP;rw [<-Array.foldl_toList,Array.toList_zipIdx]
  ·rw [h2,Pg];have X7:v.cells.toList.length=size:=by rw [vX,h0]
   have e1:(zU cells.toList (j*size) v.cells.toList).take ((j+1)*size)=cells.toList.take (j*size)++v.cells.toList:=by
    simp only [zU];rw [Z3n (by simp [X7];rw [wz];omega)];rw [Z2d (by simp [X7];rw [wz];omega)]
   have e2:(zU cells.toList (j*size) v.cells.toList).drop ((j+1+vs.length)*size)=cells.toList.drop ((j+(vs.length+1))*size):=by
    obtain ⟨q,hq⟩:∃ q,(j+1+vs.length)*size=(j*size+size)+q:=⟨vs.length*size,TT⟩;have HS:(j+(vs.length+1))*size=j*size+size+q:=by rw [hmul];rw [TT] at hq;omega
    rw [hq,HS];simp only [zU];rw [Z3o,Dt (by simp [X7];omega),Zu,Ng];congr 1;simp [X7];omega
   rw [e1,e2];simp [VO]
theorem Ei {u:Ty} (hu:u.zV=true):{l:List (Nat×Operand)}->{J:St}->{g:z8}->{k:List u.den->St->Option R}->{r:R}->{n:Nat}->
  zK n g w a J->parts J u l k=some r->
  ∃ ds J' g' Gk,k ds J'=some r/\J'.zj=J.zj/\J'.next=J.next/\jQ g J.z6 g' J'.z6/\ds.length=l.length/\
   l.map (fun x=>(a.eval x.2).cells.toList)=Gk/\(∀ cs∈Gk,cs.length=u.size)/\
   ∀ (i:Nat) (h:i < ds.length) (h':i < Gk.length),zC w g' none u (ds.get ⟨i,h⟩) (Gk.get ⟨i,h'⟩)
 | [],J,g,k,r,n,zq,h=>⟨[],J,g,[],h,rfl,rfl,.refl _ _,rfl,rfl,by simp,fun i h=>by simp at h⟩
 | (j,x) :: l,J,g,k,r,n,zq,h=>by
  simp only [parts] at h;split at h
  ·rename_i av Gr;obtain ⟨ex,ef⟩:=qG zq Gr
   cases hb:av.val with
   | false=>rw [hb] at h;simp at h
   | true=>
    rw [hb] at h;simp only [zD] at h;obtain ⟨cs,zR,Qj,vL⟩:=ji hb ex;obtain ⟨d,J1,g1,hk,h1,h2,h3,zX⟩:=kA 20 zq.heap zR hu h;obtain ⟨ds,J2,g2,Gk,GX,h4,h5,h6,h7,h8,h9,h10⟩:=Ei hu (h3.st h1 zq) hk;refine ⟨d :: ds,J2,g2,cs :: Gk,GX,h4.trans h1,h5.trans h2,h3.trans h6,by simp [h7],?_,?_,?_⟩
    ·simp only [JU,vL,h8]
    ·intro c hc;rcases gX.1 hc with rfl | hc
     ·exact zX.len
     ·exact h9 c hc
    ·intro i hi vf
     cases i with
     | zero=>exact zX.kept (h6.ro w)
     | succ i=>exact h10 i (by simpa using hi) (by simpa using vf)
  ·simp at h
theorem wT:{l:List (Nat×Operand)}->{j:Nat}->xy j l=true->(f:Operand->Value)->l.map (fun x=>(x.1,f x.2))=zT j (l.map fun x=>f x.2)
 | [],_,_,_=>rfl
 | (i,x) :: l,j,h,f=>by
  simp only [xy,zA] at h;have he:=zE h.1;simp only [JU,zT,wT h.2 f,he]
theorem AZ (kp:gP P c.tt) {t:TypeId} {len:Nat} {ps:Array (Nat×Operand)} (ho:o.op = .buildSlice t len ps) (zq:zK c.ntmps g w a J) (hf:zY g J base)
  (Mk:∀ ow u,Ae c o.dst t=some (.sl ow u)->Kd u=true->len*u.size<=100000->Lo c J base o.dst u len ps.toList k=some r->o.wp P a w K Q)
  (h:y9 c J base o k=some r) (hK:jt c.ntmps k r g w J base mo K):o.wp P a w K Q:=by
 simp only [y9,ho] at h;split at h
 ·rename_i ow u Qe
  cases hb:(u.zV && xy 0 ps.toList && Nat.beq ps.toList.length len && Nat.ble (len*u.size) 100000) with
  | false=>
   rw [hb] at h;simp only [zW] at h
   cases vT:(Kd u && Nat.ble (len*u.size) 100000) with
   | false=>rw [vT] at h;simp at h
   | true=>
    rw [vT] at h;simp only [zA] at vT
    exact Mk ow u Qe vT.1 (zL vT.2) h
  | true=>
   rw [hb] at h;simp only [zD] at h;simp only [zA] at hb;obtain ⟨⟨⟨hu,Qv⟩,hlen⟩,AD⟩:=hb;have hlen:=zE hlen;have AD:=zL AD;obtain ⟨E,v,qg,hv,hvu⟩:=Vc kp Qe;have vk:yF P E u:=hv.info.congr hvu;obtain ⟨i,zv,G2,Jd,AX,Rk,Rw,hi6⟩:=vk.info;obtain ⟨ds,J1,g1,Gk,hk,h1,h2,h3,h4,h5,h6,h7⟩:=Ei hu zq h;have yC:=h3.st h1 zq;have Q7:=h3.fresh h1 hf;let vs:List Value:=ps.toList.map fun x=>a.eval x.2
   have KZ:∀ v∈vs,v.cells.size=u.size:=by
    intro v hv;obtain ⟨x,hx,rfl⟩:=Jo.1 hv;rw [<-vX];exact h6 _ (by rw [<-h5];exact Jo.2 ⟨x,hx,rfl⟩)
   have X7:vs.length=len:=by simp [vs];rw [<-hlen];simp
   let VR:Array Value:=(Array.range (len*i.size)).map (zv.cells[· % zv.cells.size]!);let zos:Array Value:=(Array.range (len*i.size)).map ((#[]:Array Value)[· % (#[]:Array Value).size]!);have TJ:VR.size=len*u.size:=by simp [VR,Jd]
   obtain ⟨cells,GA,pO⟩:=Pp vs 0 VR KZ (by rw [TJ,Zp,X7];exact yS _);have Gn:cells.toList=Gk.flatten:=by
    rw [pO];simp only [Z2f,Z20,Zu,Zp,X7];rw [Dt (by rw [vX,TJ];exact yS _),AL];rw [<-h5];simp [vs];rfl
   have FE:Gk.length=len:=by rw [<-h5];simp [<-hlen]
   have IE:ps.toList.map (fun x=>(x.1,a.eval x.2))=zT 0 vs:=wT Qv a.eval;have zb:(Instr.buildSlice t len (ps.map fun x=>(x.1,a.eval x.2))).run P w = .ok (.slice (some ⟨w.heap.size,0,none⟩) len len) (w.alloc (.cells cells E)):=by
    have OF:¬ (2 ^ 24 < len*i.size):=by rw [Jd];omega
    unfold Instr.buildSlice;simp only [Sem.run_bind,run_underlying qg,Result.andThen_ok];by_cases hz:len*i.size=0
    ·have Xj:len=0:=by
      rcases Nat.mul_eq_zero.1 hz with h0 | h0
      ·exact h0
      ·omega
     have OD:ps = #[]:=by apply Dr.1;exact Z2h (hlen.trans Xj)
     have EZ:cells.toList=[]:=by
      rw [Gn,Z2h (FE.trans Xj)];rfl
     have zf7:cells = #[]:=by apply Dr.1;rw [EZ]
     simp [Go.sizeOf,typeInfo,G2,Xj,OD,Instr.fill,newRow,zf7,Array.range_zero']
    ·have VY:=GA;simp only [VR] at VY;rw [<-Jd] at VY;simp [Go.sizeOf,typeInfo,G2,OF,hz,zeroValue,Rk,IE,VY,newRow]
   have zg:zm (w.alloc (.cells cells E)) (qI g1 w.heap.size base (.row base []) (.slice (some ⟨w.heap.size,0,none⟩) ds.length len)) (J1.setObj base (.row u ds 0)).z6 base (.row u ds 0):=by
    refine CV yC.heap.tags hu ?_ ?_ ?_ (fun j hj=>?_) _ _
    ·rw [h4,hlen];exact yS _
    ·have:len*1<=len*u.size:=Z53 _ (by omega);unfold maxLen;omega
    ·rw [<-vX,Gn,length_flatten Gk u.size h6,FE];exact yS _
    ·rw [Gn,QW Gk u.size h6 j (by rw [FE,<-hlen,<-h4];exact hj)];exact h7 j hj _
   have hdl:ds.length=len:=h4.trans hlen;rw [hdl] at zg;have hK1:jt c.ntmps k r g1 w J1 base mo K:=by
    intro J' g' a' w' A9 qP qM vQ zkp vl;exact hK J' g' a' w' A9 qP (h3.ext.trans qM) (fun m hm w9=>vQ m hm (h3.fresh h1 w9)) (zkp.trans h2) vl
   cases hfz:zm4 c o.dst with
   | true=>
    rw [hfz] at hk;simp only [zD] at hk;obtain ⟨_,a',pD,hcs',_,hlc',hcm',zyc⟩:=zg;have zX:zC (w.alloc (.cells cells E)) (qI g1 w.heap.size base .ro (.slice (some ⟨w.heap.size,0,none⟩) len len)) none (.sl false u) ds [.slice (some ⟨w.heap.size,0,none⟩) len len]:=by
     refine ⟨some ⟨w.heap.size,0,none⟩,len,by rw [hdl],by rw [hdl];exact yS _,?_,fun vI=>⟨w.heap.size,0,cells,E,(0,0),rfl,by simp [qI],heap_alloc_new w _,?_,fun j hj=>?_⟩⟩
     ·have:len*1<=len*u.size:=Z53 _ (by omega);unfold maxLen;omega
     ·rw [hdl,<-vX,Gn,length_flatten Gk u.size h6,FE,Zp];exact yS _
     ·rw [Zp,Gn,QW Gk u.size h6 j (by rw [FE,<-hdl];exact hj)];exact (h7 j hj _).kept (gn yC.heap.tags _)
    refine RF (v':=.slice (some ⟨w.heap.size,0,none⟩) len len) (t:=.sl false u) yC Q7 ?_ (by simpa [Ty.zV] using hu) zX rfl hk hK1;simp only [execOp,ho]
    simp [zb]
   | false=>
   rw [hfz] at hk;simp only [zW] at hk;refine Jt (tg:=.row base []) yC Q7 (.inr ⟨[],rfl⟩) ?_ rfl zg (fun y hy=>by simp at hy) (GR (u:=u) (l:=ds) (by simp [St.setObj,zN]) rfl) hk hK1;simp only [execOp,ho];simp [zb]
 ·simp at h
end
end Go.Kz
namespace Go.Kz
section
variable {P:Program} {w:World}
theorem x4 {T:TypeId} {t:Ty} (h:yF P T t) (w:World):(Go.sizeOf T).run P w = .ok t.size w:=by
 obtain ⟨i,z,h1,h2,_⟩:=h.info;simp [Go.sizeOf,typeInfo,h1,h2]
end
section
variable {R:Type} {P:Program} {o:Oper} {a:Act} {w:World} {c:Ctx} {J:St} {g:z8} {k:St->Option R} {r:R} {base:Nat}
def z2m (P:Program) (w:World) (g:z8) (J:St) (a:Act) (u:Ty) (fs:List Field) (off i:Nat) (l:List (Nat×Operand)) (av:z7):Prop:=
 ∃ pl:List (Nat×Nat),(∀ w',(fs.mapM (m:=Sem) fun f=>do pure (f.offset,<-Go.sizeOf f.type)).run P w' = .ok pl w')/\(∀ m,zY g J m->m∉av.ids)/\
  ∀ (pre:List (Nat×Nat)) (cells:Array Value),pre.length=i->cells.toList.drop off=zeroCells u->off<=cells.size->
   ∃ qf,Instr.fill (fun i=>(pre++pl).toArray[i]?) cells (l.map fun x=>(x.1,a.eval x.2))=some qf/\qf.toList.take off=cells.toList.take off/\qf.size=cells.size/\jV w g J.z6 av (qf.toList.drop off)
theorem XY {n:Nat} (zq:zK n g w a J):{u:Ty}->{fs:List Field}->{off i:Nat}->{l:List (Nat×Operand)}->{av:z7}->gE J u i l=some av->av.sk=u.sk->jm P u fs off->z2m P w g J a u fs off i l av
 | .unit,[],off,i,[],av,h,_,_=>by
  simp only [gE,zI] at h;subst h;refine ⟨[],fun w'=>rfl,fun m _=>by simp [z7.ids],fun pre cells _ hz _=>⟨cells,rfl,rfl,rfl,?_⟩⟩
  rw [hz];rfl
 | .unit,_ :: _,off,i,l,av,_,_,hf=>by simp [jm] at hf
 | .unit,[],off,i,_ :: _,av,h,_,_=>by simp [gE] at h
 | .pair t u,[],off,i,l,av,_,_,hf=>by simp [jm] at hf
 | .pair t u,f :: fs,off,i,l,av,h,hs,hf=>by
  simp only [jm] at hf;obtain ⟨f1,f2,f3⟩:=hf;have Cd:(zeroCells t).length=t.size:=qm t;have skip:∀ z c,p8 t=some z->gE J u (i+1) l=some c->av = .pr z c->z2m P w g J a (.pair t u) (f :: fs) off i l av:=fun z c hz hc Gr=>by
   subst Gr;simp only [z7.sk,Ty.sk,Sk.pair.injEq] at hs;obtain ⟨z1,z2,z3,z4⟩:=Pa (w:=w) (g:=g) (z6:=J.z6) hz;obtain ⟨pl,p1,p2,p3⟩:=XY zq hc hs.2 f3;exact (⟨(off,t.size) :: pl,fun w'=>by
    have:=p1 w';simp only [List.mapM_cons,Sem.run_bind,x4 f2.info,Result.andThen_ok,Sem.run_pure,this,f1],fun m hm=>by
    simp only [z7.ids,z2,Zu];exact p2 m hm,fun pre cells uI TW ju=>by
    have ze3:cells.toList.drop (off+t.size)=zeroCells u:=by
     rw [<-Ng,TW];simp only [zeroCells];rw [<-Cd];exact List.drop_left
    have hlen:off+t.size<=cells.size:=by
     have:=C6 List.length TW;simp only [Lx,zeroCells,Kj,vX,Cd] at this;omega
    obtain ⟨qf,q1,q2,q3,q4⟩:=p3 (pre++[(off,t.size)]) cells (by simp [uI]) ze3 hlen;refine ⟨qf,by simpa [VO] using q1,?_,q3,?_⟩
    ·have:=C6 (List.take off) q2;rw [Z33,Z33,Z4h (by omega)] at this;exact this
    ·have e:qf.toList.drop off=zeroCells t++qf.toList.drop (off+t.size):=by
      have h1:qf.toList.drop off=(qf.toList.take (off+t.size)).drop off++qf.toList.drop (off+t.size):=by
       rw [<-Z34 (by simp;omega),RU]
      rw [h1,q2];congr 1;rw [Z49,TW,show off+t.size-off=t.size from by omega,<-Cd];simp only [zeroCells];exact List.take_left
     rw [e];exact ⟨_,_,rfl,z3,q4⟩⟩)
  cases l with
  | nil=>
   simp only [gE] at h;split at h
   ·rename_i z c hz hc;simp only [zI] at h;subst h;exact skip z c hz hc rfl
   ·simp at h
  | cons jx l=>
   obtain ⟨j,x⟩:=jx;simp only [gE] at h
   cases hj:Nat.beq i j with
   | false=>
    rw [hj] at h;simp only [zW] at h;split at h
    ·rename_i z c hz hc;simp only [zI] at h;subst h;exact skip z c hz hc rfl
    ·simp at h
   | true=>
    have ZI:=zE hj;subst ZI;rw [hj] at h;simp only [zD] at h;split at h
    ·rename_i v c hv hc
     cases hval:v.val with
     | false=>rw [hval] at h;simp at h
     | true=>
      rw [hval] at h;simp only [zD,zI] at h;subst h;simp only [z7.sk,Ty.sk,Sk.pair.injEq] at hs;obtain ⟨pl,p1,p2,p3⟩:=XY zq hc hs.2 f3;obtain ⟨e1,e2⟩:=qG zq hv;obtain ⟨cs,c1,c2,c3⟩:=ji hval e1;have qK:(a.eval x).cells.size=t.size:=by rw [<-vX,c3,c1.len,hs.1,Ty.zZ]
      refine ⟨(off,t.size) :: pl,fun w'=>by
       have:=p1 w';simp only [List.mapM_cons,Sem.run_bind,x4 f2.info,Result.andThen_ok,Sem.run_pure,this,f1],fun m hm=>by
       simp only [z7.ids,Gt,not_or];exact ⟨e2 m hm,p2 m hm⟩,fun pre cells uI TW ju=>?_⟩
      have hlen:off+t.size<=cells.size:=by
       have:=C6 List.length TW;simp only [Lx,zeroCells,Kj,vX,Cd] at this;omega
      have Tn:=Xp off (a.eval x).cells.toList 0 cells (by rw [vX];omega);let xP:Array Value:=((a.eval x).cells.toList.zipIdx 0).foldl (fun cs (x:Value×Nat)=>cs.setIfInBounds (off+x.2) x.1) cells;have Pg:xP.toList=zU cells.toList off (a.eval x).cells.toList:=Tn;have BM:(a.eval x).cells.toList.length=t.size:=by rw [vX,qK]
      have gJ:xP.size=cells.size:=by
       rw [<-vX,Pg,yM _ _ _ (by rw [BM,vX];omega),vX]
      have htk:(cells.toList.take off).length=off:=by simp;omega
      have ze3:xP.toList.drop (off+t.size)=zeroCells u:=by
       rw [Pg];simp only [zU];rw [Z3o,Dt (by rw [Kj,htk,BM];omega),Zu,Kj,htk,BM,Z4i,Z3c,<-Ng,TW];simp only [zeroCells];rw [<-Cd];exact List.drop_left
      obtain ⟨qf,q1,q2,q3,q4⟩:=p3 (pre++[(off,t.size)]) xP (by simp [uI]) ze3 (by rw [gJ];exact hlen);have TU:qf.toList.take (off+t.size)=cells.toList.take off++(a.eval x).cells.toList:=by
       rw [q2,Pg];simp only [zU];rw [Z3n (by rw [Kj,htk,BM];omega),Z2d (by rw [Kj,htk,BM];omega)]
      refine ⟨qf,?_,?_,by rw [q3,gJ],?_⟩
      ·simp only [JU,Instr.fill];have gy:(pre++(off,t.size) :: pl).toArray[i]? = some (off,t.size):=by
        rw [<-uI];simp
       simp only [gy];rw [qQ (by rw [qK];simp;omega)];rw [show pre++(off,t.size) :: pl=pre++[(off,t.size)]++pl from by simp];rw [<-q1];congr 1;show (a.eval x).cells.zipIdx.foldl _ cells=xP;rw [<-Array.foldl_toList,Array.toList_zipIdx]
      ·have:=C6 (List.take off) TU;rw [Z33,Z4h (by omega)] at this;rw [this,Z3n (by omega),Z2d (by omega)]
      ·have e:qf.toList.drop off=(a.eval x).cells.toList++qf.toList.drop (off+t.size):=by
        have h1:qf.toList.drop off=(qf.toList.take (off+t.size)).drop off++qf.toList.drop (off+t.size):=by
         rw [<-Z34 (by simp;omega),RU]
        rw [h1,TU];congr 1;rw [Z3o,Dt (by omega),Zu,htk,Z4i,Z3c]
       rw [e,c3];exact ⟨_,_,rfl,c1,q4⟩
    ·simp at h
 | .int _,fs,_,_,l,_,h,_,_=>by simp [gE] at h
 | .bool,fs,_,_,l,_,h,_,_=>by simp [gE] at h
 | .str,fs,_,_,l,_,h,_,_=>by simp [gE] at h
 | .arr _ _,fs,_,_,l,_,h,_,_=>by simp [gE] at h
 | .sl _ _,fs,_,_,l,_,h,_,_=>by simp [gE] at h
 | .ptr _,fs,_,_,l,_,h,_,_=>by simp [gE] at h
 | .fn _ _,fs,_,_,l,_,h,_,_=>by simp [gE] at h
 | .tree _,fs,_,_,l,_,h,_,_=>by simp [gE] at h
theorem Bn {z6:qk} {t:Ty}:{av:z7}->{vs:List Value}->{f:List t.den->Option R}->{r:R}->qj w g z6 av vs->j7 t=true->jZ t av f=some r->
  ∃ l:List t.den,f l=some r/\l.length=vs.length/\(∀ v∈vs,v.cells.size=1)/\∀ (i:Nat) (h:i < l.length),zC w g none t (l.get ⟨i,h⟩) (qB ((vs.map (·.cells.toList)).flatten) (i*1) 1)
 | .un,vs,f,r,hv,_,h=>by
  simp only [qj] at hv;subst hv;simp only [jZ] at h
  exact ⟨[],h,rfl,by simp,fun i hi=>by simp at hi⟩
 | .pr (.data u d) c,vs,f,r,hv,hk,h=>by
  simp only [qj] at hv;obtain ⟨v,rest,rfl,h1,h2⟩:=hv;simp only [jZ] at h;obtain ⟨e,h⟩:=qS h;subst e;obtain ⟨l,k1,k2,k3,k4⟩:=Bn h2 hk h;simp only [zl] at h1;obtain ⟨cs,⟨_,zX⟩,hval⟩:=h1;have Eg:u.size=1:=by cases u <;> simp [j7] at hk <;> rfl
  have hna:u.sk.isAgg=false:=by cases u <;> simp [j7] at hk <;> rfl
  obtain ⟨z,rfl⟩:=zX.Sh hna;have hvz:v=z:=by rw [hval];simp [jA,z7.isAgg,hna]
  have qL:=zX.one z (by simp);have hc:v.cells.toList=[z]:=by
   subst hvz;cases v <;> simp [Value.oneCell'] at qL <;> rfl
  refine ⟨d :: l,k1,by simp [k2],fun x hx=>?_,fun i hi=>?_⟩
  ·rcases gX.1 hx with rfl | hx
   ·rw [<-vX,hc];rfl
   ·exact k3 x hx
  ·simp only [JU,Z2x,hc]
   cases i with
   | zero=>simpa [qB] using zX
   | succ i=>
    have:=k4 i (by simpa using hi);simp only [Z2a] at this ⊢;have e3:=y8 [z] (rest.map (·.cells.toList)).flatten 1 i 1 rfl;rw [Z4g 1 i] at e3;rw [e3]
    exact this
 | .pr (.qy) _,_,_,_,_,_,h=>by simp [jZ] at h
 | .pr (.ref _ _ _) _,_,_,_,_,_,h=>by simp [jZ] at h
 | .pr (.view _ _ _ _ _) _,_,_,_,_,_,h=>by simp [jZ] at h
 | .pr (.zu _ _) _,_,_,_,_,_,h=>by simp [jZ] at h
 | .pr (.vW _ _ _) _,_,_,_,_,_,h=>by simp [jZ] at h
 | .pr (.qA _) _,_,_,_,_,_,h=>by simp [jZ] at h
 | .pr (.nv _ _ _ _) _,_,_,_,_,_,h=>by simp [jZ] at h
 | .pr (.yG _ _) _,_,_,_,_,_,h=>by simp [jZ] at h
 | .pr (.agg _) _,_,_,_,_,_,h=>by simp [jZ] at h
 | .pr (.jC _) _,_,_,_,_,_,h=>by simp [jZ] at h
 | .pr (.pr _ _) _,_,_,_,_,_,h=>by simp [jZ] at h
 | .pr .un _,_,_,_,_,_,h=>by simp [jZ] at h
 | .data _ _,_,_,_,_,_,h=>by simp [jZ] at h
 | .qy,_,_,_,_,_,h=>by simp [jZ] at h
 | .ref _ _ _,_,_,_,_,_,h=>by simp [jZ] at h
 | .view _ _ _ _ _,_,_,_,_,_,h=>by simp [jZ] at h
 | .zu _ _,_,_,_,_,_,h=>by simp [jZ] at h
 | .vW _ _ _,_,_,_,_,_,h=>by simp [jZ] at h
 | .qA _,_,_,_,_,_,h=>by simp [jZ] at h
 | .nv _ _ _ _,_,_,_,_,_,h=>by simp [jZ] at h
 | .yG _ _,_,_,_,_,_,h=>by simp [jZ] at h
 | .agg _,_,_,_,_,_,h=>by simp [jZ] at h
 | .jC _,_,_,_,_,_,h=>by simp [jZ] at h
theorem Ht {n0:Nat} (zq:zK n0 g w a J) {u:Ty} (qv:u.zV=true) (hna:u.sk.isAgg=false):∀ (n i:Nat) (ps:List (Nat×Operand)) (f:List u.den->Option R),pT J u n i ps f=some r->
  ∃ l,f l=some r/\List.length l=n/\∀ cells:Array Value,cells.size=i+n->(∀ j,i<=j->j < i+n->[cells[j]?]=(zeroCells u).map some)->
   ∃ qf,Instr.fill (fun i=>some (i*1,1)) cells (ps.map fun x=>(x.1,a.eval x.2))=some qf/\qf.size=cells.size/\(∀ j,j < i->qf[j]? = cells[j]?)/\
    ∀ (j:Nat) (hj:j < List.length l),∃ v,qf[i+j]? = some v/\zC w g none u (List.get l ⟨j,hj⟩) [v]:=by
 have zer:∀ {z:u.den},u.zero=some z->∃ v,zeroCells u=[v]/\zC w g none u z [v]:=by
  intro z hz;have h1:=vA (w:=w) (g:=g) qv hz;obtain ⟨v,hv⟩:=h1.Sh hna;exact ⟨v,hv,by rw [<-hv];exact h1⟩
 intro n
 induction n with
 | zero=>
  intro i ps f h
  cases ps with
  | nil=>exact ⟨[],h,rfl,fun cells hs hz=>⟨cells,rfl,rfl,fun _ _=>rfl,fun j hj=>by simp at hj⟩⟩
  | cons x ps=>simp [pT] at h
 | succ n ih=>
  have skip:∀ (i:Nat) (ps:List (Nat×Operand)) (f:List u.den->Option R) (z:u.den),u.zero=some z->pT J u n (i+1) ps (fun l=>f (z :: l))=some r->
    ∃ l,f l=some r/\List.length l=n+1/\∀ cells:Array Value,cells.size=i+(n+1)->(∀ j,i<=j->j < i+(n+1)->[cells[j]?]=(zeroCells u).map some)->
     ∃ qf,Instr.fill (fun i=>some (i*1,1)) cells (ps.map fun x=>(x.1,a.eval x.2))=some qf/\qf.size=cells.size/\(∀ j,j < i->qf[j]? = cells[j]?)/\
      ∀ (j:Nat) (hj:j < List.length l),∃ v,qf[i+j]? = some v/\zC w g none u (List.get l ⟨j,hj⟩) [v]:=by
   intro i ps f z hz h;obtain ⟨v0,Rq,hrz⟩:=zer hz;obtain ⟨l,k1,k2,k3⟩:=ih (i+1) ps _ h;refine ⟨z :: l,k1,by simp [k2],fun cells hs TW=>?_⟩;obtain ⟨qf,q1,q2,q3,q4⟩:=k3 cells (by omega) fun j h1 h2=>TW j (by omega) (by omega)
   refine ⟨qf,q1,q2,fun j hj=>q3 j (by omega),fun j hj=>?_⟩
   cases j with
   | zero=>
    have:=TW i (yS _) (by omega);rw [Rq] at this;simp only [JU,Z2i,Az,Ds] at this
    exact ⟨v0,by rw [RG,q3 i (by omega),this],hrz⟩
   | succ j=>
    obtain ⟨v,hv,hr⟩:=q4 j (by simpa using hj);exact ⟨v,by rw [<-hv];congr 1;omega,hr⟩
  intro i ps f h
  cases ps with
  | nil=>
   simp only [pT] at h;split at h
   ·rename_i z hz;exact skip i [] f z hz h
   ·simp at h
  | cons x ps=>
   obtain ⟨j,x⟩:=x;simp only [pT] at h
   cases ZI:Nat.beq i j with
   | false=>
    rw [ZI,zW] at h;split at h
    ·rename_i z hz;exact skip i _ f z hz h
    ·simp at h
   | true=>
    rw [ZI,zD] at h;have zu0:=zE ZI;subst zu0;split at h
    ·rename_i t d hx;obtain ⟨e,h⟩:=qS h;subst e;obtain ⟨l,k1,k2,k3⟩:=ih (i+1) ps _ h;have h1:=(qG zq hx).1;simp only [zl] at h1;obtain ⟨cs,⟨_,zX⟩,hval⟩:=h1;obtain ⟨z,rfl⟩:=zX.Sh hna;have hvz:a.eval x=z:=by rw [hval];simp [jA,z7.isAgg,hna]
     have qL:=zX.one z (by simp);have hc:(a.eval x).cells = #[z]:=by
      rw [hvz];cases z <;> simp [Value.oneCell'] at qL <;> rfl
     refine ⟨_,k1,by simp [k2],fun cells hs TW=>?_⟩;have w8:(a.eval x).cells.zipIdx.foldl (fun cs (y:Value×Nat)=>cs.setIfInBounds (i*1+y.2) y.1) cells=cells.setIfInBounds i z:=by
      rw [hc];simp
     obtain ⟨qf,q1,q2,q3,q4⟩:=k3 (cells.setIfInBounds i z) (by simp;omega) fun j h1 h2=>by
      rw [Z5t (by omega)];exact TW j (by omega) (by omega)
     refine ⟨qf,?_,by rw [q2];simp,fun j hj=>by rw [q3 j (by omega),Z5t (by omega)],fun j hj=>?_⟩
     ·simp only [JU,Instr.fill];rw [qQ (by rw [hc];simp;omega)];rw [<-q1];congr 1
     ·cases j with
      | zero=>exact ⟨z,by rw [RG,q3 i (by omega),Array.getElem?_setIfInBounds_self_of_lt (by omega)],zC.qt qv zX⟩
      | succ j=>
       obtain ⟨v,hv,hr⟩:=q4 j (by simpa using hj);exact ⟨v,by rw [<-hv];congr 1;omega,hr⟩
    ·simp at h
theorem SF (kp:gP P c.tt) {t:TypeId} {ps:Array (Nat×Operand)} (ho:o.op = .build t ps) (zq:zK c.ntmps g w a J) (h:y9 c J base o k=some r):vN P o a w g J c k r:=by
 simp only [y9,ho] at h;split at h
 ·-- a struct
  rename_i x y Qe;split at h
  ·rename_i av GA
   cases hb:av.sk.same (Ty.pair x y).sk with
   | false=>rw [hb] at h;simp at h
   | true=>
    rw [hb] at h;simp only [zD] at h;have hs:=Sk.qw hb;have hT:=kp _ _ Qe;simp only [qq] at hT;obtain ⟨⟨fs,hu,hf⟩,vk⟩:=hT;obtain ⟨i,z,i1,i2,i3,i4,i5,i6⟩:=vk.info;obtain ⟨pl,p1,p2,p3⟩:=XY (P:=P) zq GA hs hf;obtain ⟨cells,q1,_,_,q4⟩:=p3 [] z.cells rfl (by rw [Z3c,i5]) (jE _);rw [Z3c] at q4;simp only [Zu] at q1;have z6u:∀ w',(fs.mapM (m:=Sem) fun f=>do pure (f.offset,<-Go.sizeOf f.type)).run P w' = .ok pl.toArray w':=fun w'=>by
     have hp:=p1 w';rw [Array.mapM_eq_mapM_toList,<-bind_pure_comp];simp only [Sem.run_bind,hp,Result.andThen_ok,Sem.run_pure]
    refine Zi (v:=.agg cells) (fun w' _=>?_) ?_ (fun m hm=>by have:=p2 m hm;simpa [z7.ids] using this) h
    ·have hz:(zeroValue t).run P w' = .ok z w':=by simp [zeroValue,typeInfo,i1,i4]
     have:(Instr.build t (ps.map fun x=>(x.1,a.eval x.2))).run P w' = .ok (.agg cells) w':=by
      unfold Instr.build;simp only [Sem.run_bind,hz,run_underlying hu,Result.andThen_ok,Sem.run_pure,z6u w',Z2u,q1]
     simp [execOp,ho,this]
    ·simp only [zl];exact ⟨_,by simp only [jV];exact q4,by simp [jA,z7.isAgg]⟩
  ·simp at h
 ·-- an array
  rename_i n u Qe;split at h
  ·rename_i av Hb
   cases hb:(xy 0 ps.toList && Nat.beq ps.toList.length n && j7 u) with
   | false=>
    rw [hb,zW] at h
    cases vT:(u.zV && !u.sk.isAgg) with
    | false=>rw [vT] at h;simp at h
    | true=>
    rw [vT,zD] at h;simp only [zA,A1] at vT;obtain ⟨qv,hna⟩:=vT;have Eg:u.size=1:=by cases u <;> simp [Ty.sk,Sk.isAgg] at hna <;> simp [Ty.size]
    obtain ⟨l,k1,k2,k3⟩:=Ht zq qv hna n 0 ps.toList _ h;have hT:=kp _ _ Qe;simp only [qq] at hT;obtain ⟨⟨E,hu,hE⟩,vk⟩:=hT;obtain ⟨i,z,i1,i2,i3,i4,i5,i6⟩:=vk.info;have Cd:(zeroCells u).length=1:=by rw [qm,Eg]
    have Gc:z.cells.size=n:=by
     rw [<-vX,i5];have:=qm (.arr n u);rw [this];simp [Ty.size,Eg]
    obtain ⟨cells,q1,q2,_,q4⟩:=k3 z.cells (by omega) fun j _ hj=>by
     obtain ⟨z0,Fp⟩:∃ z0,zeroCells u=[z0]:=by
      cases hq:zeroCells u with
      | nil=>rw [hq] at Cd;simp at Cd
      | cons x l=>rw [hq] at Cd;simp at Cd;exact ⟨x,by rw [Cd]⟩
     rw [Fp,<-Z22,i5,zeroCells,Fp];have:(List.replicate n [z0]).flatten=List.replicate n z0:=by simp
     rw [this,List.getElem?_replicate];simp;omega
    refine Zi (v:=.agg cells) (fun w' _=>?_) ?_ (fun m _=>by simp [z7.ids]) k1
    ·have hz:(zeroValue t).run P w' = .ok z w':=by simp [zeroValue,typeInfo,i1,i4]
     have qK:=x4 hE.info w';rw [Eg] at qK;have:(Instr.build t (ps.map fun x=>(x.1,a.eval x.2))).run P w' = .ok (.agg cells) w':=by
      unfold Instr.build;simp only [Sem.run_bind,hz,run_underlying hu,qK,Result.andThen_ok,Sem.run_pure,Z2u,q1]
     simp [execOp,ho,this]
    ·simp only [zl];refine ⟨cells.toList,⟨by simpa [Ty.zV] using qv,k2,by rw [vX,q2,Gc,Eg];omega,fun j hj=>?_⟩,by simp [jA,z7.isAgg,Ty.sk,Sk.isAgg]⟩;obtain ⟨v,hv,hr⟩:=q4 j hj;rw [Eg];have e:qB cells.toList (j*1) 1=[v]:=by
      have qJ:j < cells.size:=by rw [q2,Gc,<-k2];exact hj
      simp only [qB,Z2a];rw [Z23 (by rw [vX];exact qJ)];simp only [Z2p,Z20,Z54];rw [Zp,Z3d qJ] at hv;rw [Option.some.inj hv]
     rw [e]
     exact zC.qt qv hr
   | true=>
    rw [hb] at h;simp only [zD] at h;simp only [zA] at hb;obtain ⟨⟨h1,h2⟩,h3⟩:=hb;have hn:=zE h2;obtain ⟨hv,hf⟩:=VU zq Hb;have Eg:u.size=1:=by cases u <;> simp [j7] at h3 <;> rfl
    have qv:u.zV=true:=by cases u <;> simp [j7] at h3 <;> rfl
    obtain ⟨l,k1,k2,k3,k4⟩:=Bn hv h3 h;have hT:=kp _ _ Qe;simp only [qq] at hT;obtain ⟨⟨E,hu,hE⟩,vk⟩:=hT;obtain ⟨i,z,i1,i2,i3,i4,i5,i6⟩:=vk.info;have IE:ps.toList.map (fun x=>(x.1,a.eval x.2))=zT 0 ((ps.toList.map (·.2)).map a.eval):=by
     rw [wT h1 a.eval,Z39];rfl
    have X7:((ps.toList.map (·.2)).map a.eval).length=n:=by simp [<-hn]
    have Gc:z.cells.size=n:=by
     rw [<-vX,i5];have:=qm (.arr n u);rw [this];simp [Ty.size,Eg]
    obtain ⟨cells,f1,f2⟩:=Pp (size:=1) ((ps.toList.map (·.2)).map a.eval) 0 z.cells k3 (by rw [X7,Gc];omega);have pO:cells.toList=(((ps.toList.map (·.2)).map a.eval).map (·.cells.toList)).flatten:=by
     rw [f2,X7];simp only [Z2f,Z20,Zu,Zp,Z2a];rw [Dt (by rw [vX,Gc];exact yS _),AL]
    refine Zi (v:=.agg cells) (fun w' _=>?_) ?_ (fun m _=>by simp [z7.ids]) k1
    ·have hz:(zeroValue t).run P w' = .ok z w':=by simp [zeroValue,typeInfo,i1,i4]
     have qK:=x4 hE.info w';rw [Eg] at qK;have:(Instr.build t (ps.map fun x=>(x.1,a.eval x.2))).run P w' = .ok (.agg cells) w':=by
      unfold Instr.build;simp only [Sem.run_bind,hz,run_underlying hu,qK,Result.andThen_ok,Sem.run_pure,Z2u,IE,f1]
     simp [execOp,ho,this]
    ·simp only [zl];refine ⟨cells.toList,⟨qv,by rw [k2,X7],?_,fun j hj=>?_⟩,by simp [jA,z7.isAgg,Ty.sk,Sk.isAgg]⟩
     ·rw [pO,length_flatten _ 1 (fun cs pN=>by
       obtain ⟨v,hv,rfl⟩:=Jo.1 pN;rw [vX];exact k3 v hv),Jk,X7,Eg]
     ·have:=k4 j hj;rw [Eg,pO];exact zC.qt qv this
  ·simp at h
 ·simp at h
end
end Go.Kz
namespace Go.Kz
variable {R:Type}
structure we (w:World) (g:z8) (w':World) (g':z8) (id b0:Nat):Prop where
 heap:∀ b,b≠b0->w'.heap[b]? = w.heap[b]?
 size:w'.heap.size=w.heap.size
 os:w'.os=w.os
 tape:w'.tape=w.tape
 output:w'.output=w.output
 drawn:w'.drawn=w.drawn
 own:(∃ p,g.tag b0 = .row id p)\/g.tag b0 = .box id
 tag:g'.tag=g.tag
 zt:g'.zt=g.zt
 sv:∀ i,i≠id->g'.sv i=g.sv i
theorem we.z9z {w w':World} {g g':z8} {id b0:Nat} (h:we w g w' g' id b0) {b:Nat} (hb:g.tag b = .ro\/g.tag b = .zn):b≠b0:=by
 intro he;subst he;rcases h.own with ⟨p,h⟩ | h <;> rw [h] at hb <;> simp at hb
theorem we.ro {w w':World} {g g':z8} {id b0:Nat} (h:we w g w' g' id b0):zO w g w' g':=
 ⟨fun b hb=>⟨by rw [h.tag];exact hb,h.heap b (h.z9z (.inl hb))⟩⟩
theorem we.same {w w':World} {g g':z8} {id b0:Nat} (h:we w g w' g' id b0) {i:Nat} (hi:i≠id):Zj w g w' g' i:=by
 refine ⟨⟨fun q=>by rw [h.sv i hi],fun q b hb=>⟨by rw [h.tag];exact hb,h.heap b ?_⟩⟩,by rw [h.zt],fun hb=>⟨by rw [h.tag];exact hb,h.heap _ ?_⟩⟩
 ·intro he;subst he;rcases h.own with ⟨p,h⟩ | h <;> rw [h] at hb <;> simp at hb;exact hi hb.1.symm
 ·intro he;rw [he] at hb;rcases h.own with ⟨p,h⟩ | h <;> rw [h] at hb <;> simp at hb;exact hi hb.symm
theorem we.ext {w w':World} {g g':z8} {id b0:Nat} (h:we w g w' g' id b0):Ext w g w' g':=
 ⟨h.os,h.tape,h.output,Z3b h.drawn.symm,by rw [h.size];exact yS _,fun b _ hb=>⟨h.heap b (h.z9z (hb.symm.imp _root_.id _root_.id)),by rw [h.tag]⟩⟩
theorem we.st {n:Nat} {w w':World} {a:Act} {g g':z8} {J:St} {id b0:Nat} {o':Obj} (h:we w g w' g' id b0) (zq:zK n g w a J)
  (hk:qz g g' id (J.z6 id) (some o')) (zg:zm w' g' (J.setObj id o').z6 id o'):zK n g' w' a (J.setObj id o'):=by
 have pL:∀ i,qz g g' i (J.z6 i) ((J.setObj id o').z6 i):=by
  intro i;by_cases hi:i=id
  ·subst hi;simp only [St.setObj,zN];exact hk
  ·simp only [St.setObj];rw [ze _ _ hi];exact qz.same (h.same hi)
 refine ⟨fun i av hi=>?_,⟨fun i x hx=>?_,fun b hb=>?_⟩,zq.size,zq.defers,zq.known.kept h.ro⟩
 ·obtain ⟨v,hv,zR⟩:=zq.zj i av hi;exact ⟨v,hv,zl.frame h.ro (fun i _=>pL i) zR⟩
 ·by_cases hi:i=id
  ·subst hi;simp only [St.setObj,zN,zI] at hx;subst hx;exact zg
  ·have Gd:J.z6 i=some x:=by simpa [St.setObj,ze _ _ hi] using hx
   exact zm.frame h.ro (h.same hi) (fun y hy i' _=>pL i') (zq.heap.z6 i x Gd)
 ·rw [h.tag] at hb;rw [h.size];exact zq.heap.tags b hb
theorem we.fresh {w w':World} {g g':z8} {J:St} {id b0 m:Nat} {o':Obj} (h:we w g w' g' id b0) (hid:J.z6 id≠none) (hc:∀ y,o' = .cell y->m∉y.ids) (hf:zY g J m):zY g' (J.setObj id o') m:=by
 have hm:m≠id:=by intro he;subst he;exact hid hf.z6
 refine ⟨by simp only [St.setObj];rw [ze _ _ hm];exact hf.z6,fun b p=>by rw [h.tag];exact hf.row b p,fun b=>by rw [h.tag];exact hf.box b,hf.zj,fun i av hi=>?_⟩;by_cases he:i=id
 ·subst he;simp only [St.setObj,zN,zI] at hi;exact hc av hi
 ·simp only [St.setObj] at hi;rw [ze _ _ he] at hi;exact hf.cells i av hi
theorem jP {w:World} {g:z8} {id b0:Nat} (cs:Array Value) (xn:(∃ p,g.tag b0 = .row id p)\/g.tag b0 = .box id):we w g (w.setRow b0 cs) g id b0:=
 ⟨fun b hb=>setRow_other w b0 b cs hb,by simp [World.setRow],rfl,rfl,rfl,rfl,xn,rfl,rfl,fun _ _=>rfl⟩
section
variable {P:Program} {o:Oper} {a:Act} {w:World} {K:Act->World->Prop} {Q:Exit->Act->World->Prop} {c:Ctx} {J:St} {g:z8} {k:St->Option R} {r:R} {base:Nat} {mo:Bool}
theorem pe {T:TypeId} {u:Ty} (hT:qq P u T) {b off:Nat} {cc:Array Value} {e:TypeId} {v:Value} {cs:List Value} (hc:w.heap[b]? = some (.cells cc e (0,0))) (hv:v.cells.toList=cs)
  (hl:cs.length=u.size) (hs:off+u.size<=cc.size) (h1:∀ x∈cs,x.oneCell'=true) :
  (storeVar T ⟨b,off,none⟩ v).run P w = .ok () (w.setRow b (zU cc.toList off cs).toArray):=by
 have qK:=hT.info.sizeOf w;have KZ:v.cells.size=u.size:=by rw [<-vX,hv,hl]
 have zq:=run_storeCells_at P b off e cs 0 cc w hc (by rw [hl];omega) h1;simp only [RG] at zq;simp [storeVar,qK,KZ,hv,zq,zU]
theorem wp_skip {J':St} {g':z8} {w':World} (hd:o.dst=none) (zb:(execOp a.eval o).run P w = .ok .skip w') (zq:zK c.ntmps g' w' a J') (qM:Ext w g w' g')
  (vQ:∀ m,(m < base\/base+8<=m)->zY g J m->zY g' J' m) (hn:J'.next=J.next) (hk:k J'=some r) (vl:mo=false->jT w w') (hK:jt c.ntmps k r g w J base mo K):o.wp P a w K Q:=by
 unfold Oper.wp;rw [zb,Oper.upon_skip,hd];exact hK J' g' a w' hk zq qM vQ hn vl
theorem O4 {id:Nat} {t:Ty} {l:List t.den} {e:Nat} {i:Int} {q:Path} {u:Ty} {d:u.den} {cs:List Value} {f:List t.den->Option R} {b0 yB:Nat}
  (hh:yZ w g J.z6) (ho:J.z6 id=some (.row t l e)) (hu:u.zV=true) (zX:zC w g none u d cs)
  (gy:place g id (.sl true t) [] 0 0 (.idx i :: q)=some (b0,yB)) (h:jM (.sl true t) l (.idx i :: q) u d f=some r) :
  ∃ l' cc ee,f l'=some r/\l'.length=l.length/\w.heap[b0]? = some (.cells cc ee (0,0))/\g.tag b0 = .row id []/\yB+u.size<=cc.size/\
   zm (w.setRow b0 (zU cc.toList yB cs).toArray) g (J.setObj id (.row t l' e)).z6 id (.row t l' e):=by
 have zg:=hh.z6 id _ ho;simp only [jM,VN] at h;obtain ⟨x,hx,h⟩:=h;obtain ⟨h0,hi,rfl,qJ⟩:=jf hx;obtain ⟨ad,cap,pN,qT,Gi,Gm,wC⟩:=zg.2;rcases wC with ⟨_,hl,_⟩ | ⟨b,off,cc,ee,rfl,zH,zQ,qK,WW⟩
 ·rw [hl] at hi;simp at hi
 ·have jo:=zC.qt (o':=none) zg.1 (WW _ hi);obtain ⟨d',o',hk,ju,hr⟩:=xE zg.1 jo zX h;have kz:place g id (.sl true t) [] 0 0 (.idx i :: q)=some (b,off+i.toNat*t.size+o'):=by
   simp only [place,qT,Zu];exact gO ju
  rw [gy] at kz;simp only [zI,gB] at kz;obtain ⟨rfl,rfl⟩:=kz;have hle:=Sk.wU ju;rw [Ty.zZ,Ty.zZ] at hle;have Q8:(i.toNat+1)*t.size<=cap*t.size:=kj _ (by omega);rw [wz] at Q8;have pO:cs.length=u.size:=zX.len;have xr:cc.toList.length=cc.size:=vX;refine ⟨_,cc,ee,hk,qF _ _ _,zQ,zH,by omega,zg.1,some ⟨b0,off,none⟩,cap,?_,?_,?_,Gm,.inr ⟨b0,off,(zU cc.toList (off+i.toNat*t.size+o') cs).toArray,ee,rfl,zH,?_,?_,fun j hj=>?_⟩⟩
  ·rw [qF,qT]
  ·rw [qF];exact qT
  ·rw [qF];exact Gi
  ·exact setRow_heap w b0 cc _ ee _ zQ
  ·rw [Z26,yM _ _ _ (by rw [pO,xr];omega),xr];exact qK
  ·have Ru:zO w g (w.setRow b0 (zU cc.toList (off+i.toNat*t.size+o') cs).toArray) g:=(jP (id:=id) _ (.inl ⟨[],zH⟩)).ro;have v7:j < l.length:=by rw [qF] at hj;exact hj
   have FU:(j+1)*t.size<=cap*t.size:=kj _ (by omega);rw [wz] at FU;rw [QJ];refine zC.qt zg.1 (o:=none) ?_;by_cases ZI:i.toNat=j
   ·rw [yW ZI];subst ZI;have e:off+i.toNat*t.size+o'=(off+i.toNat*t.size)+o':=rfl;rw [gI _ _ _ _ _ (by rw [pO];exact hle) (by rw [xr];omega)];exact hr.kept Ru
   ·rw [qQ ZI];have hold:=(zC.qt (o':=none) zg.1 (WW j v7)).kept Ru;rcases Z3q ZI with VQ | hgt
    ·have h3:(i.toNat+1)*t.size<=j*t.size:=kj _ VQ;rw [wz] at h3;rw [vD _ _ _ _ _ (by rw [pO];omega) (by rw [pO,xr];omega)];exact hold
    ·have h3:(j+1)*t.size<=i.toNat*t.size:=kj _ hgt;rw [wz] at h3;rw [jj _ _ _ _ _ (by omega) (by rw [xr];omega)];exact hold
end
end Go.Kz
