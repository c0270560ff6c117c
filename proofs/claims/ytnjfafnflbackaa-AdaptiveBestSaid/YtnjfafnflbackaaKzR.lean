/-
  Lengths, addresses, loads.
-/
import Derived.Test.YtnjfafnflbackaaKzL
import Derived.MapKept
import Derived.Laws.MakeOwn
set_option linter.unusedVariables false
set_option linter.unusedSimpArgs false
namespace Go.Kz
variable {R:Type}
section
variable {P:Program} {o:Oper} {a:Act} {w:World} {K:Act->World->Prop} {Q:Exit->Act->World->Prop} {c:Ctx} {σ:St} {g:Ghost} {k:St->Option R} {r:R} {base:Nat}
theorem zjs {b:Bool} {x:Option R} {r:R} (h:cond b x none=some r):b=true∧x=some r:=by
 cases b <;> simp_all
theorem z1x {b:Bool} {x:Option R} (h:chk b x=some r):b=true∧x=some r:=by
 cases b <;> simp_all [chk]
def KeyOK (P : Program) (kt : Ty) (K : TypeId) : Prop := z2j P kt K ∧ (z38 kt = false -> P.stoodInHeld K = false ∧ ∀ fs, P.underlying K = some (.struct fs) -> ∀ f ∈ fs.toList, f.name ≠ "_")
def MtOK (P:Program) (mt:Nat->Option (Ty×Ty)):Prop:=∀ t kt vt,mt t=some (kt,vt)->∃ K E,P.underlying t=some (.map K E)∧KeyOK P kt K∧z2j P vt E∧∃ i z,P.info? E=some i∧i.zero=some z∧z=mkV vt.sk.isAgg z.cells.toList
theorem zg2 {σ:St} {mt:Option (Ty×Ty)} {a:AVal} {f:(id:Nat)->(kt vt:Ty)->List (kt.den×vt.den)->Option R} {r:R} (h:mapK σ mt a f=some r) :
  ∃ id kt vt m,a = .mref id∧mt=some (kt,vt)∧σ.objs id=some (.map kt vt m)∧kTy kt=true∧vt.noSl=true∧f id kt vt m=some r:=by
 unfold mapK at h;split at h
 ·rename_i id kt' vt';split at h
  ·rename_i kt vt m hobj
   cases hc:((Ty.same kt kt').isSome && (Ty.same vt vt').isSome && kTy kt && vt.noSl) with
   | false=>rw [hc] at h;simp at h
   | true=>
    rw [hc] at h;simp only [zA,Option.isSome_iff_exists] at hc;obtain ⟨⟨⟨⟨e1,_⟩,⟨e2,_⟩⟩,hk⟩,hv⟩:=hc;obtain rfl:=e1.down;obtain rfl:=e2.down;exact ⟨id,kt,vt,m,rfl,rfl,hobj,hk,hv,h⟩
  ·simp at h
 ·simp at h
theorem z3f.length {w:World} {g:Ghost} {kt vt:Ty}:{es:List MapEntry}->{m:List (kt.den×vt.den)}->z3f w g kt vt es m->es.length=m.length
 | [],[],_=>rfl
 | _ :: _,(_,_) :: _,⟨_,_,h⟩=>by simp [h.length]
 | [],_ :: _,h=>h.elim
 | _ :: _,[],h=>h.elim
theorem zf5 {w:World} {g:Ghost} {objs:z2c} {id:Nat} {v:Value} {kt vt:Ty} {m:List (kt.den×vt.den)} (h:VOK w g objs (.mref id) v) (ho:objs id=some (.map kt vt m)):v = .map (some (g.blk id)):=by
 simp only [VOK] at h;obtain ⟨cs,⟨x,rfl,_,hx⟩,hv⟩:=h;rw [hv];exact hx _ _ _ ho
theorem op_len {args:Array Operand} {ts:Array TypeId} (ho:o.op = .call { callee:=.builtin .len,args:=args,argTypes:=ts }) (htt:zbd P c.tt) (hmt:MtOK P c.mt)
  (hst:StOK c.ntmps g w a σ) (h:z1s c σ base o k=some r):Yield P o a w g σ c k r:=by
 simp only [z1s,ho] at h;split at h
 ·rename_i x t hargs htys;split at h
  ·rename_i av ot u hx htt';have hT:=htt _ _ htt';simp only [z2j] at hT;obtain ⟨⟨E,hund,_⟩,_⟩:=hT;obtain ⟨ex,ef⟩:=z24 hst hx;clear ef;have key:∃ n:Nat,(∃ b cp,a.eval x = .slice b n cp)∧n≤maxLen∧(σ.putK c o.dst (.data (.int .i64) (n:Int)) k=some r):=by
    unfold lenK at h;split at h
    ·have:=zbc.1 ex;exact ⟨0,⟨none,0,this⟩,Nat.zero_le _,h⟩
    ·rename_i ow t' l;simp only [VOK] at ex;obtain ⟨cs,⟨hro,hrep⟩,hv⟩:=ex
     cases ow with
     | true=>simp [Ty.isRo] at hro
     | false=>
      obtain ⟨b,cp,rfl,h1,h2,_⟩:=hrep;exact ⟨_,⟨b,cp,hv⟩,by omega,h⟩
    ·obtain ⟨t',l,hobj,rfl,_,h⟩:=z4t hst.heap h;simp only [VOK] at ex;obtain ⟨cs,⟨v,rfl,hone,hv⟩,hv'⟩:=ex;have e1:=(hv _ _ _ hobj).2 rfl;obtain ⟨b,cp,_,hsv,h1,h2,_⟩:=(hst.heap.objs _ _ hobj).2;refine ⟨l.length,⟨b,cp,?_⟩,by omega,h⟩;rw [←hsv,←e1];exact hv'
    ·rename_i id p ep av bv;obtain ⟨t',l,hobj,rfl,_,h⟩:=z4t hst.heap h;simp only [VOK] at ex;obtain ⟨cs,⟨v,rfl,hone,hv⟩,hv'⟩:=ex;obtain ⟨_,h0,hab,hbl,e1⟩:=(hv _ _ _ hobj).2 rfl;obtain ⟨b,cp,_,hsv,h1,h2,_⟩:=(hst.heap.objs _ _ hobj).2;refine ⟨(bv-av).toNat,⟨if cp-av.toNat=0 then b else b.map (·.add (av.toNat*t'.size)),cp-av.toNat,?_⟩,by omega,?_⟩
     ·rw [hv'];show v=_;rw [e1,hsv];rfl
     ·rw [Int.toNat_of_nonneg (by omega)];exact h
    ·obtain ⟨t',l0,e,i,v',l,hobj,hep,hrep,h,_,_⟩:=zl0 hst.heap h;simp only [VOK] at ex;obtain ⟨cs,⟨v,rfl,hone,hv⟩,hv'⟩:=ex;have e1:=((hv _ _ _ _ _ hobj).2 hep).1 rfl;obtain ⟨b,cp,_,hsv,h1,h2,_⟩:=hrep;refine ⟨l.length,⟨b,cp,?_⟩,by omega,h⟩;rw [←hsv,←e1];exact hv'
    ·simp at h
   obtain ⟨n,⟨b,cp,hv⟩,hn,h⟩:=key;refine yld (v:=.int .i64 n) ?_ (z4j ?_) (fun m _=>by simp [AVal.ids]) h
   ·intro w' _;have e1:args = #[x]:=by apply Array.toList_inj.1;simpa using hargs
    have e2:ts = #[t]:=by apply Array.toList_inj.1;simpa using htys
    subst e1;subst e2;simp [execOp,ho,resolve,invoke,builtin,Builtin.len_,run_underlying hund,hv,goInt]
   ·simp only [maxLen] at hn;simp only [IntKind.min,IntKind.max,IntKind.bits,IntKind.signed];simp;omega
  ·rename_i av hx htt';obtain ⟨id,kt,vt,m,rfl,hmt',hobj,_,_,h⟩:=zg2 h;obtain ⟨hlen,h⟩:=z1x h;obtain ⟨K,E,hund,_,_⟩:=hmt _ _ _ hmt';obtain ⟨ex,_⟩:=z24 hst hx;obtain ⟨es,ck,hblk,htag,_,_,hrep,_⟩:=hst.heap.objs _ _ hobj;have hv:=zf5 ex hobj;have hl:=hrep.length;have hlt:g.blk id < w.heap.size:=hst.heap.tags _ (by rw [htag];simp);refine yld (v:=.int .i64 m.length) ?_ (z4j ?_) (fun m _=>by simp [AVal.ids]) h
   ·intro w' hag;replace hag:=hag (by simp [isP,ho]);have e1:args = #[x]:=by apply Array.toList_inj.1;simpa using hargs
    have e2:ts = #[t]:=by apply Array.toList_inj.1;simpa using htys
    subst e1;subst e2;have hb':w'.heap[g.blk id]? = some (.map es ck):=by rw [hag _ hlt];exact hblk
    have hsz:es.size=m.length:=by rw [←hl,Array.length_toList]
    have hg:(getObj (g.blk id)).run P w' = .ok (.map es ck) w':=by simp [getObj,Sem.run,hb']
    simp [execOp,ho,resolve,invoke,builtin,Builtin.len_,run_underlying hund,hv,goInt,hg,hsz]
   ·have:m.length≤z3e:=by simpa using hlen
    simp only [z3e] at this;simp only [IntKind.min,IntKind.max,IntKind.bits,IntKind.signed];simp;omega
  ·simp at h
 ·simp at h
theorem InfoOK.sizeOf {T:TypeId} {t:Ty} (h:InfoOK P T t) (w:World):(sizeOf T).run P w = .ok t.size w:=by
 obtain ⟨i,z,hi,hs,_⟩:=h.info;simp [Go.sizeOf,typeInfo,hi,hs]
theorem z32 {T E:TypeId} {t:Ty} (hT:P.underlying T=some (.slice E)) (hE:InfoOK P E t) (b off len cap:Nat) (ki:IntKind) (i:Int) (h0:0≤i) (h1:i < len) (w:World) :
  (Instr.indexAt T (.slice (some ⟨b,off,none⟩) len cap) (.int ki i)).run P w = .ok (.pointer (some ⟨b,off+i.toNat*t.size,none⟩)) w:=by
 have hs:=hE.sizeOf w;simp [Instr.indexAt,asIntOf,run_underlying hT,h0,h1,hs,Addr.add_lit]
theorem z6c {T E:TypeId} {t:Ty} {n:Nat} (hT:P.underlying T=some (.array n E)) (hE:InfoOK P E t) (b off:Nat) (ki:IntKind) (i:Int) (h0:0≤i) (h1:i < n) (w:World) :
  (Instr.indexAt T (.pointer (some ⟨b,off,none⟩)) (.int ki i)).run P w = .ok (.pointer (some ⟨b,off+i.toNat*t.size,none⟩)) w:=by
 have hs:=hE.sizeOf w;simp [Instr.indexAt,Instr.sureAddr,asIntOf,run_underlying hT,h0,h1,hs,Addr.add_lit]
theorem zgh {α:Type} {l:List α} {i:Int} (h:inb l i=true):0≤i∧i < (l.length:Int):=by
 simpa [inb] using h
theorem zku {t:TypeId} {x i:Operand} {id:Nat} {p:z1a} {ep:Nat} {ow':Bool} {u':Ty} {j:Int} {ki:IntKind} (hT:z2j P (.sl ow' u') t) (ho:o.op = .indexAddr t x i) (hst:StOK c.ntmps g w a σ)
  (hx:ev σ x=some (.nv false id p ep)) (vi:a.eval i = .int ki j) (ef:∀ m,Fresh g σ m->m∉(AVal.nv false id p ep).ids) (ex:VOK w g σ.objs (.nv false id p ep) (a.eval x))
  (h:(zd3 σ id p ep fun t l=>cond (t.sk.same u'.sk) (chk (inb l j) (σ.putK c o.dst (.nv true id (p++[.idx j]) (z8i σ id)) k)) none)=some r):Yield P o a w g σ c k r:=by
 simp only [z2j] at hT;obtain ⟨⟨E,hund,hE⟩,_⟩:=hT;obtain ⟨t0,l0,e0,i0,t',l,hobj,hep,hrep,h,hq,xx,hpl⟩:=zl0 hst.heap h
 cases hs:t'.sk.same u'.sk with
 | false=>rw [hs] at h;simp at h
 | true=>
  rw [hs] at h;have hsk:=Sk.same_eq hs;have hsz:u'.size=t'.size:=by rw [←Ty.sk_size,←Ty.sk_size,hsk]
  simp only [cond_true] at h;obtain ⟨hin,h⟩:=z1x h;obtain ⟨h0,hlt⟩:=zgh hin;simp only [VOK] at ex;obtain ⟨cs,⟨v,rfl,hone,hv⟩,hv'⟩:=ex;have e1:=((hv _ _ _ _ _ hobj).2 hep).1 rfl;obtain ⟨ad,cp,_,hsv,h1,h2,h3⟩:=hrep;rcases h3 with ⟨_,hl,_⟩ | ⟨bk,off,cc,e,rfl,htag,hcell,hsz',hel⟩
  ·rw [hl] at hlt;simp at hlt;omega
  ·have hv2:a.eval x = .slice (some ⟨bk,off,none⟩) l.length cp:=by rw [←hsv,←e1];exact hv'
   refine yld (v:=.pointer (some ⟨bk,off+j.toNat*t'.size,none⟩)) ?_ ?_ (fun m hm=>by have:=ef m hm;simpa [AVal.ids] using this) h
   ·intro w' _;simp [execOp,ho,hv2,vi,z32 hund hE.info bk off _ cp ki j h0 hlt w',hsz]
   ·simp only [VOK];refine ⟨_,⟨_,rfl,rfl,fun t1 l1 e1 i1 h1 hobj'=>?_⟩,rfl⟩;rw [hobj] at hobj';simp only [zI,Obj.nest.injEq] at hobj';obtain ⟨rfl,_,rfl,rfl,_⟩:=hobj';have hin:z8i σ id=i0:=by simp [z8i,hobj]
    rw [hin];refine ⟨Nat.le_refl _,fun _=>⟨fun h=>(by simp at h),fun _=>⟨by simp,bk,off+j.toNat*t'.size,z5b (x:=xx) hq hpl (by simpa using hsv),rfl⟩⟩⟩
theorem zkv {t:TypeId} {x i:Operand} {id:Nat} {ep:Nat} {ow':Bool} {u':Ty} {j:Int} {ki:IntKind} (hT:z2j P (.sl ow' u') t) (ho:o.op = .indexAddr t x i) (hst:StOK c.ntmps g w a σ)
  (vi:a.eval i = .int ki j) (ef:∀ m,Fresh g σ m->m∉(AVal.nv false id [] ep).ids) (ex:VOK w g σ.objs (.nv false id [] ep) (a.eval x))
  (h:(zx4 σ id ep u' j fun v=>σ.putK c o.dst v k)=some r):Yield P o a w g σ c k r:=by
 simp only [z2j] at hT;obtain ⟨⟨E,hund,hE⟩,_⟩:=hT;unfold zx4 at h;split at h
 ·rename_i t' l e n hp hobj
  cases hs:(Nat.beq e ep && t'.sk.same u'.sk) with
  | false=>rw [hs] at h;simp at h
  | true=>
   rw [hs] at h;simp only [zA] at hs;have hee:=zE hs.1;subst hee;have hsk:=Sk.same_eq hs.2;have hsz:u'.size=t'.size:=by rw [←Ty.sk_size,←Ty.sk_size,hsk]
   simp only [cond_true] at h;obtain ⟨hin,h⟩:=z1x h;obtain ⟨h0,hlt⟩:=zgh hin;simp only [VOK] at ex;obtain ⟨cs,⟨v,rfl,hone,hv⟩,hv'⟩:=ex;have e1:=((hv _ _ _ _ _ hobj).2 rfl).1 rfl;obtain ⟨⟨bk,off,cp,hsv⟩,_⟩:=hst.heap.objs _ _ hobj;have hv2:a.eval x = .slice (some ⟨bk,off,none⟩) l.length cp:=by rw [←hsv,←e1];exact hv'
   refine yld (v:=.pointer (some ⟨bk,off+j.toNat*t'.size,none⟩)) ?_ ?_ (fun m hm=>by have:=ef m hm;simpa [AVal.ids] using this) h
   ·intro w' _;simp [execOp,ho,hv2,vi,z32 hund hE.info bk off _ cp ki j h0 hlt w',hsz]
   ·simp only [VOK];refine ⟨_,⟨_,rfl,rfl,fun t1 l1 e1 i1 h1 hobj'=>?_⟩,rfl⟩;rw [hobj] at hobj';simp only [zI,Obj.nest.injEq] at hobj';obtain ⟨rfl,_,rfl,rfl,_⟩:=hobj';refine ⟨Nat.le_refl _,fun _=>⟨fun h=>(by simp at h),fun _=>⟨by simp,bk,off+j.toNat*t'.size,?_,rfl⟩⟩⟩;exact z5b (p:=[]) (x:=(0,0)) rfl (by simp [z0w]) (by simpa using hsv)
 ·simp at h
theorem zlf:{u:Ty}->{fs:List Field}->{off0 i:Nat}->z6v P u fs off0->(z6s u (z0y i)).isSome=true->
  ∃ f s,fs[i]? = some f∧z6s u (z0y i)=some s∧z2j P s f.type∧∃ o,u.sk.off (z0y i)=some (o,s.sk)∧off0+o=f.offset
 | .pair a b,f :: fs,off0,0,h,hi=>by
  simp only [z6v] at h
  exact ⟨f,a,rfl,by simp [z0y,z6s],h.2.1,0,by simp [z0y,Ty.sk,Sk.off],by rw [h.1];omega⟩
 | .pair a b,f :: fs,off0,i+1,h,hi=>by
  simp only [z6v] at h;simp only [z0y,z6s] at hi;obtain ⟨f',s,h1,h2,h3,o,h4,h5⟩:=zlf h.2.2 hi;refine ⟨f',s,by simpa using h1,by simpa [z0y,z6s] using h2,h3,a.size+o,?_,by omega⟩
  simp [z0y,Ty.sk,Sk.off,h4,Ty.sk_size]
 | .pair _ _,[],_,_,h,_=>by simp [z6v] at h
 | .unit,_,_,i,_,hi=>by cases i <;> simp [z0y,z6s] at hi
 | .int _,_,_,_,h,_=>by simp [z6v] at h
 | .bool,_,_,_,h,_=>by simp [z6v] at h
 | .str,_,_,_,h,_=>by simp [z6v] at h
 | .arr _ _,_,_,_,h,_=>by simp [z6v] at h
 | .sl _ _,_,_,_,h,_=>by simp [z6v] at h
 | .ptr _,_,_,_,h,_=>by simp [z6v] at h
 | .fn _ _,_,_,_,h,_=>by simp [z6v] at h
theorem zm7 {u:Ty} {i:Nat} (h:(z6s u (z0y i)).isSome=true):∃ a b,u = .pair a b:=by
 cases u with
 | pair a b=>exact ⟨a,b,rfl⟩
 | _=>cases i <;> simp [z0y,z6s] at h
theorem z6d {T:TypeId} {u:Ty} {i:Nat} (hT:z2j P u T) (hi:(z6s u (z0y i)).isSome=true) (b off:Nat) :
  ∃ o s,u.sk.off (z0y i)=some (o,s)∧∀ w,(Instr.fieldAt T (.pointer (some ⟨b,off,none⟩)) i).run P w = .ok (.pointer (some ⟨b,off+o,none⟩)) w:=by
 obtain ⟨x,y,rfl⟩:=zm7 hi;simp only [z2j] at hT;obtain ⟨⟨fs,hund,hfs⟩,_⟩:=hT;obtain ⟨f,s,h1,h2,h3,o,h4,h5⟩:=zlf hfs hi;refine ⟨o,s.sk,h4,fun w=>?_⟩;have hf:fs[i]? = some f:=by rw [←Array.getElem?_toList];exact h1
 obtain ⟨inf,z,hi1,hi2,_,_,_,hi3⟩:=h3.info.info;have hne:¬ inf.size=0:=by omega
 have ho:f.offset=o:=by omega
 simp [Instr.fieldAt,Instr.sureAddr,run_underlying hund,hf,fieldPlace,Go.sizeOf,typeInfo,hi1,hne,Addr.add_lit,ho]
theorem zcb:{t:Ty}->{d:t.den}->{p:z1a}->{f:(u:Ty)->u.den->Option R}->t.isRo=true->z13 t d p f=some r->(z6s t p).isSome=true
 | t,d,[],f,_,_=>by simp [z6s]
 | .pair a b,(x,y),.fst :: p,f,ht,h=>by simp only [z13] at h;simp only [Ty.isRo,zA] at ht;simp only [z6s];exact zcb ht.1 h
 | .pair a b,(x,y),.snd :: p,f,ht,h=>by simp only [z13] at h;simp only [Ty.isRo,zA] at ht;simp only [z6s];exact zcb ht.2 h
 | .arr n t,l,.idx i :: p,f,ht,h=>by
  simp only [z13,Option.bind_eq_some_iff] at h;obtain ⟨x,_,h⟩:=h
  simp only [z6s];exact zcb (by simpa [Ty.isRo] using ht) h
 | .sl true t,l,.idx i :: p,_,ht,h=>by simp [Ty.isRo] at ht
 | .sl false t,l,s :: p,_,_,h=>by cases s <;> simp [z13] at h
 | .sl true t,l,.fst :: p,_,_,h=>by simp [z13] at h
 | .sl true t,l,.snd :: p,_,_,h=>by simp [z13] at h
 | .int _,_,s :: _,_,_,h=>by cases s <;> simp [z13] at h
 | .bool,_,s :: _,_,_,h=>by cases s <;> simp [z13] at h
 | .str,_,s :: _,_,_,h=>by cases s <;> simp [z13] at h
 | .unit,_,s :: _,_,_,h=>by cases s <;> simp [z13] at h
 | .ptr _,_,s :: _,_,_,h=>by cases s <;> simp [z13] at h
 | .fn _ _,_,s :: _,_,_,h=>by cases s <;> simp [z13] at h
 | .pair _ _,_,.idx _ :: _,_,_,h=>by simp [z13] at h
 | .arr _ _,_,.fst :: _,_,_,h=>by simp [z13] at h
 | .arr _ _,_,.snd :: _,_,_,h=>by simp [z13] at h
theorem zap:{t u:Ty}->{p:z1a}->t.sk=u.sk->(z6s t p).isSome=true->(z6s u p).isSome=true
 | _,_,[],_,_=>by simp [z6s]
 | .pair a b,.pair c d,.fst :: p,hs,h=>by simp only [Ty.sk,Sk.pair.injEq] at hs;simp only [z6s] at h ⊢;exact zap hs.1 h
 | .pair a b,.pair c d,.snd :: p,hs,h=>by simp only [Ty.sk,Sk.pair.injEq] at hs;simp only [z6s] at h ⊢;exact zap hs.2 h
 | .arr n t,.arr m u,.idx i :: p,hs,h=>by simp only [Ty.sk,Sk.arr.injEq] at hs;simp only [z6s] at h ⊢;exact zap hs.2 h
 | .pair a b,u,.fst :: p,hs,h=>by cases u <;> simp [Ty.sk] at hs;simp only [z6s] at h ⊢;exact zap hs.1 h
 | .pair a b,u,.snd :: p,hs,h=>by cases u <;> simp [Ty.sk] at hs;simp only [z6s] at h ⊢;exact zap hs.2 h
 | .arr n t,u,.idx i :: p,hs,h=>by cases u <;> simp [Ty.sk] at hs;simp only [z6s] at h ⊢;exact zap hs.2 h
 | .int _,_,s :: _,_,h=>by cases s <;> simp [z6s] at h
 | .bool,_,s :: _,_,h=>by cases s <;> simp [z6s] at h
 | .str,_,s :: _,_,h=>by cases s <;> simp [z6s] at h
 | .unit,_,s :: _,_,h=>by cases s <;> simp [z6s] at h
 | .ptr _,_,s :: _,_,h=>by cases s <;> simp [z6s] at h
 | .fn _ _,_,s :: _,_,h=>by cases s <;> simp [z6s] at h
 | .sl _ _,_,s :: _,_,h=>by cases s <;> simp [z6s] at h
 | .pair _ _,_,.idx _ :: _,_,h=>by simp [z6s] at h
 | .arr _ _,_,.fst :: _,_,h=>by simp [z6s] at h
 | .arr _ _,_,.snd :: _,_,h=>by simp [z6s] at h
theorem z80 {id:Nat} {p:z1a} {ep:Nat} {f:(u:Ty)->u.den->Option R} (h:z4u σ id p ep f=some r):∃ t l,σ.objs id=some (.row t l ep):=by
 unfold z4u at h;split at h
 ·rename_i t l e ho
  cases hb:Nat.beq e ep with
  | false=>rw [hb] at h;simp at h
  | true=>exact ⟨t,l,by rw [ho,zE hb]⟩
 ·simp at h
theorem z2x {id:Nat}:{t:Ty}->{pre:z1a}->{b off:Nat}->{p q:z1a}->{b' off' o:Nat}->{s s':Sk}->
  z0w g id t pre b off p=some (b',off')->tyS t p=some s->s.off q=some (o,s')->z0w g id t pre b off (p++q)=some (b',off'+o)
 | t,pre,b,off,[],q,b',off',o,s,s',h,hs,hq=>by
  simp only [z0w,zI,Prod.mk.injEq] at h;obtain ⟨rfl,rfl⟩:=h;simp only [tyS,zI] at hs;subst hs
  exact z67 hq
 | .pair a c,pre,b,off,.fst :: p,q,b',off',o,s,s',h,hs,hq=>by
  simp only [z0w,List.cons_append,tyS] at h hs ⊢;exact z2x h hs hq
 | .pair a c,pre,b,off,.snd :: p,q,b',off',o,s,s',h,hs,hq=>by
  simp only [z0w,List.cons_append,tyS] at h hs ⊢;exact z2x h hs hq
 | .arr n t,pre,b,off,.idx i :: p,q,b',off',o,s,s',h,hs,hq=>by
  simp only [z0w,List.cons_append,tyS] at h hs ⊢;exact z2x h hs hq
 | .sl true t,pre,b,off,.idx i :: p,q,b',off',o,s,s',h,hs,hq=>by
  simp only [z0w,List.cons_append,tyS] at h hs ⊢;split at h
  ·exact z2x h hs hq
  ·simp at h
 | .sl false t,_,_,_,s :: _,_,_,_,_,_,_,h,_,_=>by cases s <;> simp [z0w] at h
 | .sl true t,_,_,_,.fst :: _,_,_,_,_,_,_,h,_,_=>by simp [z0w] at h
 | .sl true t,_,_,_,.snd :: _,_,_,_,_,_,_,h,_,_=>by simp [z0w] at h
 | .int _,_,_,_,s :: _,_,_,_,_,_,_,h,_,_=>by cases s <;> simp [z0w] at h
 | .bool,_,_,_,s :: _,_,_,_,_,_,_,h,_,_=>by cases s <;> simp [z0w] at h
 | .str,_,_,_,s :: _,_,_,_,_,_,_,h,_,_=>by cases s <;> simp [z0w] at h
 | .unit,_,_,_,s :: _,_,_,_,_,_,_,h,_,_=>by cases s <;> simp [z0w] at h
 | .ptr _,_,_,_,s :: _,_,_,_,_,_,_,h,_,_=>by cases s <;> simp [z0w] at h
 | .fn _ _,_,_,_,s :: _,_,_,_,_,_,_,h,_,_=>by cases s <;> simp [z0w] at h
 | .pair _ _,_,_,_,.idx _ :: _,_,_,_,_,_,_,h,_,_=>by simp [z0w] at h
 | .arr _ _,_,_,_,.fst :: _,_,_,_,_,_,_,h,_,_=>by simp [z0w] at h
 | .arr _ _,_,_,_,.snd :: _,_,_,_,_,_,_,h,_,_=>by simp [z0w] at h
end
end Go.Kz
namespace Go.Kz
variable {R:Type}
section
variable {P:Program} {o:Oper} {a:Act} {w:World} {K:Act->World->Prop} {Q:Exit->Act->World->Prop} {c:Ctx} {σ:St} {g:Ghost} {k:St->Option R} {r:R} {base:Nat}
theorem zzr (htt:zbd P c.tt) {t:TypeId} {x i:Operand} (ho:o.op = .indexAddr t x i) (hst:StOK c.ntmps g w a σ) (h:z1s c σ base o k=some r):Yield P o a w g σ c k r:=by
 simp only [z1s,ho] at h;split at h
 ·rename_i av ki j u hx hi hu;have hT:=htt _ _ hu;obtain ⟨ex,ef⟩:=z24 hst hx;obtain ⟨vi,_⟩:=z3k (z24 hst hi).1;unfold z7w at h;split at h
  ·-- read-only slice
   rename_i ow t' l ow' u';simp only [z2j] at hT;obtain ⟨⟨E,hund,hE⟩,_⟩:=hT
   cases hs:t'.sk.same u'.sk with
   | false=>rw [hs] at h;simp at h
   | true=>
    rw [hs] at h;have hsk:=Sk.same_eq hs;have hsz:u'.size=t'.size:=by rw [←Ty.sk_size,←Ty.sk_size,hsk]
    simp only [cond_true,Option.bind_eq_some_iff] at h;obtain ⟨d,hd,h⟩:=h;obtain ⟨h0,hi',rfl,hlt⟩:=z3o hd;simp only [VOK] at ex;obtain ⟨cs,⟨hro,hrep⟩,hv⟩:=ex
    cases ow with
    | true=>simp [Ty.isRo] at hro
    | false=>
     obtain ⟨b,cp,rfl,h1,h2,h3⟩:=hrep;obtain ⟨bk,off,cc,e,fz,rfl,htag,hcell,hsz',hel⟩:=h3 (by intro hn;rw [hn] at hi';simp at hi');have hv':a.eval x = .slice (some ⟨bk,off,none⟩) (List.length l) cp:=hv;refine yld (v:=.pointer (some ⟨bk,off+j.toNat*t'.size,none⟩)) ?_ ?_ (fun m _=>by simp [AVal.ids]) h
     ·intro w' _;simp [execOp,ho,hv',vi,z32 hund hE.info bk off _ cp ki j h0 hlt w',hsz]
     ·simp only [VOK];refine ⟨_,⟨by simpa [Ty.isRo] using hro,bk,off+j.toNat*t'.size,cc,e,fz,rfl,htag,hcell,?_,hel _ hi'⟩,rfl⟩;have:(j.toNat+1)*t'.size≤List.length l*t'.size:=Nat.mul_le_mul_right _ hi';rw [Nat.add_mul] at this;omega
  ·-- pointer to a read-only array
   rename_i n t' l m u';simp only [z2j] at hT;obtain ⟨⟨E,hund,hE⟩,_⟩:=hT
   cases hs:(Nat.beq n m && t'.sk.same u'.sk) with
   | false=>rw [hs] at h;simp at h
   | true=>
    rw [hs] at h;simp only [zA] at hs;have hnm:n=m:=zE hs.1;subst hnm;have hsk:=Sk.same_eq hs.2;have hsz:u'.size=t'.size:=by rw [←Ty.sk_size,←Ty.sk_size,hsk]
    simp only [cond_true,Option.bind_eq_some_iff] at h;obtain ⟨d,hd,h⟩:=h;rw [idxT_eq] at hd;obtain ⟨h0,hi',rfl,hlt⟩:=z3o hd;simp only [VOK] at ex;obtain ⟨cs,⟨hro,bk,off,cc,e,fz,rfl,htag,hcell,hsz',hl,hcl,hel⟩,hv⟩:=ex;have hv':a.eval x = .pointer (some ⟨bk,off,none⟩):=hv;have hjn:j.toNat < n:=by rw [←hl];exact hi'
    have hmul:(j.toNat+1)*t'.size≤n*t'.size:=Nat.mul_le_mul_right _ hjn;rw [Nat.add_mul] at hmul;simp only [Ty.size] at hsz';refine yld (v:=.pointer (some ⟨bk,off+j.toNat*t'.size,none⟩)) ?_ ?_ (fun m _=>by simp [AVal.ids]) h
    ·intro w' _;simp [execOp,ho,hv',vi,z6c hund hE.info bk off ki j h0 (by omega) w',hsz]
    ·simp only [VOK];refine ⟨_,⟨by simpa [Ty.isRo] using hro,bk,off+j.toNat*t'.size,cc,e,fz,rfl,htag,hcell,by omega,?_⟩,rfl⟩;have:=hel _ hi';simp only [Ty.size] at this;rw [z7b _ _ _ _ _ (by omega)] at this;exact this
  ·-- a row of one's own
   rename_i id p ep ow' u';simp only [z2j] at hT;obtain ⟨⟨E,hund,hE⟩,_⟩:=hT;obtain ⟨t',l,hobj,rfl,hro,h⟩:=z4t hst.heap h
   cases hs:t'.sk.same u'.sk with
   | false=>rw [hs] at h;simp at h
   | true=>
    rw [hs] at h;have hsk:=Sk.same_eq hs;have hsz:u'.size=t'.size:=by rw [←Ty.sk_size,←Ty.sk_size,hsk]
    simp only [cond_true] at h;obtain ⟨hin,h⟩:=z1x h;obtain ⟨h0,hlt⟩:=zgh hin;simp only [VOK] at ex;obtain ⟨cs,⟨v,rfl,hone,hv⟩,hv'⟩:=ex;have e1:=(hv _ _ _ hobj).2 rfl;obtain ⟨ad,cp,_,hsv,h1,h2,h3⟩:=(hst.heap.objs _ _ hobj).2;rcases h3 with ⟨_,hl,_⟩ | ⟨bk,off,cc,e,rfl,htag,hcell,hsz',hel⟩
    ·rw [hl] at hlt;simp at hlt;omega
    ·have hv2:a.eval x = .slice (some ⟨bk,off,none⟩) l.length cp:=by rw [←hsv,←e1];exact hv'
     refine yld (v:=.pointer (some ⟨bk,off+j.toNat*t'.size,none⟩)) ?_ ?_ (fun m hm=>by have:=ef m hm;simpa [AVal.ids] using this) h
     ·intro w' _;simp [execOp,ho,hv2,vi,z32 hund hE.info bk off _ cp ki j h0 hlt w',hsz]
     ·simp only [VOK];refine ⟨_,⟨_,rfl,rfl,fun t1 l1 e1 hobj'=>?_⟩,rfl⟩;rw [hobj] at hobj';simp only [zI,Obj.row.injEq] at hobj';obtain ⟨rfl,hl1,rfl⟩:=hobj';refine ⟨Nat.le_refl _,fun _=>⟨by simp,bk,off+j.toNat*t'.size,?_,rfl⟩⟩;simp [z0w,hsv]
  ·-- a part of a row of one's own
   rename_i id p ep av bv ow' u';simp only [z2j] at hT;obtain ⟨⟨E,hund,hE⟩,_⟩:=hT;obtain ⟨t',l,hobj,rfl,hro,h⟩:=z4t hst.heap h
   cases hs:t'.sk.same u'.sk with
   | false=>rw [hs] at h;simp at h
   | true=>
    rw [hs] at h;have hsk:=Sk.same_eq hs;have hsz:u'.size=t'.size:=by rw [←Ty.sk_size,←Ty.sk_size,hsk]
    simp only [cond_true] at h;obtain ⟨hin,h⟩:=z1x h;simp only [zA,decide_eq_true_eq] at hin;obtain ⟨h0,hlt⟩:=hin;simp only [VOK] at ex;obtain ⟨cs,⟨v,rfl,hone,hv⟩,hv'⟩:=ex;obtain ⟨_,ha0,hab,hbl,e1⟩:=(hv _ _ _ hobj).2 rfl;obtain ⟨ad,cp,_,hsv,h1,h2,h3⟩:=(hst.heap.objs _ _ hobj).2;rcases h3 with ⟨_,hl,_⟩ | ⟨bk,off,cc,e,rfl,htag,hcell,hsz',hel⟩
    ·rw [hl] at hbl;simp at hbl;omega
    ·have hv2:a.eval x = .slice (some ⟨bk,off+av.toNat*t'.size,none⟩) (bv-av).toNat (cp-av.toNat):=by
      rw [hv'];show v=_;rw [e1,hsv];simp only [z2g];rw [if_neg (by omega)];simp [Addr.add_lit]
     refine yld (v:=.pointer (some ⟨bk,off+(av+j).toNat*t'.size,none⟩)) ?_ ?_ (fun m hm=>by have:=ef m hm;simpa [AVal.ids] using this) h
     ·intro w' _;have hj3':∀ x:Int,x < bv-av->x < (((bv-av).toNat:Nat):Int):=fun x hx=>by omega
      have hj3:=hj3' j hlt;have e3:off+av.toNat*t'.size+j.toNat*t'.size=off+(av+j).toNat*t'.size:=by
       have:(av+j).toNat=av.toNat+j.toNat:=by omega
       rw [this,Nat.add_mul];omega
      simp [execOp,ho,hv2,vi,z32 hund hE.info bk _ _ (cp-av.toNat) ki j h0 hj3 w',hsz,e3]
     ·simp only [VOK];refine ⟨_,⟨_,rfl,rfl,fun t1 l1 e1 hobj'=>?_⟩,rfl⟩;rw [hobj] at hobj';simp only [zI,Obj.row.injEq] at hobj';obtain ⟨rfl,hl1,rfl⟩:=hobj';refine ⟨Nat.le_refl _,fun _=>⟨by simp,bk,off+(av+j).toNat*t'.size,?_,rfl⟩⟩;simp [z0w,hsv]
  ·-- a row of rows,or one of its rows: see below
   rename_i id p ep ow' u'
   cases hb:(noP p && zb5 σ id) with
   | false=>rw [hb] at h;exact zku hT ho hst hx vi ef ex h
   | true=>
    rw [hb] at h;simp only [zA] at hb
    cases p with
    | nil=>exact zkv hT ho hst vi ef ex h
    | cons s p=>simp [noP] at hb
  ·-- an array that is a variable
   rename_i id p m u';simp only [z2j] at hT;obtain ⟨⟨E,hund,hE⟩,_⟩:=hT;obtain ⟨xc,x',off,cc,e,hobj,h2,hoff,hcell,htag,hle,hpart,hidsx⟩:=z9l hst.heap h;split at h2
   ·rename_i n t' l
    cases hs:(Nat.beq n m && t'.sk.same u'.sk) with
    | false=>rw [hs] at h2;simp at h2
    | true=>
     rw [hs] at h2;simp only [zA] at hs;have hnm:n=m:=zE hs.1;subst hnm;have hsk:=Sk.same_eq hs.2;have hsz:u'.size=t'.size:=by rw [←Ty.sk_size,←Ty.sk_size,hsk]
     simp only [cond_true] at h2;obtain ⟨hin,h2⟩:=z1x h2;obtain ⟨h0,hlt⟩:=zgh hin;have hln:List.length l=n:=hpart.2.1;simp only [VOK] at ex;obtain ⟨cs,⟨v,rfl,hone,hv⟩,hv'⟩:=ex;obtain ⟨off',s,hoff',hvv⟩:=hv _ hobj;rw [hoff] at hoff';simp only [zI,Prod.mk.injEq] at hoff';obtain ⟨rfl,_⟩:=hoff';have hv2:a.eval x = .pointer (some ⟨g.blk id,off,none⟩):=by rw [hv'];exact hvv
     refine yld (v:=.pointer (some ⟨g.blk id,off+j.toNat*t'.size,none⟩)) ?_ ?_ (fun m hm=>by have:=ef m hm;simpa [AVal.ids] using this) h2
     ·intro w' _;simp [execOp,ho,hv2,vi,z6c hund hE.info (g.blk id) off ki j h0 (by omega) w',hsz]
     ·simp only [VOK];refine ⟨_,⟨_,rfl,rfl,fun x1 hobj'=>?_⟩,rfl⟩;rw [hobj] at hobj';simp only [zI,Obj.cell.injEq] at hobj';subst hobj';rw [Sk.off_append _ hoff];simp only [AVal.sk,Ty.sk,Sk.off];rw [if_pos ⟨h0,by omega⟩];exact ⟨_,_,rfl,by simp [Ty.sk_size]⟩
   ·simp at h2
  ·-- an array that is an element of a row
   rename_i id p ep m u';simp only [z2j] at hT;obtain ⟨⟨E,hund,hE⟩,_⟩:=hT;split at h
   ·simp at h
   ·rename_i s q;obtain ⟨t0,l0,ho0⟩:=z80 h;simp only [VOK] at ex;obtain ⟨cs,⟨v,rfl,hone,hv⟩,hv'⟩:=ex;obtain ⟨hp,b0,off0,hpl,hvv⟩:=(hv _ _ _ ho0).2 rfl;obtain ⟨t1,l1,u1,e1,b,off,cc,ee,ho1,hro,hk,hu1,hpl2,hty,htag,hcell,hsz,hrep⟩:=z7z hst.heap hp h;rw [ho0] at ho1;simp only [zI,Obj.row.injEq] at ho1;obtain ⟨rfl,_,_⟩:=ho1;rw [hpl] at hpl2;simp only [zI,Prod.mk.injEq] at hpl2;obtain ⟨rfl,rfl⟩:=hpl2;split at hk
    ·rename_i n t' l
     cases hs:(Nat.beq n m && t'.sk.same u'.sk) with
     | false=>rw [hs] at hk;simp at hk
     | true=>
      rw [hs] at hk;simp only [zA] at hs;have hnm:n=m:=zE hs.1;subst hnm;have hsk:=Sk.same_eq hs.2;have hsz2:u'.size=t'.size:=by rw [←Ty.sk_size,←Ty.sk_size,hsk]
      simp only [cond_true] at hk;obtain ⟨hin,hk⟩:=z1x hk;obtain ⟨h0,hlt⟩:=zgh hin;have hln:List.length l=n:=hrep.1;have hv2:a.eval x = .pointer (some ⟨b0,off0,none⟩):=by rw [hv'];exact hvv
      refine yld (v:=.pointer (some ⟨b0,off0+j.toNat*t'.size,none⟩)) ?_ ?_ (fun m hm=>by have:=ef m hm;simpa [AVal.ids] using this) hk
      ·intro w' _;simp [execOp,ho,hv2,vi,z6c hund hE.info b0 off0 ki j h0 (by omega) w',hsz2]
      ·simp only [VOK];refine ⟨_,⟨_,rfl,rfl,fun t2 l2 e2 hobj'=>?_⟩,rfl⟩;rw [ho0] at hobj';simp only [zI,Obj.row.injEq] at hobj';obtain ⟨rfl,_,rfl⟩:=hobj';refine ⟨Nat.le_refl _,fun _=>⟨by simp,b0,off0+j.toNat*t'.size,?_,rfl⟩⟩;refine z2x (s':=t'.sk) hpl hty ?_;simp only [Ty.sk,Sk.off];rw [if_pos ⟨h0,by omega⟩];simp [Ty.sk_size]
    ·simp at hk
  ·simp at h
 ·simp at h
theorem zzs (htt:zbd P c.tt) {t:TypeId} {x:Operand} {i:Nat} (ho:o.op = .fieldAddr t x i) (hst:StOK c.ntmps g w a σ) (h:z1s c σ base o k=some r):Yield P o a w g σ c k r:=by
 simp only [z1s,ho] at h;split at h
 ·rename_i av u hx hu;have hT:=htt _ _ hu;obtain ⟨ex,ef⟩:=z24 hst hx;unfold zal at h;split at h
  ·rename_i t' d
   cases hs:t'.sk.same u.sk with
   | false=>rw [hs] at h;simp at h
   | true=>
    rw [hs] at h;simp only [cond_true] at h;have hsk:=Sk.same_eq hs;simp only [VOK] at ex;obtain ⟨cs,⟨hro,b,off,cc,e,fz,rfl,htag,hcell,hsz,hrep⟩,hv⟩:=ex;have hv':a.eval x = .pointer (some ⟨b,off,none⟩):=hv;have hro':t'.isRo=true:=by simpa [Ty.isRo] using hro
    have hty:=zap hsk (zcb hro' h);obtain ⟨u2,e2,o2,hk,hu2,ho2,hr2⟩:=za5 hro' hrep h;obtain ⟨o3,s3,ho3,hrun⟩:=z6d hT hty b off;rw [←hsk,ho2] at ho3;simp only [zI,Prod.mk.injEq] at ho3;obtain ⟨rfl,_⟩:=ho3;have hle:=Sk.off_le ho2;rw [Ty.sk_size,Ty.sk_size] at hle;refine yld (v:=.pointer (some ⟨b,off+o2,none⟩)) ?_ ?_ (fun m _=>by simp [AVal.ids]) hk
    ·intro w' _;simp [execOp,ho,hv',hrun]
    ·simp only [VOK];refine ⟨_,⟨by simpa [Ty.isRo] using hu2,b,off+o2,cc,e,fz,rfl,htag,hcell,by omega,?_⟩,rfl⟩;rw [z7b _ _ _ _ _ hle] at hr2;exact hr2
  ·rename_i id p;obtain ⟨xc,x',off,cc,e,hobj,h2,hoff,hcell,htag,hle,hpart,hidsx⟩:=z9l hst.heap h
   cases hs:(x'.sk.same u.sk && (z6s u (z0y i)).isSome) with
   | false=>rw [hs] at h2;simp at h2
   | true=>
    rw [hs] at h2;simp only [cond_true] at h2;simp only [zA] at hs;have hsk:=Sk.same_eq hs.1;simp only [VOK] at ex;obtain ⟨cs,⟨v,rfl,hone,hv⟩,hv'⟩:=ex;obtain ⟨off',s,hoff',hvv⟩:=hv _ hobj;rw [hoff] at hoff';simp only [zI,Prod.mk.injEq] at hoff';obtain ⟨rfl,_⟩:=hoff';have hv2:a.eval x = .pointer (some ⟨g.blk id,off,none⟩):=by rw [hv'];exact hvv
    obtain ⟨o3,s3,ho3,hrun⟩:=z6d hT hs.2 (g.blk id) off;refine yld (v:=.pointer (some ⟨g.blk id,off+o3,none⟩)) ?_ ?_ (fun m hm=>by have:=ef m hm;simpa [AVal.ids] using this) h2
    ·intro w' _;simp [execOp,ho,hv2,hrun]
    ·simp only [VOK];refine ⟨_,⟨_,rfl,rfl,fun x1 hobj'=>?_⟩,rfl⟩;rw [hobj] at hobj';simp only [zI,Obj.cell.injEq] at hobj';subst hobj';rw [Sk.off_append _ hoff,hsk,ho3];exact ⟨_,_,rfl,rfl⟩
  ·rename_i id p ep;split at h
   ·simp at h
   ·rename_i s q;obtain ⟨t0,l0,ho0⟩:=z80 h;simp only [VOK] at ex;obtain ⟨cs,⟨v,rfl,hone,hv⟩,hv'⟩:=ex;obtain ⟨hp,b0,off0,hpl,hvv⟩:=(hv _ _ _ ho0).2 rfl;obtain ⟨t1,l1,u1,e1,b,off,cc,ee,ho1,hro,hk,hu1,hpl2,hty,htag,hcell,hsz,hrep⟩:=z7z hst.heap hp h;rw [ho0] at ho1;simp only [zI,Obj.row.injEq] at ho1;obtain ⟨rfl,_,_⟩:=ho1;rw [hpl] at hpl2;simp only [zI,Prod.mk.injEq] at hpl2;obtain ⟨rfl,rfl⟩:=hpl2
    cases hs:(u1.sk.same u.sk && (z6s u (z0y i)).isSome) with
    | false=>rw [hs] at hk;simp at hk
    | true=>
     rw [hs] at hk;simp only [cond_true] at hk;simp only [zA] at hs;have hsk:=Sk.same_eq hs.1;have hv2:a.eval x = .pointer (some ⟨b0,off0,none⟩):=by rw [hv'];exact hvv
     obtain ⟨o3,s3,ho3,hrun⟩:=z6d hT hs.2 b0 off0;refine yld (v:=.pointer (some ⟨b0,off0+o3,none⟩)) ?_ ?_ (fun m hm=>by have:=ef m hm;simpa [AVal.ids] using this) hk
     ·intro w' _;simp [execOp,ho,hv2,hrun]
     ·simp only [VOK];refine ⟨_,⟨_,rfl,rfl,fun t2 l2 e2 hobj'=>?_⟩,rfl⟩;rw [ho0] at hobj';simp only [zI,Obj.row.injEq] at hobj';obtain ⟨rfl,_,rfl⟩:=hobj';refine ⟨Nat.le_refl _,fun _=>⟨by simp,b0,off0+o3,?_,rfl⟩⟩;exact z2x hpl hty (by rw [hsk];exact ho3)
  ·-- an element of a row of rows
   rename_i id p ep
   cases hho:zb5 σ id with
   | true=>
    rw [hho] at h;simp only [cond_true] at h;unfold holeF at h;split at h
    ·rename_i j t1 l1 e1 i1 hpath hobj;have hb:=(zjs h).1;replace h:=(zjs h).2;simp only [zA] at hb;have hi1:=zE hb.1.1;subst hi1;have hsk:=Sk.same_eq hb.1.2;simp only [VOK] at ex;obtain ⟨cs,⟨v,rfl,hone,hv⟩,hv'⟩:=ex;obtain ⟨hp,b0,off0,hpl,hvv⟩:=((hv _ _ _ _ _ hobj).2 rfl).2 rfl;have hv2:a.eval x = .pointer (some ⟨b0,off0,none⟩):=by rw [hv'];exact hvv
     obtain ⟨o3,s3,ho3,hrun⟩:=z6d hT hb.2 b0 off0;refine yld (v:=.pointer (some ⟨b0,off0+o3,none⟩)) ?_ ?_ (fun m hm=>by have:=ef m hm;simpa [AVal.ids] using this) h
     ·intro w' _;simp [execOp,ho,hv2,hrun]
     ·simp only [VOK];refine ⟨_,⟨_,rfl,rfl,fun t2 l2 e2 i2 h2 hobj'=>?_⟩,rfl⟩;rw [hobj] at hobj';simp only [zI,Obj.nest.injEq] at hobj';obtain ⟨rfl,_,rfl,rfl,_⟩:=hobj';refine ⟨Nat.le_refl _,fun _=>⟨fun h=>(by simp at h),fun _=>⟨by simp,b0,off0+o3,?_,rfl⟩⟩⟩;have hty:tyS (.sl true t1) [.idx j]=some t1.sk:=by simp [tyS]
      exact z2x hpl hty (by rw [hsk];exact ho3)
    ·simp at h
   | false=>
   rw [hho] at h;simp only [cond_false] at h;obtain ⟨t1,l1,e1,i1,hobj,hep,hrep,hk⟩:=zc0 hst.heap h;simp only [VOK] at ex;obtain ⟨cs,⟨v,rfl,hone,hv⟩,hv'⟩:=ex;obtain ⟨hp,b0,off0,hpl,hvv⟩:=((hv _ _ _ _ _ hobj).2 hep).2 rfl
   cases p with
   | nil=>exact absurd rfl hp
   | cons s q=>
    obtain ⟨u1,x1,bh,oh,ch,eh,ph,hk,hpl2,hty,_,htag,hcell,hsz,hr⟩:=z8e hrep hk
    cases hs:(u1.sk.same u.sk && (z6s u (z0y i)).isSome) with
    | false=>rw [hs] at hk;simp at hk
    | true=>
     rw [hs] at hk;simp only [cond_true] at hk;simp only [zA] at hs;have hsk:=Sk.same_eq hs.1;have hv2:a.eval x = .pointer (some ⟨b0,off0,none⟩):=by rw [hv'];exact hvv
     obtain ⟨o3,s3,ho3,hrun⟩:=z6d hT hs.2 b0 off0;refine yld (v:=.pointer (some ⟨b0,off0+o3,none⟩)) ?_ ?_ (fun m hm=>by have:=ef m hm;simpa [AVal.ids] using this) hk
     ·intro w' _;simp [execOp,ho,hv2,hrun]
     ·simp only [VOK];refine ⟨_,⟨_,rfl,rfl,fun t2 l2 e2 i2 h2 hobj'=>?_⟩,rfl⟩;rw [hobj] at hobj';simp only [zI,Obj.nest.injEq] at hobj';obtain ⟨rfl,_,rfl,rfl,_⟩:=hobj';have hi1:i1=ep:=hep;refine ⟨Nat.le_of_eq hi1.symm,fun _=>⟨fun h=>(by simp at h),fun _=>⟨by simp,b0,off0+o3,?_,rfl⟩⟩⟩;exact z2x hpl hty (by rw [hsk];exact ho3)
  ·simp at h
 ·simp at h
theorem zmk {T:TypeId} {u:Ty} (hT:z2j P u T) (w:World):(isAgg T).run P w = .ok u.sk.isAgg w:=by
 unfold isAgg;rw [Sem.run_bind]
 cases u with
 | int _=>simp only [z2j] at hT;rw [run_underlying hT.1];rfl
 | bool=>simp only [z2j] at hT;rw [run_underlying hT.1];rfl
 | str=>simp only [z2j] at hT;rw [run_underlying hT.1];rfl
 | unit=>simp only [z2j] at hT
 | pair x y=>simp only [z2j] at hT;obtain ⟨⟨fs,h,_⟩,_⟩:=hT;rw [run_underlying h];rfl
 | arr n t=>simp only [z2j] at hT;obtain ⟨⟨E,h,_⟩,_⟩:=hT;rw [run_underlying h];rfl
 | sl _ t=>simp only [z2j] at hT;obtain ⟨⟨E,h,_⟩,_⟩:=hT;rw [run_underlying h];rfl
 | ptr _=>simp only [z2j] at hT;obtain ⟨⟨E,h⟩,_⟩:=hT;rw [run_underlying h];rfl
 | fn _ _=>simp only [z2j] at hT;obtain ⟨⟨x,y,z,h⟩ | ⟨x,y,h⟩,_⟩:=hT <;> rw [run_underlying h] <;> rfl
theorem z2j.size1 {T:TypeId} {u:Ty} (hT:z2j P u T) (h:u.sk.isAgg=false):u.size=1:=by
 cases u <;> simp [Ty.sk,Sk.isAgg] at h <;> simp [Ty.size]
theorem zat {T:TypeId} {u:Ty} (hT:z2j P u T) {b off:Nat} {cc:Array Value} {e:TypeId} {fz:Nat×Nat} (hc:w.heap[b]? = some (.cells cc e fz)) (hs:off+u.size≤cc.size) :
  (loadVar T ⟨b,off,none⟩).run P w = .ok (mkV u.sk.isAgg (seg cc.toList off u.size)) w:=by
 have hag:=zmk hT w;have hlen:(seg cc.toList off u.size).length=u.size:=z20 (by rw [Array.length_toList];exact hs);unfold loadVar;rw [Sem.run_bind,hag]
 cases hu:u.sk.isAgg with
 | true=>
  have hl:=run_loadCells_list (P:=P) w ⟨b,off,none⟩ (seg cc.toList off u.size) (fun j v hv=>by
   rw [Addr.add_lit,cell_of_row w b (off+j) cc e fz hc];simp only [seg,List.getElem?_take,List.getElem?_drop] at hv;split at hv
   ·simpa using hv
   ·simp at hv)
  rw [hlen] at hl;have hsz:=hT.info.sizeOf w
  simp [hl,hsz,mkV]
 | false=>
  have h1:=hT.size1 hu;rw [h1] at hs;have hcell:w.cell? ⟨b,off,none⟩=some cc[off]:=by
   rw [cell_of_row w b off cc e fz hc];simp [show off < cc.size by omega]
  have hseg:seg cc.toList off u.size=[cc[off]]:=by
   rw [h1];simp only [seg];rw [List.drop_eq_getElem_cons (by rw [Array.length_toList];omega)];simp
  simp [load,Sem.run,hcell,hseg,mkV]
theorem z2t {av:AVal} (h:av.val=true):av.isAgg=av.sk.isAgg∧(∀ x y,av≠.pr x y)∧av≠.un∧∀ x,av≠.tup x:=by
 cases av with
 | agg x=>cases x <;> simp [AVal.val] at h <;> simp [AVal.isAgg,AVal.sk,Sk.isAgg]
 | data t d=>simp [AVal.isAgg,AVal.sk]
 | pr=>simp [AVal.val] at h
 | un=>simp [AVal.val] at h
 | tup=>simp [AVal.val] at h
 | _=>simp [AVal.isAgg,AVal.sk,Sk.isAgg]
theorem zsd {n:Nat} {av:AVal} {xv:Value} {f:AVal->Option R} (hst:StOK n g w a σ) (ex:VOK w g σ.objs av xv) (ef:∀ m,Fresh g σ m->m∉av.ids) (h:zc3 σ av f=some r) :
  ∃ lv b off cc e fz,xv = .pointer (some ⟨b,off,none⟩)∧w.heap[b]? = some (.cells cc e fz)∧off+lv.sk.size≤cc.size∧
   AOK w g σ.objs lv (seg cc.toList off lv.sk.size)∧(∀ m,Fresh g σ m->m∉lv.ids)∧f lv=some r:=by
 unfold zc3 at h;split at h
 ·rename_i t' d;simp only [VOK] at ex;obtain ⟨cs,⟨hro,b,off,cc,e,fz,rfl,htag,hcell,hsz,hrep⟩,hv⟩:=ex;exact ⟨.data t' d,b,off,cc,e,fz,hv,hcell,by simpa [AVal.sk,Ty.sk_size] using hsz,⟨by simpa [Ty.isRo] using hro,by simpa [AVal.sk,Ty.sk_size] using hrep⟩,fun m _=>by simp [AVal.ids],h⟩
 ·rename_i id p ep;split at h
  ·simp at h
  ·rename_i s q;obtain ⟨t0,l0,ho0⟩:=z80 h;simp only [VOK] at ex;obtain ⟨cs,⟨v,rfl,hone,hv⟩,hv'⟩:=ex;obtain ⟨hp,b0,off0,hpl,hvv⟩:=(hv _ _ _ ho0).2 rfl;obtain ⟨t1,l1,u1,e1,b,off,cc,ee,ho1,hro,hk,hu1,hpl2,hty,htag,hcell,hsz,hrep⟩:=z7z hst.heap hp h;rw [ho0] at ho1;simp only [zI,Obj.row.injEq] at ho1;obtain ⟨rfl,_,_⟩:=ho1;rw [hpl] at hpl2;simp only [zI,Prod.mk.injEq] at hpl2;obtain ⟨rfl,rfl⟩:=hpl2;exact ⟨.data u1 e1,b0,off0,cc,ee,(0,0),by rw [hv'];exact hvv,hcell,by simpa [AVal.sk,Ty.sk_size] using hsz,⟨hu1,by simpa [AVal.sk,Ty.sk_size] using hrep⟩,fun m _=>by simp [AVal.ids],hk⟩
 ·rename_i id p;obtain ⟨xc,y,off,cc,e,hobj,h2,hoff,hcell,htag,hle,hpart,hi⟩:=z9l hst.heap h;simp only [VOK] at ex;obtain ⟨cs,⟨v,rfl,hone,hv⟩,hv'⟩:=ex;obtain ⟨off',s,hoff',hvv⟩:=hv _ hobj;rw [hoff] at hoff';simp only [zI,Prod.mk.injEq] at hoff';obtain ⟨rfl,_⟩:=hoff';exact ⟨y,g.blk id,off,cc,e,(0,0),by rw [hv'];exact hvv,hcell,hle,hpart,fun m hm=>hi m (hm.cells _ _ hobj),h2⟩
 ·rename_i id p ep;obtain ⟨t1,l1,e1,i1,hobj,hep,hrep,hk⟩:=zc0 hst.heap h;simp only [VOK] at ex;obtain ⟨cs,⟨v,rfl,hone,hv⟩,hv'⟩:=ex;obtain ⟨hp,b0,off0,hpl,hvv⟩:=((hv _ _ _ _ _ hobj).2 hep).2 rfl
  cases p with
  | nil=>exact absurd rfl hp
  | cons s q=>
   obtain ⟨u1,x1,bh,oh,ch,eh,ph,hk,hpl2,hty,_,htag,hcell,hsz,hr⟩:=z8e hrep hk;rw [hpl] at hpl2;simp only [zI,Prod.mk.injEq] at hpl2;obtain ⟨rfl,rfl⟩:=hpl2
   cases hro:u1.isRo with
   | true=>
    rw [hro] at hk
    exact ⟨.data u1 x1,b0,off0,ch,eh,(0,0),by rw [hv'];exact hvv,hcell,by simpa [AVal.sk,Ty.sk_size] using hsz,⟨hro,by simpa [AVal.sk,Ty.sk_size] using Rep.anyOwn (o':=none) hro hr⟩,fun m _=>by simp [AVal.ids],hk⟩
   | false=>
    rw [hro] at hk;simp only [cond_false] at hk;split at hk
    ·rename_i v1;obtain ⟨ad,cp,hcs,hsv,_⟩:=hr;refine ⟨.nv false id (s :: q) ep,b0,off0,ch,eh,(0,0),by rw [hv'];exact hvv,hcell,hsz,⟨_,hcs,rfl,fun t2 l2 e2 i2 h2 hobj'=>?_⟩,fun m hm=>by have:=ef m hm;simpa [AVal.ids] using this,hk⟩;rw [hobj] at hobj';simp only [zI,Obj.nest.injEq] at hobj';obtain ⟨rfl,_,rfl,rfl,_⟩:=hobj';have hi1:i1=ep:=hep;exact ⟨Nat.le_of_eq hi1.symm,fun _=>⟨fun _=>hsv.symm,fun h=>(by simp at h)⟩⟩
    ·simp at hk
 ·simp at h
theorem op_load (htt:zbd P c.tt) {t:TypeId} {x:Operand} (ho:o.op = .load t x) (hst:StOK c.ntmps g w a σ) (h:z1s c σ base o k=some r):Yield P o a w g σ c k r:=by
 simp only [z1s,ho] at h;split at h
 ·rename_i av u hx hu;have hT:=htt _ _ hu;obtain ⟨ex,ef⟩:=z24 hst hx;have key:=zsd hst ex ef h;obtain ⟨lv,b,off,cc,e,fz,hv,hcell,hle,hok,hfr,hput⟩:=key
  cases hb:(lv.val && u.sk.same lv.sk) with
  | false=>rw [hb] at hput;simp at hput
  | true=>
   rw [hb] at hput;simp only [cond_true] at hput;simp only [zA] at hb;have hsk:=Sk.same_eq hb.2;obtain ⟨hag,hn1,hn2,hn3⟩:=z2t hb.1;have hsz:u.size=lv.sk.size:=by rw [←hsk,Ty.sk_size]
   refine yld (v:=mkV u.sk.isAgg (seg cc.toList off u.size)) ?_ ?_ hfr hput
   ·intro w' hw';replace hw':=hw' (by simp [isP,ho]);have hrun:=zat (P:=P) (w:=w') hT ((hw' b (Array.getElem?_eq_some_iff.1 hcell).1).trans hcell) (by rw [hsz];exact hle);simp [execOp,ho,hv,Instr.loadAt,Instr.sureAddr,hrun]
   ·refine z19 hok ?_ hn1 hn2;rw [hag,←hsk,hsz,hsk]
 ·simp at h
end
end Go.Kz
namespace Go.Kz
variable {R:Type}
structure Shrunk (g:Ghost) (objs0:z2c) (g':Ghost) (objs':z2c):Prop where
 sv:g'.sv=g.sv
 blk:g'.blk=g.blk
 objs:∀ i,objs' i=objs0 i∨objs' i=none
 tag:∀ b,g'.tag b=g.tag b∨(g'.tag b = .ro∧∃ id,objs0 id≠none∧objs' id=none∧((∃ p,g.tag b = .row id p)∨g.tag b = .box id))
theorem Shrunk.refl (g:Ghost) (objs:z2c):Shrunk g objs g objs:=⟨rfl,rfl,fun _=>.inl rfl,fun _=>.inl rfl⟩
theorem Shrunk.trans {g g' g'':Ghost} {o o' o'':z2c} (h:Shrunk g o g' o') (k:Shrunk g' o' g'' o''):Shrunk g o g'' o'':=by
 refine ⟨k.sv.trans h.sv,k.blk.trans h.blk,fun i=>?_,fun b=>?_⟩
 ·rcases k.objs i with e | e
  ·rw [e];exact h.objs i
  ·exact .inr e
 ·rcases k.tag b with e | ⟨e,id,hs,hn,ht⟩
  ·rcases h.tag b with e2 | ⟨e2,id,hs,hn,ht⟩
   ·exact .inl (e.trans e2)
   ·refine .inr ⟨e.trans e2,id,hs,?_,ht⟩;rcases k.objs id with e3 | e3
    ·rw [e3];exact hn
    ·exact e3
  ·rcases h.tag b with e2 | ⟨e2,_,_,_,_⟩
   ·rw [e2] at ht;refine .inr ⟨e,id,fun h0=>?_,hn,ht⟩;rcases h.objs id with e3 | e3
    ·rw [e3] at hs;exact hs h0
    ·exact hs e3
   ·rw [e2] at ht;rcases ht with ⟨p,ht⟩ | ht <;> simp at ht
theorem Shrunk.ro {g g':Ghost} {o o':z2c} (h:Shrunk g o g' o') (w:World):RoKept w g w g':=
 ⟨fun b hb=>⟨(h.tag b).elim (fun e=>by rw [e,hb]) (fun e=>e.1),rfl⟩⟩
theorem Shrunk.same {g g':Ghost} {o o':z2c} (h:Shrunk g o g' o') (w:World) {id:Nat} (hid:o' id≠none):Same w g w g' id:=by
 refine ⟨⟨fun q=>by rw [h.sv],fun q b hb=>⟨?_,rfl⟩⟩,by rw [h.blk],fun hb=>⟨?_,rfl⟩⟩
 ·rcases h.tag b with e | ⟨_,id',_,hn,ht⟩
  ·rw [e,hb]
  ·rw [hb] at ht;rcases ht with ⟨p,ht⟩ | ht
   ·simp only [Tag.row.injEq] at ht;rw [←ht.1] at hn;exact absurd hn hid
   ·simp at ht
 ·rcases h.tag (g.blk id) with e | ⟨_,id',_,hn,ht⟩
  ·rw [e,hb]
  ·rw [hb] at ht;rcases ht with ⟨p,ht⟩ | ht
   ·simp at ht
   ·simp only [Tag.box.injEq] at ht;rw [←ht] at hn;exact absurd hn hid
theorem Shrunk.kept {w:World} {g g':Ghost} {o o':z2c} (h:Shrunk g o g' o') (hh:HeapOK w g o) (id:Nat):z15 g g' id (o id) (o' id):=by
 rcases h.objs id with e | e
 ·rw [e];by_cases hn:o' id=none
  ·left;rw [←e];exact hn
  ·exact z15.same (h.same w hn)
 ·exact .inl e
theorem Shrunk.heap {w:World} {g g':Ghost} {o o':z2c} (h:Shrunk g o g' o') (hh:HeapOK w g o):HeapOK w g' o':=by
 refine ⟨fun id x hx=>?_,fun b hb=>?_⟩
 ·have hid:o' id≠none:=by rw [hx];simp
  have hx':o id=some x:=by
   rcases h.objs id with e | e
   ·rw [←e];exact hx
   ·exact absurd e hid
  exact z14.frame (h.ro w) (h.same w hid) (fun a ha id' _=>h.kept hh id') (hh.objs id x hx')
 ·refine hh.tags b ?_;rcases h.tag b with e | ⟨_,id',_,_,ht⟩
  ·rw [←e];exact hb
  ·rcases ht with ⟨p,ht⟩ | ht <;> rw [ht] <;> simp
theorem Shrunk.ext {w:World} {g g':Ghost} {o o':z2c} (h:Shrunk g o g' o'):Ext w g w g':=by
 refine ⟨rfl,rfl,rfl,Nat.le_refl _,Nat.le_refl _,fun b _ ht=>⟨rfl,?_⟩⟩;rcases h.tag b with e | ⟨_,id',_,_,h2⟩
 ·exact e
 ·rcases h2 with ⟨p,h2⟩ | h2 <;> rw [h2] at ht <;> simp at ht
theorem Shrunk.fresh {g g':Ghost} {σ σ':St} {m:Nat} (h:Shrunk g σ.objs g' σ'.objs) (hs:σ'.slots=σ.slots) (hf:Fresh g σ m):Fresh g' σ' m:=by
 refine ⟨?_,fun b p hb=>?_,fun b hb=>?_,fun i av hi=>hf.slots i av (by rw [←hs];exact hi),fun id av hi=>hf.cells id av ?_⟩
 ·rcases h.objs m with e | e
  ·rw [e];exact hf.objs
  ·exact e
 ·rcases h.tag b with e | ⟨e,_⟩
  ·rw [e] at hb;exact hf.row b p hb
  ·rw [e] at hb;simp at hb
 ·rcases h.tag b with e | ⟨e,_⟩
  ·rw [e] at hb;exact hf.box b hb
  ·rw [e] at hb;simp at hb
 ·rcases h.objs id with e | e
  ·rw [←e];exact hi
  ·rw [e] at hi;simp at hi
theorem Shrunk.st {n:Nat} {w:World} {a:Act} {g g':Ghost} {σ σ':St} (h:Shrunk g σ.objs g' σ'.objs) (hs:σ'.slots=σ.slots) (hst:StOK n g w a σ):StOK n g' w a σ':=by
 refine ⟨fun i av hi=>?_,h.heap hst.heap,hst.size,hst.defers,hst.known.kept (h.ro w)⟩;rw [hs] at hi;obtain ⟨v,hv,hok⟩:=hst.slots i av hi;exact ⟨v,hv,VOK.frame (h.ro w) (fun id _=>h.kept hst.heap id) hok⟩
def z7g (g:Ghost) (id:Nat):Ghost:={ g with tag:=fun b=>match g.tag b with
 | .row i p=>if i=id then .ro else .row i p
 | .box i=>if i=id then .ro else .box i
 | t=>t }
theorem z3g {g:Ghost} {σ:St} (id:Nat) (hid:σ.objs id≠none):Shrunk g σ.objs (z7g g id) (σ.kill id).objs:=by
 refine ⟨rfl,rfl,fun i=>?_,fun b=>?_⟩
 ·simp only [St.kill,upd];cases Nat.beq i id <;> simp
 ·simp only [z7g]
  cases hb:g.tag b with
  | alien=>left;rfl
  | ro=>left;rfl
  | row i p=>
   by_cases hi:i=id
   ·right;simp only [hi,if_true];exact ⟨trivial,id,hid,by simp [St.kill,upd],.inl ⟨p,rfl⟩⟩
   ·left;simp [hi]
  | box i=>
   by_cases hi:i=id
   ·right;simp only [hi,if_true];exact ⟨trivial,id,hid,by simp [St.kill,upd],.inr rfl⟩
   ·left;simp [hi]
theorem zbz {t:Ty} {k:t.den->Option R} {r:R} (h:nilK t k=some r):∃ o u,∃ e:t = .sl o u,k (e ▸ ([]:List u.den))=some r:=by
 cases t with
 | sl o u=>exact ⟨o,u,rfl,h⟩
 | _=>simp [nilK] at h
theorem z5v {w:World}:(n:Nat)->{a:AVal}->{u:Ty}->{σ:St}->{g:Ghost}->{k:u.den->St->Option R}->{r:R}->{cs:List Value}->
  HeapOK w g σ.objs->AOK w g σ.objs a cs->u.isRo=true->z2y n a u σ k=some r->
  ∃ d σ' g',k d σ'=some r∧σ'.slots=σ.slots∧σ'.next=σ.next∧Shrunk g σ.objs g' σ'.objs∧Rep w g' none u d cs
 | 0,_,_,_,_,_,_,_,_,_,_,h=>by simp [z2y] at h
 | n+1,.data t d,u,σ,g,k,r,cs,hh,hok,hu,h=>by
  simp only [z2y] at h;obtain ⟨rfl,h⟩:=z0u h
  exact ⟨_,σ,g,h,rfl,rfl,.refl _ _,hok.2⟩
 | n+1,.nilS,u,σ,g,k,r,cs,hh,hok,hu,h=>by
  simp only [z2y] at h;obtain ⟨o,v,rfl,h⟩:=zbz h
  cases o with
  | true=>simp [Ty.isRo] at hu
  | false=>
   have hok':cs=[.slice none 0 0]:=hok;subst hok'
   exact ⟨_,σ,g,h,rfl,rfl,.refl _ _,none,0,rfl,Nat.le_refl _,Nat.zero_le _,fun hn=>absurd rfl hn⟩
 | n+1,.ref id p ep,u,σ,g,k,r,cs,hh,hok,hu,h=>by
  cases p with
  | cons s q=>simp [z2y] at h
  | nil=>
   simp only [z2y] at h;split at h
   ·rename_i t l e ho
    cases hb:Nat.beq e ep with
    | false=>rw [hb] at h;simp at h
    | true=>
     have he:e=ep:=zE hb;subst he;rw [hb] at h;simp only [cond_true] at h;obtain ⟨v,rfl,_,hv⟩:=hok;have hsv:=(hv _ _ _ ho).2 rfl;have hobj:=hh.objs id _ ho;split at h
     ·simp [Ty.isRo] at hu
     ·rename_i v' kk;obtain ⟨he,h⟩:=z0u h;refine ⟨_,σ.kill id,z7g g id,h,rfl,rfl,z3g id (by rw [ho];simp),?_⟩;have hs:=z3g (g:=g) (σ:=σ) id (by rw [ho];simp);have hf:=Rep.freeze (hs.ro w) (o:=some (id,[])) (show Frozen w g w (z7g g id) id [] from ⟨fun q b hb=>⟨by simp only [z7g,List.nil_append] at hb ⊢;rw [hb];simp,rfl⟩⟩) hobj.2;rw [←hsv] at hf;have he':Ty.sl false t.ro=Ty.sl false v':=he;simp only [Ty.sl.injEq,true_and] at he';subst he';exact hf
     ·simp at h
   ·simp at h
 | n+1,.bptr id p,u,σ,g,k,r,cs,hh,hok,hu,h=>by
  cases u with
  | ptr u=>
   cases p with
   | cons s q=>simp [z2y] at h
   | nil=>
    simp only [z2y] at h;split at h
    ·rename_i a ho;obtain ⟨hnt,h⟩:=z7t h;obtain ⟨c,e,hc,ht,hca⟩:=(hh.objs id _ ho).out hnt;have hs:=z3g (g:=g) (σ:=σ) id (by rw [ho];simp);have hca':=AOK.frame (objs':=(σ.kill id).objs) (hs.ro w) (fun i _=>hs.kept hh i) hca;obtain ⟨d,σ',g',hk,h1,h2,h3,hrep⟩:=z5v n (hs.heap hh) hca' (by simpa [Ty.isRo] using hu) h;obtain ⟨v,rfl,_,hv⟩:=hok;obtain ⟨off,s,hoff,rfl⟩:=hv _ ho;simp only [Sk.off,zI,Prod.mk.injEq] at hoff;obtain ⟨rfl,_⟩:=hoff;have htag:(z7g g id).tag (g.blk id) = .ro:=by simp [z7g,ht]
     refine ⟨d,σ',g',hk,h1,h2,hs.trans h3,g.blk id,0,c,e,(0,0),rfl,((h3.ro w).blk _ htag).1,hc,?_,?_⟩
     ·have:=hrep.len;rw [Array.length_toList] at this;omega
     ·have hl:=hrep.len;rw [←hl,z6b];exact hrep
    ·simp at h
  | _=>cases p <;> simp [z2y] at h
 | n+1,.clos f c,u,σ,g,k,r,cs,hh,hok,hu,h=>by
  cases u with
  | fn f' t=>
   simp only [z2y] at h
   cases hb:Nat.beq f f' with
   | false=>rw [hb] at h;simp at h
   | true=>
    rw [hb] at h;have he:f=f':=zE hb;subst he;obtain ⟨vs,rfl,hc⟩:=hok;obtain ⟨d,σ',g',hk,h1,h2,h3,hrep⟩:=z5v n (a:=c) hh hc (by simpa [Ty.isRo] using hu) h
    exact ⟨d,σ',g',hk,h1,h2,h3,vs,rfl,hrep⟩
  | _=>simp [z2y] at h
 | n+1,.agg c,u,σ,g,k,r,cs,hh,hok,hu,h=>by
  simp only [z2y] at h
  exact z5v n (a:=c) hh hok hu h
 | n+1,.pr a b,u,σ,g,k,r,cs,hh,hok,hu,h=>by
  cases u with
  | pair t u=>
   simp only [z2y] at h;simp only [Ty.isRo,zA] at hu;obtain ⟨c1,c2,rfl,ha,hb⟩:=hok;obtain ⟨x,σ1,g1,hk1,h1,h2,h3,hrep1⟩:=z5v n hh ha hu.1 h;have hb':=AOK.frame (objs':=σ1.objs) (h3.ro w) (fun i _=>h3.kept hh i) hb;obtain ⟨y,σ2,g2,hk2,h4,h5,h6,hrep2⟩:=z5v n (h3.heap hh) hb' hu.2 hk1
   exact ⟨(x,y),σ2,g2,hk2,h4.trans h1,h5.trans h2,h3.trans h6,c1,c2,rfl,hrep1.kept (h6.ro w),hrep2⟩
  | _=>simp [z2y] at h
 | n+1,.un,u,σ,g,k,r,cs,hh,hok,hu,h=>by
  cases u with
  | unit=>
   simp only [z2y] at h
   exact ⟨(),σ,g,h,rfl,rfl,.refl _ _,hok⟩
  | _=>simp [z2y] at h
 | n+1,.view _ _ _ _ _,u,σ,g,k,r,cs,hh,hok,hu,h=>by cases u <;> simp [z2y] at h
 | n+1,.eptr _ _ _,u,σ,g,k,r,cs,hh,hok,hu,h=>by cases u <;> simp [z2y] at h
 | n+1,.mref _,u,σ,g,k,r,cs,hh,hok,hu,h=>by cases u <;> simp [z2y] at h
 | n+1,.nv true _ _ _,u,σ,g,k,r,cs,hh,hok,hu,h=>by cases u <;> simp [z2y] at h
 | n+1,.nv false _ (_ :: _) _,u,σ,g,k,r,cs,hh,hok,hu,h=>by cases u <;> simp [z2y] at h
 | n+1,.nv false id [] ep,u,σ,g,k,r,cs,hh,hok,hu,h=>by
  simp only [z2y] at h;split at h
  ·rename_i t l e i ho
   cases hb:Nat.beq e ep with
   | false=>rw [hb] at h;simp at h
   | true=>
    have he:e=ep:=zE hb;subst he;rw [hb] at h;simp only [cond_true] at h;obtain ⟨v,rfl,_,hv⟩:=hok;have hsv:=((hv _ _ _ _ _ ho).2 rfl).1 rfl;have hobj:Rep w g (some (id,[])) (.sl true t) l [g.sv id []]:=hh.objs id _ ho;split at h
    ·rename_i v' kk;obtain ⟨he,h⟩:=z0u h;refine ⟨_,σ.kill id,z7g g id,h,rfl,rfl,z3g id (by rw [ho];simp),?_⟩;have hs:=z3g (g:=g) (σ:=σ) id (by rw [ho];simp);have hf:=Rep.freeze (hs.ro w) (o:=some (id,[])) (show Frozen w g w (z7g g id) id [] from ⟨fun q b hb=>⟨by simp only [z7g,List.nil_append] at hb ⊢;rw [hb];simp,rfl⟩⟩) hobj;rw [←hsv] at hf;have he':Ty.sl false t.ro=Ty.sl false v':=he;simp only [Ty.sl.injEq,true_and] at he';subst he';exact hf
    ·simp at h
  ·simp at h
 | n+1,.tup _,u,σ,g,k,r,cs,hh,hok,hu,h=>hok.elim
theorem Rep.one {w:World} {g:Ghost}:{o:Own}->{t:Ty}->{d:t.den}->{cs:List Value}->Rep w g o t d cs->∀ v∈cs,v.oneCell'=true
 | _,.int _,_,_,h=>by obtain ⟨rfl,_⟩:=h;simp [Value.oneCell']
 | _,.bool,_,_,h=>by cases h;simp [Value.oneCell']
 | _,.str,_,_,h=>by obtain ⟨s,rfl,_⟩:=h;simp [Value.oneCell']
 | _,.unit,_,_,h=>by cases h;simp
 | _,.pair a b,(x,y),_,h=>by
  obtain ⟨c1,c2,rfl,h1,h2⟩:=h;intro v hv;rcases List.mem_append.1 hv with hv | hv
  ·exact Rep.one h1 v hv
  ·exact Rep.one h2 v hv
 | _,.arr n t,l,cs,h=>by
  intro v hv;obtain ⟨j,hj,rfl⟩:=List.mem_iff_getElem.1 hv;have hlen:=h.2.1;have htz:0 < t.size:=by
   rcases Nat.eq_zero_or_pos t.size with hz | hz
   ·rw [hz] at hlen;omega
   ·exact hz
  have hdiv:j / t.size < n:=Nat.div_lt_of_lt_mul (by rw [Nat.mul_comm];omega);have hi:j / t.size < List.length l:=by rw [h.1];exact hdiv
  have hr:=Rep.one (h.2.2 (j / t.size) hi);refine hr _ ?_;have hm:=Nat.mod_lt j htz;have hdm:=Nat.div_add_mod j t.size;have hle:(j / t.size+1)*t.size≤n*t.size:=Nat.mul_le_mul_right _ hdiv;rw [Nat.add_mul] at hle;refine List.mem_iff_getElem.2 ⟨j % t.size,?_,?_⟩
  ·rw [z20 (by omega)];exact hm
  ·simp only [seg,List.getElem_take,List.getElem_drop];congr 1
   rw [Nat.mul_comm];exact hdm
 | _,.sl false t,_,_,h=>by obtain ⟨a,cap,rfl,_⟩:=h;simp [Value.oneCell']
 | some (_,_),.sl true t,_,_,h=>by obtain ⟨a,cap,rfl,_⟩:=h;simp [Value.oneCell']
 | none,.sl true t,_,_,h=>h.elim
 | _,.ptr t,_,_,h=>by obtain ⟨b,off,c,e,fz,rfl,_⟩:=h;simp [Value.oneCell']
 | _,.fn f t,_,_,h=>by obtain ⟨vs,rfl,_⟩:=h;simp [Value.oneCell']
theorem AOK.one {w:World} {g:Ghost} {objs:z2c}:{a:AVal}->{cs:List Value}->AOK w g objs a cs->∀ v∈cs,v.oneCell'=true
 | .data t d,_,h=>h.2.one
 | .nilS,_,h=>by cases h;simp [Value.oneCell']
 | .ref _ _ _,_,h=>by obtain ⟨v,rfl,h,_⟩:=h;simp [h]
 | .view _ _ _ _ _,_,h=>by obtain ⟨v,rfl,h,_⟩:=h;simp [h]
 | .bptr _ _,_,h=>by obtain ⟨v,rfl,h,_⟩:=h;simp [h]
 | .eptr _ _ _,_,h=>by obtain ⟨v,rfl,h,_⟩:=h;simp [h]
 | .mref _,_,h=>by obtain ⟨v,rfl,h,_⟩:=h;simp [h]
 | .nv _ _ _ _,_,h=>by obtain ⟨v,rfl,h,_⟩:=h;simp [h]
 | .clos _ _,_,h=>by obtain ⟨v,rfl,_⟩:=h;simp [Value.oneCell']
 | .ifc _ _,_,h=>by obtain ⟨v,cs',rfl,_⟩:=h;simp [Value.oneCell']
 | .agg c,_,h=>AOK.one (a:=c) h
 | .tup _,_,h=>h.elim
 | .pr a b,_,h=>by
  obtain ⟨c1,c2,rfl,h1,h2⟩:=h;intro v hv;rcases List.mem_append.1 hv with hv | hv
  ·exact AOK.one h1 v hv
  ·exact AOK.one h2 v hv
 | .un,_,h=>by cases h;simp
theorem Rep.noAgg {w:World} {g:Ghost} {t:Ty} {d:t.den} {cs:List Value} (h:Rep w g none t d cs) (ha:t.sk.isAgg=false):∃ v,cs=[v]:=by
 have hl:=h.len;have:t.size=1:=by cases t <;> simp [Ty.sk,Sk.isAgg] at ha <;> simp [Ty.size]
 rw [this] at hl;exact List.length_eq_one_iff.1 hl
theorem z28 {w:World} {g:Ghost} {objs:z2c} {av:AVal} {v:Value} (hv:av.val=true) (h:VOK w g objs av v):∃ cs,AOK w g objs av cs∧v=mkV av.isAgg cs∧v.cells.toList=cs:=by
 obtain ⟨hag,hn1,hn2,hn3⟩:=z2t hv;obtain ⟨cs,hok,hmk⟩:=z4y h hn3;refine ⟨cs,hok,hmk,?_⟩
 cases ha:av.isAgg with
 | true=>
  rw [ha] at hmk;simp only [mkV,if_true] at hmk
  rw [hmk];rfl
 | false=>
  rw [ha] at hmk;simp only [mkV,Bool.false_eq_true,if_false] at hmk;have hl:=hok.len;have:av.sk.size=1:=by
   rw [hag] at ha;cases hsk:av.sk <;> rw [hsk] at ha <;> simp [Sk.isAgg] at ha;rfl
  rw [this] at hl;obtain ⟨x,rfl⟩:=List.length_eq_one_iff.1 hl;have h1:=hok.one x (by simp);have hx:v=x:=hmk;subst hx;cases v <;> simp [Value.oneCell'] at h1 <;> rfl
end Go.Kz
namespace Go.Kz
variable {R:Type}
def z3a (g:Ghost) (b0 m:Nat) (tg:Tag) (v:Value):Ghost where
 tag:=fun b=>if b=b0 then tg else g.tag b
 sv:=fun i p=>if i=m then (if p=[] then v else .slice none 0 0) else g.sv i p
 blk:=fun i=>if i=m then b0 else g.blk i
section
variable {w:World} {g:Ghost} {σ:St} {o:Obj} {m:Nat} {tg:Tag} {v:Value}
theorem z7c (ht:∀ b,g.tag b≠.alien->b < w.heap.size) (ob:Go.Obj):RoKept w g (w.alloc ob) (z3a g w.heap.size m tg v):=
 ⟨fun b hb=>by
  have:=ht b (by rw [hb];simp);exact ⟨by simp only [z3a];rw [if_neg (by omega)];exact hb,heap_alloc_old w ob this⟩⟩
theorem z98 (ht:∀ b,g.tag b≠.alien->b < w.heap.size) (ob:Go.Obj) {id:Nat} (hid:id≠m):Same w g (w.alloc ob) (z3a g w.heap.size m tg v) id:=by
 refine ⟨⟨fun q=>by simp [z3a,hid],fun q b hb=>?_⟩,by simp [z3a,hid],fun hb=>?_⟩
 ·have:=ht b (by rw [hb];simp);exact ⟨by simp only [z3a];rw [if_neg (by omega)];exact hb,heap_alloc_old w ob this⟩
 ·have:=ht (g.blk id) (by rw [hb];simp);exact ⟨by simp only [z3a];rw [if_neg (by omega)];exact hb,heap_alloc_old w ob this⟩
theorem za1 (ht:∀ b,g.tag b≠.alien->b < w.heap.size) (ob:Go.Obj):Ext w g (w.alloc ob) (z3a g w.heap.size m tg v):=by
 refine ⟨rfl,rfl,rfl,Nat.le_refl _,by simp,fun b hb _=>⟨heap_alloc_old w ob hb,?_⟩⟩;simp only [z3a];rw [if_neg (by omega)]
theorem z0j {α:Type} (f:Nat->Option α) (i:Nat) (x:Option α):upd f i x i=x:=by simp [upd]
theorem z0k {α:Type} (f:Nat->Option α) {i j:Nat} (x:Option α) (h:j≠i):upd f i x j=f j:=by
 simp only [upd]
 cases hb:Nat.beq j i with
 | true=>exact absurd (zE hb) h
 | false=>rfl
theorem zfv (hh:HeapOK w g σ.objs) (ob:Go.Obj) {id:Nat} (hid:id≠m):z15 g (z3a g w.heap.size m tg v) id (σ.objs id) ((σ.setObj m o).objs id):=by
 simp only [St.setObj];rw [z0k _ _ hid];exact z15.same (z98 hh.tags ob hid)
theorem StOK.new {n:Nat} {a:Act} (hst:StOK n g w a σ) (hf:Fresh g σ m) (ob:Go.Obj) (htg:tg≠.alien)
  (hobj:z14 (w.alloc ob) (z3a g w.heap.size m tg v) (σ.setObj m o).objs m o):StOK n (z3a g w.heap.size m tg v) (w.alloc ob) a (σ.setObj m o):=by
 refine ⟨fun i av hi=>?_,⟨fun id x hx=>?_,fun b hb=>?_⟩,hst.size,hst.defers,hst.known.kept (z7c hst.heap.tags ob)⟩
 ·obtain ⟨u,hu,hok⟩:=hst.slots i av hi;refine ⟨u,hu,VOK.frame (z7c hst.heap.tags ob) (fun id hid=>zfv hst.heap ob ?_) hok⟩;intro he;subst he;exact hf.slots i av hi hid
 ·by_cases hid:id=m
  ·subst hid;simp only [St.setObj,z0j,zI] at hx;subst hx;exact hobj
  ·have hx':σ.objs id=some x:=by simpa [St.setObj,z0k _ _ hid] using hx
   refine z14.frame (z7c hst.heap.tags ob) (z98 hst.heap.tags ob hid) (fun y hy id' hid'=>zfv hst.heap ob ?_) (hst.heap.objs id x hx');intro he;subst he;subst hy;exact hf.cells id y hx' hid'
 ·simp only [z3a] at hb;split at hb
  ·rename_i he;subst he;simp
  ·have:=hst.heap.tags b hb;simp;omega
theorem Fresh.new {m':Nat} (hm:m'≠m) (hrow:∀ p,tg≠.row m' p) (hbox:tg≠.box m') (ho:∀ y,o = .cell y->m'∉y.ids) (hf:Fresh g σ m'):Fresh (z3a g w.heap.size m tg v) (σ.setObj m o) m':=by
 refine ⟨by simp only [St.setObj];rw [z0k _ _ hm];exact hf.objs,fun b p hb=>?_,fun b hb=>?_,hf.slots,fun id av hi=>?_⟩
 ·simp only [z3a] at hb;split at hb
  ·exact hrow p hb
  ·exact hf.row b p hb
 ·simp only [z3a] at hb;split at hb
  ·exact hbox hb
  ·exact hf.box b hb
 ·by_cases hid:id=m
  ·subst hid;simp only [St.setObj,z0j,zI] at hi;exact ho av hi
  ·simp only [St.setObj] at hi;rw [z0k _ _ hid] at hi;exact hf.cells id av hi
end
theorem z29 (n:Nat) (cs:List Value) (i:Nat) (h:i < n):seg (List.replicate n cs).flatten (i*cs.length) cs.length=cs:=by
 induction n generalizing i with
 | zero=>omega
 | succ n ih=>
  simp only [List.replicate_succ,List.flatten_cons]
  cases i with
  | zero=>
   simp only [Nat.zero_mul]
   rw [z1f _ _ _ _ (by omega),z6b]
  | succ i=>
   rw [Nat.add_mul,Nat.one_mul,Nat.add_comm];rw [z1g _ _ _ _ _ rfl];exact ih i (by omega)
theorem z1d (n:Nat) (cs:List Value):(List.replicate n cs).flatten.length=n*cs.length:=by
 induction n with
 | zero=>simp
 | succ n ih=>simp only [List.replicate_succ,List.flatten_cons,List.length_append,ih,Nat.add_mul];omega
theorem z16:(t:Ty)->(zeroCells t).length=t.size
 | .int _=>rfl
 | .bool=>rfl
 | .str=>rfl
 | .unit=>rfl
 | .pair a b=>by simp only [zeroCells,List.length_append,Ty.size,z16 a,z16 b]
 | .arr n t=>by rw [zeroCells,z1d,z16 t];rfl
 | .sl _ _=>rfl
 | .ptr _=>rfl
 | .fn f _=>by simp only [zeroCells];cases Nat.beq f 999983 <;> rfl
theorem z3w {w:World} {g:Ghost}:{t:Ty}->{d:t.den}->t.isRo=true->t.zero=some d->Rep w g none t d (zeroCells t)
 | .int k,d,_,h=>by
  simp only [Ty.zero,zI] at h;subst h;refine ⟨rfl,?_⟩
  cases k <;> simp [IntKind.min,IntKind.max,IntKind.bits,IntKind.signed]
 | .bool,d,_,h=>by simp only [Ty.zero,zI] at h;subst h;rfl
 | .str,d,_,h=>by
  simp only [Ty.zero,zI] at h;subst h
  exact ⟨ByteArray.empty,rfl,rfl,Nat.zero_le _⟩
 | .unit,d,_,h=>rfl
 | .pair a b,d,hr,h=>by
  simp only [Ty.zero] at h;simp only [Ty.isRo,zA] at hr;split at h
  ·rename_i x y hx hy;simp only [zI] at h;subst h;exact ⟨_,_,rfl,z3w hr.1 hx,z3w hr.2 hy⟩
  ·simp at h
 | .arr n t,d,hr,h=>by
  simp only [Ty.zero] at h;split at h
  ·rename_i x hx;simp only [zI] at h;subst h;have hrep:=z3w (w:=w) (g:=g) (by simpa [Ty.isRo] using hr) hx;refine ⟨by simp,by rw [zeroCells,z1d,z16],fun i hi=>?_⟩;have hi':i < n:=by simpa using hi
   simp only [List.get_eq_getElem,List.getElem_replicate,zeroCells];have:=z29 n (zeroCells t) i hi';rw [z16] at this;rw [this];exact hrep
  ·simp at h
 | .sl false t,d,_,h=>by
  simp only [Ty.zero,zI] at h;subst h
  exact ⟨none,0,rfl,Nat.le_refl _,Nat.zero_le _,fun hn=>absurd rfl hn⟩
 | .sl true t,d,hr,h=>by simp [Ty.isRo] at hr
 | .ptr _,_,_,h=>by simp [Ty.zero] at h
 | .fn _ _,_,_,h=>by simp [Ty.zero] at h
theorem z4p:{t:Ty}->t.noSl=true->t.isRo=true
 | .int _,_=>rfl
 | .bool,_=>rfl
 | .str,_=>rfl
 | .unit,_=>rfl
 | .pair a b,h=>by simp only [Ty.noSl,zA] at h;simp [Ty.isRo,z4p h.1,z4p h.2]
 | .arr _ t,h=>by simp only [Ty.noSl] at h;simp only [Ty.isRo];exact z4p h
 | .sl _ _,h=>by simp [Ty.noSl] at h
 | .ptr _,h=>by simp [Ty.noSl] at h
 | .fn _ _,h=>by simp [Ty.noSl] at h
theorem ztp (a b:Ty):zad (.pair a b)=(match Ty.zero (.pair a b),(Ty.pair a b).noSl with
  | some z,true=>some (.data (.pair a b) z)
  | _,_=>(zeb (.pair a b)).map .agg):=rfl
theorem zto (a b:Ty):zeb (.pair a b)=(match zad a,zeb b with
  | some x,some y=>some (.pr x y)
  | _,_=>none):=rfl
theorem zv3 (n:Nat) (t:Ty):zad (.arr n t)=(match Ty.zero (.arr n t),(Ty.arr n t).noSl with
  | some z,true=>some (.data (.arr n t) z)
  | _,_=>none):=by
 unfold zad z4e;simp only;split <;> split <;> simp_all
mutual
theorem zk8 {w:World} {g:Ghost} {objs:z2c}:{u:Ty}->{z:AVal}->zad u=some z->z.sk=u.sk∧z.ids=[]∧AOK w g objs z (zeroCells u)∧z.val=true
 | .sl o t,z,h=>by
  simp only [zad,z4e,zI] at h;subst h
  exact ⟨rfl,rfl,rfl,rfl⟩
 | .pair a b,z,h=>by
  rw [ztp] at h;split at h
  ·rename_i d h1 h2;simp only [zI] at h;subst h;have hr:=z4p h2;exact ⟨rfl,rfl,⟨hr,z3w hr h1⟩,rfl⟩
  ·simp only [Option.map_eq_some_iff] at h;obtain ⟨x,hx,rfl⟩:=h;obtain ⟨h1,h2,h3,h4⟩:=zrc (w:=w) (g:=g) (objs:=objs) hx
   exact ⟨h1,h2,h3,h4⟩
 | .int k,z,h=>by
  simp only [zad,z4e,Ty.zero,Ty.noSl,zI] at h;subst h
  exact ⟨rfl,rfl,⟨rfl,z3w rfl rfl⟩,rfl⟩
 | .bool,z,h=>by
  simp only [zad,z4e,Ty.zero,Ty.noSl,zI] at h;subst h
  exact ⟨rfl,rfl,⟨rfl,z3w rfl rfl⟩,rfl⟩
 | .str,z,h=>by
  simp only [zad,z4e,Ty.zero,Ty.noSl,zI] at h;subst h
  exact ⟨rfl,rfl,⟨rfl,z3w rfl rfl⟩,rfl⟩
 | .unit,z,h=>by
  simp only [zad,z4e,Ty.zero,Ty.noSl,zI] at h;subst h
  exact ⟨rfl,rfl,⟨rfl,z3w rfl rfl⟩,rfl⟩
 | .arr n t,z,h=>by
  rw [zv3] at h;split at h
  ·rename_i d h1 h2;simp only [zI] at h;subst h;have hr:=z4p h2;exact ⟨rfl,rfl,⟨hr,z3w hr h1⟩,rfl⟩
  ·simp at h
 | .ptr t,z,h=>by simp [zad,z4e,Ty.zero] at h
 | .fn f t,z,h=>by simp [zad,z4e,Ty.zero] at h
theorem zrc {w:World} {g:Ghost} {objs:z2c}:{u:Ty}->{z:AVal}->zeb u=some z->z.sk=u.sk∧z.ids=[]∧AOK w g objs z (zeroCells u)∧(AVal.agg z).val=true
 | .pair a b,z,h=>by
  rw [zto] at h;split at h
  ·rename_i x y hx hy;simp only [zI] at h;subst h;obtain ⟨h1,h2,h3,_⟩:=zk8 (w:=w) (g:=g) (objs:=objs) hx;obtain ⟨k1,k2,k3,_⟩:=zrc (w:=w) (g:=g) (objs:=objs) hy;exact ⟨by simp [AVal.sk,Ty.sk,h1,k1],by simp [AVal.ids,h2,k2],⟨_,_,rfl,h3,k3⟩,rfl⟩
  ·simp at h
 | .unit,z,h=>by
  simp only [zeb,z4e,zI] at h;subst h
  exact ⟨rfl,rfl,rfl,rfl⟩
 | .int _,_,h=>by simp [zeb,z4e] at h
 | .bool,_,h=>by simp [zeb,z4e] at h
 | .str,_,h=>by simp [zeb,z4e] at h
 | .arr _ _,_,h=>by simp [zeb,z4e] at h
 | .sl _ _,_,h=>by simp [zeb,z4e] at h
 | .ptr _,_,h=>by simp [zeb,z4e] at h
 | .fn _ _,_,h=>by simp [zeb,z4e] at h
end
theorem zyv {w:World} {g:Ghost} {objs:z2c} {id:Nat} {u:Ty} {z:AVal} (hid:∀ kt vt m,objs id≠some (.map kt vt m)) (h:zyw id u=some z):z.sk=u.sk∧(z.ids=[]∨z.ids=[id])∧AOK w g objs z (zeroCells u)∧z.val=true:=by
 cases u with
 | fn f c=>
  simp only [zyw,zI] at h;subst h;refine ⟨rfl,.inr rfl,?_,rfl⟩;simp only [zeroCells];cases Nat.beq f 999983
  ·exact ⟨_,rfl,rfl,fun kt vt m hm=>absurd hm (hid kt vt m)⟩
  ·exact ⟨_,rfl,rfl,fun kt vt m hm=>absurd hm (hid kt vt m)⟩
 | ptr t=>
  simp only [zyw,zI] at h;subst h
  exact ⟨rfl,.inr rfl,⟨_,rfl,rfl,fun kt vt m hm=>absurd hm (hid kt vt m)⟩,rfl⟩
 | _=>
  obtain ⟨h1,h2,h3,h4⟩:=zk8 (w:=w) (g:=g) (objs:=objs) h;exact ⟨h1,.inl h2,h3,h4⟩
section
variable {P:Program} {o:Oper} {a:Act} {w:World} {K:Act->World->Prop} {Q:Exit->Act->World->Prop} {c:Ctx} {σ:St} {g:Ghost} {k:St->Option R} {r:R} {base:Nat} {mo:Bool}
theorem zf6 {ob:Go.Obj} {obj:Obj} {tg:Tag} {v v':Value} {av:AVal} (hst:StOK c.ntmps g w a σ) (hf:Fresh g σ base) (htg:tg = .box base∨∃ p,tg = .row base p)
  (hrun:(execOp a.eval o).run P w = .ok (.value v') (w.alloc ob)) (hids:av.ids=[base])
  (hobj:z14 (w.alloc ob) (z3a g w.heap.size base tg v) (σ.setObj base obj).objs base obj)
  (hcell:∀ y,obj = .cell y->∀ m,m≠base->Fresh g σ m->m∉y.ids)
  (hv:VOK (w.alloc ob) (z3a g w.heap.size base tg v) (σ.setObj base obj).objs av v')
  (h:(σ.putK c o.dst av fun σ=>k (σ.setObj base obj))=some r) (hK:z79 c.ntmps k r g w σ base mo K):o.wp P a w K Q:=by
 have hne:tg≠.alien:=by rcases htg with rfl | ⟨p,rfl⟩ <;> simp
 have hst':=hst.new hf ob hne hobj;have hfr:∀ m,(m < base∨base+8≤m)->Fresh g σ m->Fresh (z3a g w.heap.size base tg v) (σ.setObj base obj) m:=by
  intro m hm hfm;have hmb:m≠base:=by omega
  refine Fresh.new hmb (fun p=>?_) ?_ (fun y hy=>hcell y hy m hmb hfm) hfm
  ·rcases htg with rfl | ⟨p',rfl⟩ <;> simp;exact fun h=>absurd h.symm hmb
  ·rcases htg with rfl | ⟨p',rfl⟩ <;> simp;exact fun h=>hmb h.symm
 unfold Oper.wp;rw [hrun,Oper.upon_value];rcases z6h h with ⟨hd,hk⟩ | ⟨i,hd,hi,hk⟩
 ·rw [hd];exact hK _ _ _ _ hk hst' (za1 hst.heap.tags ob) hfr rfl (fun _ b hb=>heap_alloc_old w ob hb)
 ·rw [hd];refine hK _ _ _ _ hk (show StOK c.ntmps _ _ _ ((σ.setObj base obj).set i av) from hst'.put hi hv) (za1 hst.heap.tags ob) (fun m hm hfm=>?_) rfl (fun _ b hb=>heap_alloc_old w ob hb);exact (hfr m hm hfm).set i (by rw [hids];simp;omega)
theorem zyx {ob:Go.Obj} {t:Ty} {d:t.den} {v':Value} {cs:List Value} {vx:Value} (hst:StOK c.ntmps g w a σ) (hf:Fresh g σ base)
  (hrun:(execOp a.eval o).run P w = .ok (.value v') (w.alloc ob)) (hro:t.isRo=true) (hrep:Rep (w.alloc ob) (z3a g w.heap.size base .ro vx) none t d cs) (hv:v'=mkV t.sk.isAgg cs)
  (h:σ.putK c o.dst (.data t d) k=some r) (hK:z79 c.ntmps k r g w σ base mo K):o.wp P a w K Q:=by
 have ht:=hst.heap.tags;have hsame:∀ i,i≠base->z15 g (z3a g w.heap.size base .ro vx) i (σ.objs i) (σ.objs i):=fun i hi=>z15.same (z98 ht ob hi)
 have hst':StOK c.ntmps (z3a g w.heap.size base .ro vx) (w.alloc ob) a σ:=by
  refine ⟨fun i av hi=>?_,⟨fun id x hx=>?_,fun b hb=>?_⟩,hst.size,hst.defers,hst.known.kept (z7c ht ob)⟩
  ·obtain ⟨u,hu,hok⟩:=hst.slots i av hi;refine ⟨u,hu,VOK.frame (z7c ht ob) (fun id hid=>hsame id ?_) hok⟩;intro he;subst he;exact hf.slots i av hi hid
  ·have hid:id≠base:=by intro he;subst he;have:=hf.objs;rw [hx] at this;simp at this
   refine z14.frame (z7c ht ob) (z98 ht ob hid) (fun y hy id' hid'=>hsame id' ?_) (hst.heap.objs id x hx);intro he;subst he;subst hy;exact hf.cells id y hx hid'
  ·simp only [z3a] at hb;split at hb
   ·rename_i he;subst he;simp
   ·have:=ht b hb;simp;omega
 have hfr:∀ m,(m < base∨base+8≤m)->Fresh g σ m->Fresh (z3a g w.heap.size base .ro vx) σ m:=by
  intro m hm hfm;refine ⟨hfm.objs,fun b p hb=>?_,fun b hb=>?_,hfm.slots,hfm.cells⟩
  ·simp only [z3a] at hb;split at hb
   ·simp at hb
   ·exact hfm.row b p hb
  ·simp only [z3a] at hb;split at hb
   ·simp at hb
   ·exact hfm.box b hb
 have hvok:VOK (w.alloc ob) (z3a g w.heap.size base .ro vx) σ.objs (.data t d) v':=by
  simp only [VOK];exact ⟨cs,⟨hro,hrep⟩,hv⟩
 unfold Oper.wp;rw [hrun,Oper.upon_value];rcases z6h h with ⟨hd,hk⟩ | ⟨i,hd,hi,hk⟩
 ·rw [hd];exact hK _ _ _ _ hk hst' (za1 ht ob) hfr rfl (fun _ b hb=>heap_alloc_old w ob hb)
 ·rw [hd];exact hK _ _ _ _ hk (hst'.put hi hvok) (za1 ht ob) (fun m hm hfm=>(hfr m hm hfm).set i (by simp [AVal.ids])) rfl (fun _ b hb=>heap_alloc_old w ob hb)
theorem zzy (htt:zbd P c.tt) {t:TypeId} (ho:o.op = .alloc t) (hst:StOK c.ntmps g w a σ) (hf:Fresh g σ base) (h:z1s c σ base o k=some r) (hK:z79 c.ntmps k r g w σ base mo K):o.wp P a w K Q:=by
 simp only [z1s,ho] at h;split at h
 ·rename_i z hz;simp only [Option.bind_eq_some_iff] at hz;obtain ⟨u,hu,hz⟩:=hz;have hT:=htt _ _ hu;obtain ⟨i,zv,hi1,hi2,_,hi4,hi5,_⟩:=hT.info.info;let g':=z3a g w.heap.size base (.box base) undef;let ob:Go.Obj:=.cells zv.cells t;have hz':=zyv (w:=w.alloc ob) (g:=g') (objs:=(σ.setObj base (.cell z)).objs) (id:=base) (fun kt vt m hm=>by simp [St.setObj,z0j] at hm) hz;refine zf6 (ob:=ob) (obj:=.cell z) (tg:=.box base) (v:=undef) (v':=.pointer (some ⟨w.heap.size,0,none⟩)) hst hf (.inl rfl) ?_ rfl ?_ ?_ ?_ h hK
  ·simp only [execOp,ho];simp [Instr.alloc,zeroValue,typeInfo,hi1,hi4,newVar,newRow];rfl
  ·refine z14.mk ⟨zv.cells,t,?_,?_,?_⟩
   ·have hb:(z3a g w.heap.size base (.box base) undef).blk base=w.heap.size:=by simp [z3a]
    rw [hb];exact heap_alloc_new w _
   ·simp [z3a]
   ·rw [hi5];exact hz'.2.2.1
  ·intro y hy m hm _;simp only [Obj.cell.injEq] at hy;subst hy;rcases hz'.2.1 with h1 | h1 <;> rw [h1] <;> simp [hm]
  ·simp only [VOK];refine ⟨_,⟨_,rfl,rfl,fun x _=>?_⟩,rfl⟩;refine ⟨0,x.sk,by simp [Sk.off],?_⟩;simp [z3a]
 ·simp at h
theorem op_box {t:TypeId} {x:Operand} (ho:o.op = .box t x) (hst:StOK c.ntmps g w a σ) (hf:Fresh g σ base) (h:z1s c σ base o k=some r) (hK:z79 c.ntmps k r g w σ base mo K):o.wp P a w K Q:=by
 simp only [z1s,ho] at h;split at h
 ·rename_i av hav;obtain ⟨ex,ef⟩:=z24 hst hav
  cases hb:av.val with
  | false=>rw [hb] at h;simp at h
  | true=>
   rw [hb] at h;simp only [cond_true] at h;obtain ⟨cs,hok,hmk,hcells⟩:=z28 hb ex;let ob:Go.Obj:=.cells (a.eval x).cells t;refine zf6 (ob:=ob) (obj:=.cell av) (tg:=.box base) (v:=undef) (v':=.pointer (some ⟨w.heap.size,0,none⟩)) hst hf (.inl rfl) ?_ rfl ?_ ?_ ?_ h hK
   ·simp only [execOp,ho];simp [Instr.box,newVar,newRow];rfl
   ·refine z14.mk ⟨(a.eval x).cells,t,?_,?_,?_⟩
    ·have hb:(z3a g w.heap.size base (.box base) undef).blk base=w.heap.size:=by simp [z3a]
     rw [hb];exact heap_alloc_new w _
    ·simp [z3a]
    ·rw [hcells];refine AOK.frame (z7c hst.heap.tags ob) (fun id hid=>zfv hst.heap ob ?_) hok;intro he;subst he;exact ef _ hf hid
   ·intro y hy m _ hm;simp only [Obj.cell.injEq] at hy;subst hy;exact ef m hm
   ·simp only [VOK];refine ⟨_,⟨_,rfl,rfl,fun y _=>?_⟩,rfl⟩;refine ⟨0,y.sk,by simp [Sk.off],?_⟩;simp [z3a]
 ·simp at h
end
end Go.Kz
namespace Go.Kz
variable {R:Type}
theorem zar:(css:List (List Value))->(n:Nat)->(∀ cs∈css,cs.length=n)->(i:Nat)->(h:i < css.length)->seg css.flatten (i*n) n=css.get ⟨i,h⟩
 | cs :: css,n,hl,0,_=>by
  have h0:=hl cs (by simp);simp only [List.flatten_cons,Nat.zero_mul,List.get]
  rw [z1f _ _ _ _ (by omega),←h0,z6b]
 | cs :: css,n,hl,i+1,h=>by
  have h0:=hl cs (by simp);simp only [List.flatten_cons];rw [Nat.add_mul,Nat.one_mul,Nat.add_comm (i*n) n,z1g _ _ _ _ _ h0.symm];have:=zar css n (fun cs hcs=>hl cs (by simp [hcs])) i (by simpa using h);simpa using this
theorem z5j:(css:List (List Value))->(n:Nat)->(∀ cs∈css,cs.length=n)->css.flatten.length=css.length*n
 | [],n,_=>by simp
 | cs :: css,n,hl=>by
  have h0:=hl cs (by simp);have:=z5j css n (fun cs hcs=>hl cs (by simp [hcs]));simp only [List.flatten_cons,List.length_append,this,h0,List.length_cons,Nat.add_mul];omega
theorem z7e (z:Array Value) (n:Nat) (hz:0 < z.size):(madeCells z (n*z.size)).toList=(List.replicate n z.toList).flatten:=by
 have hlen:(List.replicate n z.toList).flatten.length=n*z.size:=by rw [z1d,Array.length_toList]
 apply List.ext_getElem
 ·rw [hlen,Array.length_toList,size_madeCells]
 ·intro i h1 h2;rw [hlen] at h2;have hi:i / z.size < n:=Nat.div_lt_of_lt_mul (by rw [Nat.mul_comm];exact h2);have hm:=Nat.mod_lt i hz;have hs:=z29 n z.toList (i / z.size) hi;rw [Array.length_toList] at hs;have hdm:=Nat.div_add_mod i z.size;have e:(List.replicate n z.toList).flatten[i]? = z.toList[i % z.size]? := by
   have:=congrArg (fun l=>l[i % z.size]?) hs;simp only [seg,List.getElem?_take,List.getElem?_drop,hm,if_true] at this;rw [Nat.mul_comm (i / z.size) z.size,hdm] at this;exact this
  have e2:(madeCells z (n*z.size)).toList[i]=z[i % z.size]:=by
   simp [madeCells,hm]
  have h3:i < (List.replicate n z.toList).flatten.length:=by rw [hlen];exact h2
  rw [List.getElem?_eq_getElem h3] at e;rw [e2];have h4:i % z.size < z.toList.length:=by rw [Array.length_toList];exact hm
  rw [List.getElem?_eq_getElem h4] at e;simp only [zI] at e;rw [e];simp
theorem zek {P:Program} {c:Ctx} (htt:zbd P c.tt) {d:Option Nat} {t:TypeId} {o:Bool} {u:Ty} (h:ztr c d t=some (.sl o u)) :
  ∃ E v,P.underlying t=some (.slice E)∧z2j P v E∧v.ro=u.ro:=by
 unfold ztr at h;split at h
 ·rename_i u' hd;split at h
  ·rename_i v hv;split at h
   ·rename_i hs _;simp only [zI] at h;subst h;have hT:=htt _ _ hv;have he:=hs.down
    cases v with
    | sl o' v=>
     simp only [z2j] at hT;obtain ⟨⟨E,h1,h2⟩,_⟩:=hT;simp only [Ty.ro,Ty.sl.injEq,true_and] at he
     exact ⟨E,v,h1,h2,he.symm⟩
    | _=>simp [Ty.ro] at he
   ·simp at h
  ·simp at h
 ·have hT:=htt _ _ h;simp only [z2j] at hT;obtain ⟨⟨E,h1,h2⟩,_⟩:=hT;exact ⟨E,u,h1,h2,rfl⟩
theorem z5l:(t:Ty)->zeroCells t.ro=zeroCells t
 | .int _=>rfl
 | .bool=>rfl
 | .str=>rfl
 | .unit=>rfl
 | .pair a b=>by simp only [Ty.ro,zeroCells,z5l a,z5l b]
 | .arr _ t=>by simp only [Ty.ro,zeroCells,z5l t]
 | .sl _ _=>rfl
 | .ptr _=>rfl
 | .fn _ _=>rfl
theorem InfoOK.congr {P:Program} {T:TypeId} {u v:Ty} (h:InfoOK P T v) (e:v.ro=u.ro):InfoOK P T u:=by
 obtain ⟨i,z,h1,h2,h3,h4,h5,h6⟩:=h.info;have hs:v.size=u.size:=by rw [←Ty.size_ro v,←Ty.size_ro u,e]
 have hz:zeroCells v=zeroCells u:=by rw [←z5l v,←z5l u,e]
 exact ⟨⟨i,z,h1,h2.trans hs,h3,h4,h5.trans hz,h6⟩⟩
section
variable {P:Program} {o:Oper} {a:Act} {w:World} {K:Act->World->Prop} {Q:Exit->Act->World->Prop} {c:Ctx} {σ:St} {g:Ghost} {k:St->Option R} {r:R} {base:Nat} {mo:Bool}
theorem zq2 {u:Ty} {l:List u.den} {cells:Array Value} {e:TypeId} {cap:Nat} (ht:∀ b,g.tag b≠.alien->b < w.heap.size) (hu:u.isRo=true)
  (hc:l.length≤cap) (hm:cap≤maxLen) (hs:cap*u.size≤cells.size)
  (hel:∀ (i:Nat) (h:i < l.length),Rep w g none u (l.get ⟨i,h⟩) (seg cells.toList (i*u.size) u.size)) (objs:z2c) (ep:Nat) :
  z14 (w.alloc (.cells cells e)) (z3a g w.heap.size base (.row base []) (.slice (some ⟨w.heap.size,0,none⟩) l.length cap)) objs base (.row u l ep):=by
 refine ⟨hu,some ⟨w.heap.size,0,none⟩,cap,by simp [z3a],by simp [z3a],hc,hm,.inr ⟨w.heap.size,0,cells,e,rfl,by simp [z3a],heap_alloc_new w _,by omega,fun i hi=>?_⟩⟩;rw [Nat.zero_add];exact Rep.anyOwn hu ((hel i hi).kept (z7c ht _))
theorem zho {objs:z2c} {u:Ty} {l:List u.den} {v:Value} {b0:Nat} (ho:objs base=some (.row u l 0)) (hone:v.oneCell'=true) :
  VOK w (z3a g b0 base (.row base []) v) objs (.ref base [] 0) v:=by
 simp only [VOK];refine ⟨_,⟨v,rfl,hone,fun t l' e hx=>?_⟩,rfl⟩;rw [ho] at hx;simp only [zI,Obj.row.injEq] at hx;obtain ⟨_,_,rfl⟩:=hx;exact ⟨Nat.le_refl _,fun _=>by simp [z3a]⟩
theorem zl4 {t E:TypeId} {u:Ty} {z:u.den} (hund:P.underlying t=some (.slice E)) (hinf:InfoOK P E u) (hu:u.isRo=true) (hz:u.zero=some z) (ht:∀ b,g.tag b≠.alien->b < w.heap.size)
  (kl kc:IntKind) (l m:Int) (hl0:0≤l) (hlm:l≤m) (hroom:m≤4294967296) (objs:z2c) :
  ∃ cells,(Instr.makeSlice t (.int kl l) (.int kc m)).run P w = .ok (.slice (some ⟨w.heap.size,0,none⟩) l.toNat m.toNat) (w.alloc (.cells cells E))∧
   z14 (w.alloc (.cells cells E)) (z3a g w.heap.size base (.row base []) (.slice (some ⟨w.heap.size,0,none⟩) l.toNat m.toNat)) objs base (.row u (List.replicate l.toNat z) 0):=by
 obtain ⟨i,zv,hi1,hi2,hi3,hi4,hi5,hi6⟩:=hinf.info;have hbytes:(i.bytes:Int)*m≤281474976710656:=by
  have h1:(i.bytes:Int)≤32768:=by omega
  have h2:(i.bytes:Int)*m≤32768*m:=Int.mul_le_mul_of_nonneg_right h1 (by omega);omega
 have hrun:=run_make (P:=P) w t E i zv hund hi1 hi4 kl kc l m hl0 hlm hbytes (by omega);have hzs:zv.cells.size=u.size:=by rw [←Array.length_toList,hi5,z16]
 have hcells:(madeCells zv.cells (m.toNat*i.size)).toList=(List.replicate m.toNat (zeroCells u)).flatten:=by
  rw [hi2,←hzs,z7e _ _ (by rw [hzs,←hi2];exact hi6),hi5]
 have hlen:(List.replicate l.toNat z).length=l.toNat:=by simp
 have hobj:z14 (w.alloc (.cells (madeCells zv.cells (m.toNat*i.size)) E)) (z3a g w.heap.size base (.row base []) (.slice (some ⟨w.heap.size,0,none⟩) (List.replicate l.toNat z).length m.toNat)) objs base (.row u (List.replicate l.toNat z) 0):=by
  refine zq2 ht hu ?_ ?_ ?_ (fun j hj=>?_) _ _
  ·rw [hlen];omega
  ·unfold maxLen;omega
  ·rw [size_madeCells,hi2];exact Nat.le_refl _
  ·rw [hcells];have hj':j < l.toNat:=by rw [←hlen];exact hj
   have:=z29 m.toNat (zeroCells u) j (by omega);rw [z16] at this;rw [this];simp only [List.get_eq_getElem,List.getElem_replicate];exact z3w hu hz
 rw [hlen] at hobj;exact ⟨_,hrun,hobj⟩
theorem zzg {u:Ty} (h:zzh u=true):∃ v,u = .sl true v:=by
 unfold zzh at h;split at h
 ·exact ⟨_,rfl⟩
 ·simp at h
theorem zhy {t E:TypeId} {v:Ty} (hund:P.underlying t=some (.slice E)) (hinf:InfoOK P E (.sl true v))
  (kl kc:IntKind) (l m:Int) (hl0:0≤l) (hlm:l≤m) (hroom:m≤4294967296) (objs:z2c) :
  ∃ cells,(Instr.makeSlice t (.int kl l) (.int kc m)).run P w = .ok (.slice (some ⟨w.heap.size,0,none⟩) l.toNat m.toNat) (w.alloc (.cells cells E))∧
   z14 (w.alloc (.cells cells E)) (z3a g w.heap.size base (.row base []) (.slice (some ⟨w.heap.size,0,none⟩) l.toNat m.toNat)) objs base (.nest (.sl true v) (List.replicate l.toNat ([]:List v.den)) 0 0 none):=by
 obtain ⟨i,zv,hi1,hi2,hi3,hi4,hi5,hi6⟩:=hinf.info;have hbytes:(i.bytes:Int)*m≤281474976710656:=by
  have h1:(i.bytes:Int)≤32768:=by omega
  have h2:(i.bytes:Int)*m≤32768*m:=Int.mul_le_mul_of_nonneg_right h1 (by omega);omega
 have hrun:=run_make (P:=P) w t E i zv hund hi1 hi4 kl kc l m hl0 hlm hbytes (by omega);have hzs:zv.cells.size=1:=by rw [←Array.length_toList,hi5];rfl
 have hi2':i.size=1:=hi2;have hcells:(madeCells zv.cells (m.toNat*i.size)).toList=(List.replicate m.toNat (zeroCells (.sl true v))).flatten:=by
  rw [hi2',←hzs,z7e _ _ (by rw [hzs];omega),hi5]
 have hlen:(List.replicate l.toNat ([]:List v.den)).length=l.toNat:=by simp
 refine ⟨_,hrun,?_⟩;show Rep _ _ (some (base,[])) (.sl true (.sl true v)) (List.replicate l.toNat ([]:List v.den)) _;refine ⟨some ⟨w.heap.size,0,none⟩,m.toNat,by rw [hlen];simp [z3a],by rw [hlen];simp [z3a],by rw [hlen];omega,by unfold maxLen;omega,.inr ⟨w.heap.size,0,_,E,rfl,by simp [z3a],heap_alloc_new w _,?_,fun j hj=>?_⟩⟩
 ·rw [size_madeCells,hi2'];simp [Ty.size]
 ·have hj':j < l.toNat:=by rw [←hlen];exact hj
  rw [hcells];have:=z29 m.toNat (zeroCells (.sl true v)) j (by omega);rw [z16] at this;rw [Nat.zero_add,this];have hget:(List.replicate l.toNat ([]:List v.den)).get ⟨j,hj⟩=[]:=by simp
  show Rep _ _ (some (base,[]++[Step.idx (j:Int)])) (.sl true v) ((List.replicate l.toNat ([]:List v.den)).get ⟨j,hj⟩) _;rw [hget];exact ⟨none,0,rfl,by simp [z3a],Nat.le_refl _,Nat.zero_le _,.inl ⟨rfl,rfl,rfl⟩⟩
theorem zph {objs:z2c} {u:Ty} {l:List u.den} {v:Value} {b0:Nat} (ho:objs base=some (.nest u l 0 0 none)) (hone:v.oneCell'=true) :
  VOK w (z3a g b0 base (.row base []) v) objs (.nv false base [] 0) v:=by
 simp only [VOK];refine ⟨_,⟨v,rfl,hone,fun t l' e i h hx=>?_⟩,rfl⟩;rw [ho] at hx;simp only [zI,Obj.nest.injEq] at hx;obtain ⟨_,_,rfl,rfl,_⟩:=hx;exact ⟨Nat.le_refl _,fun _=>⟨fun _=>by simp [z3a],fun h=>(by simp at h)⟩⟩
theorem zn2 (htt:zbd P c.tt) {t:TypeId} {x y:Operand} (ho:o.op = .makeSlice t x y) (hst:StOK c.ntmps g w a σ) (hf:Fresh g σ base) (h:z1s c σ base o k=some r) (hK:z79 c.ntmps k r g w σ base mo K):o.wp P a w K Q:=by
 simp only [z1s,ho] at h;split at h
 ·rename_i ow u htu;split at h
  ·rename_i z kl l kc m hz hx hy
   cases hu:u.isRo with
   | false=>
    rw [hu] at h;simp only [cond_false] at h
    cases hr:zzh u with
    | false=>rw [hr] at h;simp at h
    | true=>
     rw [hr] at h;simp only [cond_true] at h;obtain ⟨v',rfl⟩:=zzg hr;obtain ⟨hb,h⟩:=z1x h;simp only [zA,decide_eq_true_eq] at hb;obtain ⟨⟨hl0,hlm⟩,hroom⟩:=hb;obtain ⟨E,v,hund,hv,hvu⟩:=zek htt htu;have hinf:InfoOK P E (.sl true v'):=hv.info.congr hvu;obtain ⟨vx,_⟩:=z3k (z24 hst hx).1;obtain ⟨vy,_⟩:=z3k (z24 hst hy).1
     ·simp only [Ty.zero,zI] at hz;subst hz;obtain ⟨cells,hrun,hobj⟩:=zhy (P:=P) (base:=base) (w:=w) (g:=g) hund hinf kl kc l m hl0 hlm hroom (σ.setObj base (.nest (.sl true v') (List.replicate l.toNat ([]:List v'.den)) 0 0 none)).objs;refine zf6 (tg:=.row base []) hst hf (.inr ⟨[],rfl⟩) ?_ rfl hobj (fun y hy=>by simp at hy) (zph (u:=.sl true v') (l:=List.replicate (Int.toNat l) ([]:List v'.den)) (by simp [St.setObj,z0j]) rfl) h hK;simp only [execOp,ho,vx,vy]
      simp [hrun]
   | true=>
    rw [hu] at h;simp only [cond_true] at h;obtain ⟨hb,h⟩:=z1x h;simp only [zA,decide_eq_true_eq] at hb;obtain ⟨⟨hl0,hlm⟩,hroom⟩:=hb;obtain ⟨E,v,hund,hv,hvu⟩:=zek htt htu;have hinf:InfoOK P E u:=hv.info.congr hvu;obtain ⟨vx,_⟩:=z3k (z24 hst hx).1;obtain ⟨vy,_⟩:=z3k (z24 hst hy).1;obtain ⟨cells,hrun,hobj⟩:=zl4 (P:=P) (base:=base) hund hinf hu hz hst.heap.tags kl kc l m hl0 hlm hroom (σ.setObj base (.row u (List.replicate l.toNat z) 0)).objs;refine zf6 (tg:=.row base []) hst hf (.inr ⟨[],rfl⟩) ?_ rfl hobj (fun y hy=>by simp at hy) (zho (u:=u) (l:=List.replicate (Int.toNat l) z) (by simp [St.setObj,z0j]) rfl) h hK;simp only [execOp,ho,vx,vy];simp [hrun]
  ·simp at h
 ·simp at h
theorem zlb (off:Nat):(l:List Value)->(j0:Nat)->(cells:Array Value)->off+j0+l.length≤cells.size->
  ((l.zipIdx j0).foldl (fun cs (x:Value×Nat)=>cs.setIfInBounds (off+x.2) x.1) cells).toList=z0f cells.toList (off+j0) l
 | [],j0,cells,_=>by simp [z0f]
 | x :: l,j0,cells,h=>by
  simp only [List.length_cons] at h;simp only [List.zipIdx_cons,List.foldl_cons];rw [zlb off l (j0+1) _ (by rw [Array.size_setIfInBounds];omega)];simp only [z0f,Array.toList_setIfInBounds,List.length_cons];have e1:(cells.toList.set (off+j0) x).take (off+(j0+1))=cells.toList.take (off+j0)++[x]:=by
   rw [←Nat.add_assoc,List.take_succ_eq_append_getElem (by simp;omega)];simp [List.take_set_of_le]
  have e2:(cells.toList.set (off+j0) x).drop (off+(j0+1)+l.length)=cells.toList.drop (off+j0+(l.length+1)):=by
   rw [List.drop_set_of_lt (by omega)];congr 1;omega
  rw [e1,e2];simp
theorem zld {size:Nat}:(vs:List Value)->(j:Nat)->(cells:Array Value)->(∀ v∈vs,v.cells.size=size)->(j+vs.length)*size≤cells.size->
  ∃ cells',Instr.fill (fun i=>some (i*size,size)) cells (z09 j vs)=some cells'∧
   cells'.toList=cells.toList.take (j*size)++(vs.map (·.cells.toList)).flatten++cells.toList.drop ((j+vs.length)*size)
 | [],j,cells,_,h=>⟨cells,rfl,by simp⟩
 | v :: vs,j,cells,hv,h=>by
  have h0:=hv v (by simp);simp only [List.length_cons] at h;have hmul:(j+(vs.length+1))*size=j*size+size+vs.length*size:=by rw [Nat.add_mul,Nat.add_mul];omega
  have hmul2:(j+1+vs.length)*size=j*size+size+vs.length*size:=by rw [Nat.add_mul,Nat.add_mul];omega
  have hfold:=zlb (j*size) v.cells.toList 0 cells (by rw [Array.length_toList,h0];omega);let cells2:Array Value:=(v.cells.toList.zipIdx 0).foldl (fun cs (x:Value×Nat)=>cs.setIfInBounds (j*size+x.2) x.1) cells;have hc2:cells2.toList=z0f cells.toList (j*size) v.cells.toList:=hfold;have hsz2:cells2.size=cells.size:=by
   rw [←Array.length_toList,hc2,z1u _ _ _ (by rw [Array.length_toList,Array.length_toList,h0];omega),Array.length_toList]
  obtain ⟨cells',h1,h2⟩:=zld vs (j+1) cells2 (fun u hu=>hv u (by simp [hu])) (by rw [hsz2,hmul2];omega);refine ⟨cells',?_,?_⟩
  ·simp only [z09,Instr.fill];rw [if_neg (by simp [h0];omega)];rw [←h1];congr 1;show v.cells.zipIdx.foldl _ cells=cells2;rw [←Array.foldl_toList,Array.toList_zipIdx]
  ·rw [h2,hc2];have hvl:v.cells.toList.length=size:=by rw [Array.length_toList,h0]
   have e1:(z0f cells.toList (j*size) v.cells.toList).take ((j+1)*size)=cells.toList.take (j*size)++v.cells.toList:=by
    simp only [z0f];rw [List.take_append_of_le_length (by simp [hvl];rw [Nat.add_mul];omega)];rw [List.take_of_length_le (by simp [hvl];rw [Nat.add_mul];omega)]
   have e2:(z0f cells.toList (j*size) v.cells.toList).drop ((j+1+vs.length)*size)=cells.toList.drop ((j+(vs.length+1))*size):=by
    obtain ⟨q,hq⟩:∃ q,(j+1+vs.length)*size=(j*size+size)+q:=⟨vs.length*size,hmul2⟩;have hq2:(j+(vs.length+1))*size=j*size+size+q:=by rw [hmul];rw [hmul2] at hq;omega
    rw [hq,hq2];simp only [z0f];rw [List.drop_append,List.drop_eq_nil_of_le (by simp [hvl];omega),List.nil_append,List.drop_drop];congr 1;simp [hvl];omega
   rw [e1,e2];simp [List.append_assoc]
theorem zrx {u:Ty} (hu:u.isRo=true):{l:List (Nat×Operand)}->{σ:St}->{g:Ghost}->{k:List u.den->St->Option R}->{r:R}->{n:Nat}->
  StOK n g w a σ->zmz σ u l k=some r->
  ∃ ds σ' g' css,k ds σ'=some r∧σ'.slots=σ.slots∧σ'.next=σ.next∧Shrunk g σ.objs g' σ'.objs∧ds.length=l.length∧
   l.map (fun x=>(a.eval x.2).cells.toList)=css∧(∀ cs∈css,cs.length=u.size)∧
   ∀ (i:Nat) (h:i < ds.length) (h':i < css.length),Rep w g' none u (ds.get ⟨i,h⟩) (css.get ⟨i,h'⟩)
 | [],σ,g,k,r,n,hst,h=>⟨[],σ,g,[],h,rfl,rfl,.refl _ _,rfl,rfl,by simp,fun i h=>by simp at h⟩
 | (j,x) :: l,σ,g,k,r,n,hst,h=>by
  simp only [zmz] at h;split at h
  ·rename_i av hav;obtain ⟨ex,ef⟩:=z24 hst hav
   cases hb:av.val with
   | false=>rw [hb] at h;simp at h
   | true=>
    rw [hb] at h;simp only [cond_true] at h;obtain ⟨cs,hok,hmk,hcells⟩:=z28 hb ex;obtain ⟨d,σ1,g1,hk,h1,h2,h3,hrep⟩:=z5v 20 hst.heap hok hu h;obtain ⟨ds,σ2,g2,css,hk2,h4,h5,h6,h7,h8,h9,h10⟩:=zrx hu (h3.st h1 hst) hk;refine ⟨d :: ds,σ2,g2,cs :: css,hk2,h4.trans h1,h5.trans h2,h3.trans h6,by simp [h7],?_,?_,?_⟩
    ·simp only [List.map_cons,hcells,h8]
    ·intro c hc;rcases List.mem_cons.1 hc with rfl | hc
     ·exact hrep.len
     ·exact h9 c hc
    ·intro i hi hi'
     cases i with
     | zero=>exact hrep.kept (h6.ro w)
     | succ i=>exact h10 i (by simpa using hi) (by simpa using hi')
  ·simp at h
theorem z4a:{l:List (Nat×Operand)}->{j:Nat}->z8j j l=true->(f:Operand->Value)->l.map (fun x=>(x.1,f x.2))=z09 j (l.map fun x=>f x.2)
 | [],_,_,_=>rfl
 | (i,x) :: l,j,h,f=>by
  simp only [z8j,zA] at h;have he:=zE h.1;simp only [List.map_cons,z09,z4a h.2 f,he]
theorem zkx (htt:zbd P c.tt) {t:TypeId} {len:Nat} {ps:Array (Nat×Operand)} (ho:o.op = .buildSlice t len ps) (hst:StOK c.ntmps g w a σ) (hf:Fresh g σ base)
  (hnest:∀ ow u,ztr c o.dst t=some (.sl ow u)->ze2 u=true->len*u.size≤100000->zqg c σ base o.dst u len ps.toList k=some r->o.wp P a w K Q)
  (h:z1s c σ base o k=some r) (hK:z79 c.ntmps k r g w σ base mo K):o.wp P a w K Q:=by
 simp only [z1s,ho] at h;split at h
 ·rename_i ow u htu
  cases hb:(u.isRo && z8j 0 ps.toList && Nat.beq ps.toList.length len && Nat.ble (len*u.size) 100000) with
  | false=>
   rw [hb] at h;simp only [cond_false] at h
   cases hb2:(ze2 u && Nat.ble (len*u.size) 100000) with
   | false=>rw [hb2] at h;simp at h
   | true=>
    rw [hb2] at h;simp only [zA] at hb2
    exact hnest ow u htu hb2.1 (zL hb2.2) h
  | true=>
   rw [hb] at h;simp only [cond_true] at h;simp only [zA] at hb;obtain ⟨⟨⟨hu,hin⟩,hlen⟩,hbig⟩:=hb;have hlen:=zE hlen;have hbig:=zL hbig;obtain ⟨E,v,hund,hv,hvu⟩:=zek htt htu;have hinf:InfoOK P E u:=hv.info.congr hvu;obtain ⟨i,zv,hi1,hi2,hi3,hi4,hi5,hi6⟩:=hinf.info;obtain ⟨ds,σ1,g1,css,hk,h1,h2,h3,h4,h5,h6,h7⟩:=zrx hu hst h;have hst1:=h3.st h1 hst;have hf1:=h3.fresh h1 hf;let vs:List Value:=ps.toList.map fun x=>a.eval x.2
   have hvs:∀ v∈vs,v.cells.size=u.size:=by
    intro v hv;obtain ⟨x,hx,rfl⟩:=List.mem_map.1 hv;rw [←Array.length_toList];exact h6 _ (by rw [←h5];exact List.mem_map.2 ⟨x,hx,rfl⟩)
   have hvl:vs.length=len:=by simp [vs];rw [←hlen];simp
   let zeros:Array Value:=(Array.range (len*i.size)).map (zv.cells[· % zv.cells.size]!);let zeros0:Array Value:=(Array.range (len*i.size)).map ((#[]:Array Value)[· % (#[]:Array Value).size]!);have hzsz:zeros.size=len*u.size:=by simp [zeros,hi2]
   obtain ⟨cells,hfill,hcl⟩:=zld vs 0 zeros hvs (by rw [hzsz,Nat.zero_add,hvl];exact Nat.le_refl _);have hcl':cells.toList=css.flatten:=by
    rw [hcl];simp only [Nat.zero_mul,List.take_zero,List.nil_append,Nat.zero_add,hvl];rw [List.drop_eq_nil_of_le (by rw [Array.length_toList,hzsz];exact Nat.le_refl _),List.append_nil];rw [←h5];simp [vs];rfl
   have hcssl:css.length=len:=by rw [←h5];simp [←hlen]
   have hnum:ps.toList.map (fun x=>(x.1,a.eval x.2))=z09 0 vs:=z4a hin a.eval;have hrun:(Instr.buildSlice t len (ps.map fun x=>(x.1,a.eval x.2))).run P w = .ok (.slice (some ⟨w.heap.size,0,none⟩) len len) (w.alloc (.cells cells E)):=by
    have hnb:¬ (2 ^ 24 < len*i.size):=by rw [hi2];omega
    unfold Instr.buildSlice;simp only [Sem.run_bind,run_underlying hund,Result.andThen_ok];by_cases hz:len*i.size=0
    ·have hl0:len=0:=by
      rcases Nat.mul_eq_zero.1 hz with h0 | h0
      ·exact h0
      ·omega
     have hps:ps = #[]:=by apply Array.toList_inj.1;exact List.eq_nil_of_length_eq_zero (hlen.trans hl0)
     have hc0:cells.toList=[]:=by
      rw [hcl',List.eq_nil_of_length_eq_zero (hcssl.trans hl0)];rfl
     have hc0':cells = #[]:=by apply Array.toList_inj.1;rw [hc0]
     simp [Go.sizeOf,typeInfo,hi1,hl0,hps,Instr.fill,newRow,hc0',Array.range_zero']
    ·have hfill':=hfill;simp only [zeros] at hfill';rw [←hi2] at hfill';simp [Go.sizeOf,typeInfo,hi1,hnb,hz,zeroValue,hi4,hnum,hfill',newRow]
   have hobj:z14 (w.alloc (.cells cells E)) (z3a g1 w.heap.size base (.row base []) (.slice (some ⟨w.heap.size,0,none⟩) ds.length len)) (σ1.setObj base (.row u ds 0)).objs base (.row u ds 0):=by
    refine zq2 hst1.heap.tags hu ?_ ?_ ?_ (fun j hj=>?_) _ _
    ·rw [h4,hlen];exact Nat.le_refl _
    ·have:len*1≤len*u.size:=Nat.mul_le_mul_left _ (by omega);unfold maxLen;omega
    ·rw [←Array.length_toList,hcl',z5j css u.size h6,hcssl];exact Nat.le_refl _
    ·rw [hcl',zar css u.size h6 j (by rw [hcssl,←hlen,←h4];exact hj)];exact h7 j hj _
   have hdl:ds.length=len:=h4.trans hlen;rw [hdl] at hobj;have hK1:z79 c.ntmps k r g1 w σ1 base mo K:=by
    intro σ' g' a' w' hk' hst' hext hfr hnext hag;exact hK σ' g' a' w' hk' hst' (h3.ext.trans hext) (fun m hm hfm=>hfr m hm (h3.fresh h1 hfm)) (hnext.trans h2) hag
   cases hfz:froz c o.dst with
   | true=>
    rw [hfz] at hk;simp only [cond_true] at hk;obtain ⟨_,a',cap',hcs',_,hlc',hcm',hrow'⟩:=hobj;have hrep:Rep (w.alloc (.cells cells E)) (z3a g1 w.heap.size base .ro (.slice (some ⟨w.heap.size,0,none⟩) len len)) none (.sl false u) ds [.slice (some ⟨w.heap.size,0,none⟩) len len]:=by
     refine ⟨some ⟨w.heap.size,0,none⟩,len,by rw [hdl],by rw [hdl];exact Nat.le_refl _,?_,fun hne=>⟨w.heap.size,0,cells,E,(0,0),rfl,by simp [z3a],heap_alloc_new w _,?_,fun j hj=>?_⟩⟩
     ·have:len*1≤len*u.size:=Nat.mul_le_mul_left _ (by omega);unfold maxLen;omega
     ·rw [hdl,←Array.length_toList,hcl',z5j css u.size h6,hcssl,Nat.zero_add];exact Nat.le_refl _
     ·rw [Nat.zero_add,hcl',zar css u.size h6 j (by rw [hcssl,←hdl];exact hj)];exact (h7 j hj _).kept (z7c hst1.heap.tags _)
    refine zyx (v':=.slice (some ⟨w.heap.size,0,none⟩) len len) (t:=.sl false u) hst1 hf1 ?_ (by simpa [Ty.isRo] using hu) hrep rfl hk hK1;simp only [execOp,ho]
    simp [hrun]
   | false=>
   rw [hfz] at hk;simp only [cond_false] at hk;refine zf6 (tg:=.row base []) hst1 hf1 (.inr ⟨[],rfl⟩) ?_ rfl hobj (fun y hy=>by simp at hy) (zho (u:=u) (l:=ds) (by simp [St.setObj,z0j]) rfl) hk hK1;simp only [execOp,ho];simp [hrun]
 ·simp at h
end
end Go.Kz
namespace Go.Kz
def PlOK (z0w:Nat->Option (Nat×Nat)):Nat->Nat->List Value->Prop
 | _,_,[]=>True
 | j,off,v :: vs=>z0w j=some (off,v.cells.size)∧PlOK z0w (j+1) (off+v.cells.size) vs
def PlL:List (Nat×Nat)->Nat->List Value->Prop
 | [],_,[]=>True
 | p :: pl,off,v :: vs=>p=(off,v.cells.size)∧PlL pl (off+v.cells.size) vs
 | _,_,_=>False
theorem PlL.ok:{pl:List (Nat×Nat)}->{off:Nat}->{vs:List Value}->PlL pl off vs->(pre:List (Nat×Nat))->PlOK (fun i=>(pre++pl).toArray[i]?) pre.length off vs
 | [],_,[],_,_=>trivial
 | p :: pl,off,v :: vs,h,pre=>by
  obtain ⟨h1,h2⟩:=h;refine ⟨by simp [h1],?_⟩;have:=h2.ok (pre++[p]);simp only [List.append_assoc,List.singleton_append,List.length_append,List.length_singleton] at this
  exact this
 | [],_,_ :: _,h,_=>h.elim
 | _ :: _,_,[],h,_=>h.elim
section
variable {P:Program} {w:World}
theorem zas {T:TypeId} {t:Ty} (h:InfoOK P T t) (w:World):(Go.sizeOf T).run P w = .ok t.size w:=by
 obtain ⟨i,z,h1,h2,_⟩:=h.info;simp [Go.sizeOf,typeInfo,h1,h2]
end
section
variable {R:Type} {P:Program} {o:Oper} {a:Act} {w:World} {c:Ctx} {σ:St} {g:Ghost} {k:St->Option R} {r:R} {base:Nat}
def FillOK (P:Program) (w:World) (g:Ghost) (σ:St) (a:Act) (u:Ty) (fs:List Field) (off i:Nat) (l:List (Nat×Operand)) (av:AVal):Prop:=
 ∃ pl:List (Nat×Nat),(∀ w',(fs.mapM (m:=Sem) fun f=>do pure (f.offset,←Go.sizeOf f.type)).run P w' = .ok pl w')∧(∀ m,Fresh g σ m->m∉av.ids)∧
  ∀ (pre:List (Nat×Nat)) (cells:Array Value),pre.length=i->cells.toList.drop off=zeroCells u->off≤cells.size->
   ∃ cells',Instr.fill (fun i=>(pre++pl).toArray[i]?) cells (l.map fun x=>(x.1,a.eval x.2))=some cells'∧cells'.toList.take off=cells.toList.take off∧cells'.size=cells.size∧AOK w g σ.objs av (cells'.toList.drop off)
theorem zle {n:Nat} (hst:StOK n g w a σ):{u:Ty}->{fs:List Field}->{off i:Nat}->{l:List (Nat×Operand)}->{av:AVal}->z7i σ u i l=some av->av.sk=u.sk->z6v P u fs off->FillOK P w g σ a u fs off i l av
 | .unit,[],off,i,[],av,h,_,_=>by
  simp only [z7i,zI] at h;subst h;refine ⟨[],fun w'=>rfl,fun m _=>by simp [AVal.ids],fun pre cells _ hz _=>⟨cells,rfl,rfl,rfl,?_⟩⟩
  rw [hz];rfl
 | .unit,_ :: _,off,i,l,av,_,_,hf=>by simp [z6v] at hf
 | .unit,[],off,i,_ :: _,av,h,_,_=>by simp [z7i] at h
 | .pair t u,[],off,i,l,av,_,_,hf=>by simp [z6v] at hf
 | .pair t u,f :: fs,off,i,l,av,h,hs,hf=>by
  simp only [z6v] at hf;obtain ⟨f1,f2,f3⟩:=hf;have hzl:(zeroCells t).length=t.size:=z16 t;have skip:∀ z c,zad t=some z->z7i σ u (i+1) l=some c->av = .pr z c->FillOK P w g σ a (.pair t u) (f :: fs) off i l av:=fun z c hz hc hav=>by
   subst hav;simp only [AVal.sk,Ty.sk,Sk.pair.injEq] at hs;obtain ⟨z1,z2,z3,z4⟩:=zk8 (w:=w) (g:=g) (objs:=σ.objs) hz;obtain ⟨pl,p1,p2,p3⟩:=zle hst hc hs.2 f3;exact (⟨(off,t.size) :: pl,fun w'=>by
    have:=p1 w';simp only [List.mapM_cons,Sem.run_bind,zas f2.info,Result.andThen_ok,Sem.run_pure,this,f1],fun m hm=>by
    simp only [AVal.ids,z2,List.nil_append];exact p2 m hm,fun pre cells hpre hzc hoff=>by
    have hzc2:cells.toList.drop (off+t.size)=zeroCells u:=by
     rw [←List.drop_drop,hzc];simp only [zeroCells];rw [←hzl];exact List.drop_left
    have hlen:off+t.size≤cells.size:=by
     have:=congrArg List.length hzc;simp only [List.length_drop,zeroCells,List.length_append,Array.length_toList,hzl] at this;omega
    obtain ⟨cells',q1,q2,q3,q4⟩:=p3 (pre++[(off,t.size)]) cells (by simp [hpre]) hzc2 hlen;refine ⟨cells',by simpa [List.append_assoc] using q1,?_,q3,?_⟩
    ·have:=congrArg (List.take off) q2;rw [List.take_take,List.take_take,Nat.min_eq_left (by omega)] at this;exact this
    ·have e:cells'.toList.drop off=zeroCells t++cells'.toList.drop (off+t.size):=by
      have h1:cells'.toList.drop off=(cells'.toList.take (off+t.size)).drop off++cells'.toList.drop (off+t.size):=by
       rw [←List.drop_append_of_le_length (by simp;omega),List.take_append_drop]
      rw [h1,q2];congr 1;rw [List.drop_take,hzc,show off+t.size-off=t.size from by omega,←hzl];simp only [zeroCells];exact List.take_left
     rw [e];exact ⟨_,_,rfl,z3,q4⟩⟩)
  cases l with
  | nil=>
   simp only [z7i] at h;split at h
   ·rename_i z c hz hc;simp only [zI] at h;subst h;exact skip z c hz hc rfl
   ·simp at h
  | cons jx l=>
   obtain ⟨j,x⟩:=jx;simp only [z7i] at h
   cases hj:Nat.beq i j with
   | false=>
    rw [hj] at h;simp only [cond_false] at h;split at h
    ·rename_i z c hz hc;simp only [zI] at h;subst h;exact skip z c hz hc rfl
    ·simp at h
   | true=>
    have hij:=zE hj;subst hij;rw [hj] at h;simp only [cond_true] at h;split at h
    ·rename_i v c hv hc
     cases hval:v.val with
     | false=>rw [hval] at h;simp at h
     | true=>
      rw [hval] at h;simp only [cond_true,zI] at h;subst h;simp only [AVal.sk,Ty.sk,Sk.pair.injEq] at hs;obtain ⟨pl,p1,p2,p3⟩:=zle hst hc hs.2 f3;obtain ⟨e1,e2⟩:=z24 hst hv;obtain ⟨cs,c1,c2,c3⟩:=z28 hval e1;have hsz:(a.eval x).cells.size=t.size:=by rw [←Array.length_toList,c3,c1.len,hs.1,Ty.sk_size]
      refine ⟨(off,t.size) :: pl,fun w'=>by
       have:=p1 w';simp only [List.mapM_cons,Sem.run_bind,zas f2.info,Result.andThen_ok,Sem.run_pure,this,f1],fun m hm=>by
       simp only [AVal.ids,List.mem_append,not_or];exact ⟨e2 m hm,p2 m hm⟩,fun pre cells hpre hzc hoff=>?_⟩
      have hlen:off+t.size≤cells.size:=by
       have:=congrArg List.length hzc;simp only [List.length_drop,zeroCells,List.length_append,Array.length_toList,hzl] at this;omega
      have hfold:=zlb off (a.eval x).cells.toList 0 cells (by rw [Array.length_toList];omega);let cells2:Array Value:=((a.eval x).cells.toList.zipIdx 0).foldl (fun cs (x:Value×Nat)=>cs.setIfInBounds (off+x.2) x.1) cells;have hc2:cells2.toList=z0f cells.toList off (a.eval x).cells.toList:=hfold;have hl2:(a.eval x).cells.toList.length=t.size:=by rw [Array.length_toList,hsz]
      have hsz2:cells2.size=cells.size:=by
       rw [←Array.length_toList,hc2,z1u _ _ _ (by rw [hl2,Array.length_toList];omega),Array.length_toList]
      have htk:(cells.toList.take off).length=off:=by simp;omega
      have hzc2:cells2.toList.drop (off+t.size)=zeroCells u:=by
       rw [hc2];simp only [z0f];rw [List.drop_append,List.drop_eq_nil_of_le (by rw [List.length_append,htk,hl2];omega),List.nil_append,List.length_append,htk,hl2,Nat.sub_self,List.drop_zero,←List.drop_drop,hzc];simp only [zeroCells];rw [←hzl];exact List.drop_left
      obtain ⟨cells',q1,q2,q3,q4⟩:=p3 (pre++[(off,t.size)]) cells2 (by simp [hpre]) hzc2 (by rw [hsz2];exact hlen);have htake:cells'.toList.take (off+t.size)=cells.toList.take off++(a.eval x).cells.toList:=by
       rw [q2,hc2];simp only [z0f];rw [List.take_append_of_le_length (by rw [List.length_append,htk,hl2];omega),List.take_of_length_le (by rw [List.length_append,htk,hl2];omega)]
      refine ⟨cells',?_,?_,by rw [q3,hsz2],?_⟩
      ·simp only [List.map_cons,Instr.fill];have hpl:(pre++(off,t.size) :: pl).toArray[i]? = some (off,t.size):=by
        rw [←hpre];simp
       simp only [hpl];rw [if_neg (by rw [hsz];simp;omega)];rw [show pre++(off,t.size) :: pl=pre++[(off,t.size)]++pl from by simp];rw [←q1];congr 1;show (a.eval x).cells.zipIdx.foldl _ cells=cells2;rw [←Array.foldl_toList,Array.toList_zipIdx]
      ·have:=congrArg (List.take off) htake;rw [List.take_take,Nat.min_eq_left (by omega)] at this;rw [this,List.take_append_of_le_length (by omega),List.take_of_length_le (by omega)]
      ·have e:cells'.toList.drop off=(a.eval x).cells.toList++cells'.toList.drop (off+t.size):=by
        have h1:cells'.toList.drop off=(cells'.toList.take (off+t.size)).drop off++cells'.toList.drop (off+t.size):=by
         rw [←List.drop_append_of_le_length (by simp;omega),List.take_append_drop]
        rw [h1,htake];congr 1;rw [List.drop_append,List.drop_eq_nil_of_le (by omega),List.nil_append,htk,Nat.sub_self,List.drop_zero]
       rw [e,c3];exact ⟨_,_,rfl,c1,q4⟩
    ·simp at h
 | .int _,fs,_,_,l,_,h,_,_=>by simp [z7i] at h
 | .bool,fs,_,_,l,_,h,_,_=>by simp [z7i] at h
 | .str,fs,_,_,l,_,h,_,_=>by simp [z7i] at h
 | .arr _ _,fs,_,_,l,_,h,_,_=>by simp [z7i] at h
 | .sl _ _,fs,_,_,l,_,h,_,_=>by simp [z7i] at h
 | .ptr _,fs,_,_,l,_,h,_,_=>by simp [z7i] at h
 | .fn _ _,fs,_,_,l,_,h,_,_=>by simp [z7i] at h
theorem zp0 {objs:z2c} {t:Ty}:{av:AVal}->{vs:List Value}->{f:List t.den->Option R}->{r:R}->z1o w g objs av vs->z38 t=true->z11 t av f=some r->
  ∃ l:List t.den,f l=some r∧l.length=vs.length∧(∀ v∈vs,v.cells.size=1)∧∀ (i:Nat) (h:i < l.length),Rep w g none t (l.get ⟨i,h⟩) (seg ((vs.map (·.cells.toList)).flatten) (i*1) 1)
 | .un,vs,f,r,hv,_,h=>by
  simp only [z1o] at hv;subst hv;simp only [z11] at h
  exact ⟨[],h,rfl,by simp,fun i hi=>by simp at hi⟩
 | .pr (.data u d) c,vs,f,r,hv,hk,h=>by
  simp only [z1o] at hv;obtain ⟨v,rest,rfl,h1,h2⟩:=hv;simp only [z11] at h;obtain ⟨e,h⟩:=z0u h;subst e;obtain ⟨l,k1,k2,k3,k4⟩:=zp0 h2 hk h;simp only [VOK] at h1;obtain ⟨cs,⟨_,hrep⟩,hval⟩:=h1;have hs1:u.size=1:=by cases u <;> simp [z38] at hk <;> rfl
  have hna:u.sk.isAgg=false:=by cases u <;> simp [z38] at hk <;> rfl
  obtain ⟨z,rfl⟩:=hrep.noAgg hna;have hvz:v=z:=by rw [hval];simp [mkV,AVal.isAgg,hna]
  have hone:=hrep.one z (by simp);have hc:v.cells.toList=[z]:=by
   subst hvz;cases v <;> simp [Value.oneCell'] at hone <;> rfl
  refine ⟨d :: l,k1,by simp [k2],fun x hx=>?_,fun i hi=>?_⟩
  ·rcases List.mem_cons.1 hx with rfl | hx
   ·rw [←Array.length_toList,hc];rfl
   ·exact k3 x hx
  ·simp only [List.map_cons,List.flatten_cons,hc]
   cases i with
   | zero=>simpa [seg] using hrep
   | succ i=>
    have:=k4 i (by simpa using hi);simp only [Nat.mul_one] at this ⊢;have e3:=z1g [z] (rest.map (·.cells.toList)).flatten 1 i 1 rfl;rw [Nat.add_comm 1 i] at e3;rw [e3]
    exact this
 | .pr (.nilS) _,_,_,_,_,_,h=>by simp [z11] at h
 | .pr (.ref _ _ _) _,_,_,_,_,_,h=>by simp [z11] at h
 | .pr (.view _ _ _ _ _) _,_,_,_,_,_,h=>by simp [z11] at h
 | .pr (.bptr _ _) _,_,_,_,_,_,h=>by simp [z11] at h
 | .pr (.eptr _ _ _) _,_,_,_,_,_,h=>by simp [z11] at h
 | .pr (.mref _) _,_,_,_,_,_,h=>by simp [z11] at h
 | .pr (.nv _ _ _ _) _,_,_,_,_,_,h=>by simp [z11] at h
 | .pr (.clos _ _) _,_,_,_,_,_,h=>by simp [z11] at h
 | .pr (.agg _) _,_,_,_,_,_,h=>by simp [z11] at h
 | .pr (.tup _) _,_,_,_,_,_,h=>by simp [z11] at h
 | .pr (.pr _ _) _,_,_,_,_,_,h=>by simp [z11] at h
 | .pr .un _,_,_,_,_,_,h=>by simp [z11] at h
 | .data _ _,_,_,_,_,_,h=>by simp [z11] at h
 | .nilS,_,_,_,_,_,h=>by simp [z11] at h
 | .ref _ _ _,_,_,_,_,_,h=>by simp [z11] at h
 | .view _ _ _ _ _,_,_,_,_,_,h=>by simp [z11] at h
 | .bptr _ _,_,_,_,_,_,h=>by simp [z11] at h
 | .eptr _ _ _,_,_,_,_,_,h=>by simp [z11] at h
 | .mref _,_,_,_,_,_,h=>by simp [z11] at h
 | .nv _ _ _ _,_,_,_,_,_,h=>by simp [z11] at h
 | .clos _ _,_,_,_,_,_,h=>by simp [z11] at h
 | .agg _,_,_,_,_,_,h=>by simp [z11] at h
 | .tup _,_,_,_,_,_,h=>by simp [z11] at h
theorem zzw (htt:zbd P c.tt) {t:TypeId} {ps:Array (Nat×Operand)} (ho:o.op = .build t ps) (hst:StOK c.ntmps g w a σ) (h:z1s c σ base o k=some r):Yield P o a w g σ c k r:=by
 simp only [z1s,ho] at h;split at h
 ·-- a struct
  rename_i x y htu;split at h
  ·rename_i av hfill
   cases hb:av.sk.same (Ty.pair x y).sk with
   | false=>rw [hb] at h;simp at h
   | true=>
    rw [hb] at h;simp only [cond_true] at h;have hs:=Sk.same_eq hb;have hT:=htt _ _ htu;simp only [z2j] at hT;obtain ⟨⟨fs,hu,hf⟩,hinf⟩:=hT;obtain ⟨i,z,i1,i2,i3,i4,i5,i6⟩:=hinf.info;obtain ⟨pl,p1,p2,p3⟩:=zle (P:=P) hst hfill hs hf;obtain ⟨cells,q1,_,_,q4⟩:=p3 [] z.cells rfl (by rw [List.drop_zero,i5]) (Nat.zero_le _);rw [List.drop_zero] at q4;simp only [List.nil_append] at q1;have hmap:∀ w',(fs.mapM (m:=Sem) fun f=>do pure (f.offset,←Go.sizeOf f.type)).run P w' = .ok pl.toArray w':=fun w'=>by
     have hp:=p1 w';rw [Array.mapM_eq_mapM_toList,←bind_pure_comp];simp only [Sem.run_bind,hp,Result.andThen_ok,Sem.run_pure]
    refine yld (v:=.agg cells) (fun w' _=>?_) ?_ (fun m hm=>by have:=p2 m hm;simpa [AVal.ids] using this) h
    ·have hz:(zeroValue t).run P w' = .ok z w':=by simp [zeroValue,typeInfo,i1,i4]
     have:(Instr.build t (ps.map fun x=>(x.1,a.eval x.2))).run P w' = .ok (.agg cells) w':=by
      unfold Instr.build;simp only [Sem.run_bind,hz,run_underlying hu,Result.andThen_ok,Sem.run_pure,hmap w',Array.toList_map,q1]
     simp [execOp,ho,this]
    ·simp only [VOK];exact ⟨_,by simp only [AOK];exact q4,by simp [mkV,AVal.isAgg]⟩
  ·simp at h
 ·-- an array
  rename_i n u htu;split at h
  ·rename_i av hev
   cases hb:(z8j 0 ps.toList && Nat.beq ps.toList.length n && z38 u) with
   | false=>rw [hb] at h;simp at h
   | true=>
    rw [hb] at h;simp only [cond_true] at h;simp only [zA] at hb;obtain ⟨⟨h1,h2⟩,h3⟩:=hb;have hn:=zE h2;obtain ⟨hv,hf⟩:=ze5 hst hev;have hs1:u.size=1:=by cases u <;> simp [z38] at h3 <;> rfl
    have hro:u.isRo=true:=by cases u <;> simp [z38] at h3 <;> rfl
    obtain ⟨l,k1,k2,k3,k4⟩:=zp0 hv h3 h;have hT:=htt _ _ htu;simp only [z2j] at hT;obtain ⟨⟨E,hu,hE⟩,hinf⟩:=hT;obtain ⟨i,z,i1,i2,i3,i4,i5,i6⟩:=hinf.info;have hnum:ps.toList.map (fun x=>(x.1,a.eval x.2))=z09 0 ((ps.toList.map (·.2)).map a.eval):=by
     rw [z4a h1 a.eval,List.map_map];rfl
    have hvl:((ps.toList.map (·.2)).map a.eval).length=n:=by simp [←hn]
    have hzs:z.cells.size=n:=by
     rw [←Array.length_toList,i5];have:=z16 (.arr n u);rw [this];simp [Ty.size,hs1]
    obtain ⟨cells,f1,f2⟩:=zld (size:=1) ((ps.toList.map (·.2)).map a.eval) 0 z.cells k3 (by rw [hvl,hzs];omega);have hcl:cells.toList=(((ps.toList.map (·.2)).map a.eval).map (·.cells.toList)).flatten:=by
     rw [f2,hvl];simp only [Nat.zero_mul,List.take_zero,List.nil_append,Nat.zero_add,Nat.mul_one];rw [List.drop_eq_nil_of_le (by rw [Array.length_toList,hzs];exact Nat.le_refl _),List.append_nil]
    refine yld (v:=.agg cells) (fun w' _=>?_) ?_ (fun m _=>by simp [AVal.ids]) k1
    ·have hz:(zeroValue t).run P w' = .ok z w':=by simp [zeroValue,typeInfo,i1,i4]
     have hsz:=zas hE.info w';rw [hs1] at hsz;have:(Instr.build t (ps.map fun x=>(x.1,a.eval x.2))).run P w' = .ok (.agg cells) w':=by
      unfold Instr.build;simp only [Sem.run_bind,hz,run_underlying hu,hsz,Result.andThen_ok,Sem.run_pure,Array.toList_map,hnum,f1]
     simp [execOp,ho,this]
    ·simp only [VOK];refine ⟨cells.toList,⟨hro,by rw [k2,hvl],?_,fun j hj=>?_⟩,by simp [mkV,AVal.isAgg,Ty.sk,Sk.isAgg]⟩
     ·rw [hcl,z5j _ 1 (fun cs hcs=>by
       obtain ⟨v,hv,rfl⟩:=List.mem_map.1 hcs;rw [Array.length_toList];exact k3 v hv),List.length_map,hvl,hs1]
     ·have:=k4 j hj;rw [hs1,hcl];exact Rep.anyOwn hro this
  ·simp at h
 ·simp at h
end
end Go.Kz
namespace Go.Kz
variable {R:Type}
structure Rewrote (w:World) (g:Ghost) (w':World) (g':Ghost) (id b0:Nat):Prop where
 heap:∀ b,b≠b0->w'.heap[b]? = w.heap[b]?
 size:w'.heap.size=w.heap.size
 os:w'.os=w.os
 tape:w'.tape=w.tape
 output:w'.output=w.output
 drawn:w'.drawn=w.drawn
 own:(∃ p,g.tag b0 = .row id p)∨g.tag b0 = .box id
 tag:g'.tag=g.tag
 blk:g'.blk=g.blk
 sv:∀ i,i≠id->g'.sv i=g.sv i
theorem Rewrote.notRo {w w':World} {g g':Ghost} {id b0:Nat} (h:Rewrote w g w' g' id b0) {b:Nat} (hb:g.tag b = .ro∨g.tag b = .alien):b≠b0:=by
 intro he;subst he;rcases h.own with ⟨p,h⟩ | h <;> rw [h] at hb <;> simp at hb
theorem Rewrote.ro {w w':World} {g g':Ghost} {id b0:Nat} (h:Rewrote w g w' g' id b0):RoKept w g w' g':=
 ⟨fun b hb=>⟨by rw [h.tag];exact hb,h.heap b (h.notRo (.inl hb))⟩⟩
theorem Rewrote.same {w w':World} {g g':Ghost} {id b0:Nat} (h:Rewrote w g w' g' id b0) {i:Nat} (hi:i≠id):Same w g w' g' i:=by
 refine ⟨⟨fun q=>by rw [h.sv i hi],fun q b hb=>⟨by rw [h.tag];exact hb,h.heap b ?_⟩⟩,by rw [h.blk],fun hb=>⟨by rw [h.tag];exact hb,h.heap _ ?_⟩⟩
 ·intro he;subst he;rcases h.own with ⟨p,h⟩ | h <;> rw [h] at hb <;> simp at hb;exact hi hb.1.symm
 ·intro he;rw [he] at hb;rcases h.own with ⟨p,h⟩ | h <;> rw [h] at hb <;> simp at hb;exact hi hb.symm
theorem Rewrote.ext {w w':World} {g g':Ghost} {id b0:Nat} (h:Rewrote w g w' g' id b0):Ext w g w' g':=
 ⟨h.os,h.tape,h.output,Nat.le_of_eq h.drawn.symm,by rw [h.size];exact Nat.le_refl _,fun b _ hb=>⟨h.heap b (h.notRo (hb.symm.imp _root_.id _root_.id)),by rw [h.tag]⟩⟩
theorem Rewrote.st {n:Nat} {w w':World} {a:Act} {g g':Ghost} {σ:St} {id b0:Nat} {o':Obj} (h:Rewrote w g w' g' id b0) (hst:StOK n g w a σ)
  (hk:z15 g g' id (σ.objs id) (some o')) (hobj:z14 w' g' (σ.setObj id o').objs id o'):StOK n g' w' a (σ.setObj id o'):=by
 have hkept:∀ i,z15 g g' i (σ.objs i) ((σ.setObj id o').objs i):=by
  intro i;by_cases hi:i=id
  ·subst hi;simp only [St.setObj,z0j];exact hk
  ·simp only [St.setObj];rw [z0k _ _ hi];exact z15.same (h.same hi)
 refine ⟨fun i av hi=>?_,⟨fun i x hx=>?_,fun b hb=>?_⟩,hst.size,hst.defers,hst.known.kept h.ro⟩
 ·obtain ⟨v,hv,hok⟩:=hst.slots i av hi;exact ⟨v,hv,VOK.frame h.ro (fun i _=>hkept i) hok⟩
 ·by_cases hi:i=id
  ·subst hi;simp only [St.setObj,z0j,zI] at hx;subst hx;exact hobj
  ·have hx':σ.objs i=some x:=by simpa [St.setObj,z0k _ _ hi] using hx
   exact z14.frame h.ro (h.same hi) (fun y hy i' _=>hkept i') (hst.heap.objs i x hx')
 ·rw [h.tag] at hb;rw [h.size];exact hst.heap.tags b hb
theorem Rewrote.fresh {w w':World} {g g':Ghost} {σ:St} {id b0 m:Nat} {o':Obj} (h:Rewrote w g w' g' id b0) (hid:σ.objs id≠none) (hc:∀ y,o' = .cell y->m∉y.ids) (hf:Fresh g σ m):Fresh g' (σ.setObj id o') m:=by
 have hm:m≠id:=by intro he;subst he;exact hid hf.objs
 refine ⟨by simp only [St.setObj];rw [z0k _ _ hm];exact hf.objs,fun b p=>by rw [h.tag];exact hf.row b p,fun b=>by rw [h.tag];exact hf.box b,hf.slots,fun i av hi=>?_⟩;by_cases he:i=id
 ·subst he;simp only [St.setObj,z0j,zI] at hi;exact hc av hi
 ·simp only [St.setObj] at hi;rw [z0k _ _ he] at hi;exact hf.cells i av hi
theorem z1t {w:World} {g:Ghost} {id b0:Nat} (cs:Array Value) (hown:(∃ p,g.tag b0 = .row id p)∨g.tag b0 = .box id):Rewrote w g (w.setRow b0 cs) g id b0:=
 ⟨fun b hb=>setRow_other w b0 b cs hb,by simp [World.setRow],rfl,rfl,rfl,rfl,hown,rfl,rfl,fun _ _=>rfl⟩
section
variable {P:Program} {o:Oper} {a:Act} {w:World} {K:Act->World->Prop} {Q:Exit->Act->World->Prop} {c:Ctx} {σ:St} {g:Ghost} {k:St->Option R} {r:R} {base:Nat} {mo:Bool}
theorem z6y {T:TypeId} {u:Ty} (hT:z2j P u T) {b off:Nat} {cc:Array Value} {e:TypeId} {v:Value} {cs:List Value} (hc:w.heap[b]? = some (.cells cc e (0,0))) (hv:v.cells.toList=cs)
  (hl:cs.length=u.size) (hs:off+u.size≤cc.size) (h1:∀ x∈cs,x.oneCell'=true) :
  (storeVar T ⟨b,off,none⟩ v).run P w = .ok () (w.setRow b (z0f cc.toList off cs).toArray):=by
 have hsz:=hT.info.sizeOf w;have hvs:v.cells.size=u.size:=by rw [←Array.length_toList,hv,hl]
 have hst:=run_storeCells_at P b off e cs 0 cc w hc (by rw [hl];omega) h1;simp only [Nat.add_zero] at hst;simp [storeVar,hsz,hvs,hv,hst,z0f]
theorem wp_skip {σ':St} {g':Ghost} {w':World} (hd:o.dst=none) (hrun:(execOp a.eval o).run P w = .ok .skip w') (hst:StOK c.ntmps g' w' a σ') (hext:Ext w g w' g')
  (hfr:∀ m,(m < base∨base+8≤m)->Fresh g σ m->Fresh g' σ' m) (hn:σ'.next=σ.next) (hk:k σ'=some r) (hag:mo=false->z44 w w') (hK:z79 c.ntmps k r g w σ base mo K):o.wp P a w K Q:=by
 unfold Oper.wp;rw [hrun,Oper.upon_skip,hd];exact hK σ' g' a w' hk hst hext hfr hn hag
theorem zvf {id:Nat} {t:Ty} {l:List t.den} {e:Nat} {i:Int} {q:z1a} {u:Ty} {d:u.den} {cs:List Value} {f:List t.den->Option R} {b0 off0:Nat}
  (hh:HeapOK w g σ.objs) (ho:σ.objs id=some (.row t l e)) (hu:u.isRo=true) (hrep:Rep w g none u d cs)
  (hpl:z0w g id (.sl true t) [] 0 0 (.idx i :: q)=some (b0,off0)) (h:z3z (.sl true t) l (.idx i :: q) u d f=some r) :
  ∃ l' cc ee,f l'=some r∧l'.length=l.length∧w.heap[b0]? = some (.cells cc ee (0,0))∧g.tag b0 = .row id []∧off0+u.size≤cc.size∧
   z14 (w.setRow b0 (z0f cc.toList off0 cs).toArray) g (σ.setObj id (.row t l' e)).objs id (.row t l' e):=by
 have hobj:=hh.objs id _ ho;simp only [z3z,Option.bind_eq_some_iff] at h;obtain ⟨x,hx,h⟩:=h;obtain ⟨h0,hi,rfl,hlt⟩:=z3o hx;obtain ⟨ad,cap,hcs,hsv,hlc,hcm,hrow⟩:=hobj.2;rcases hrow with ⟨_,hl,_⟩ | ⟨b,off,cc,ee,rfl,htag,hcell,hsz,helts⟩
 ·rw [hl] at hi;simp at hi
 ·have hel:=Rep.anyOwn (o':=none) hobj.1 (helts _ hi);obtain ⟨d',o',hk,hoff,hr⟩:=z9y hobj.1 hel hrep h;have hpl2:z0w g id (.sl true t) [] 0 0 (.idx i :: q)=some (b,off+i.toNat*t.size+o'):=by
   simp only [z0w,hsv,List.nil_append];exact z67 hoff
  rw [hpl] at hpl2;simp only [zI,Prod.mk.injEq] at hpl2;obtain ⟨rfl,rfl⟩:=hpl2;have hle:=Sk.off_le hoff;rw [Ty.sk_size,Ty.sk_size] at hle;have hcap:(i.toNat+1)*t.size≤cap*t.size:=Nat.mul_le_mul_right _ (by omega);rw [Nat.add_mul] at hcap;have hcl:cs.length=u.size:=hrep.len;have hccl:cc.toList.length=cc.size:=Array.length_toList;refine ⟨_,cc,ee,hk,z1b _ _ _,hcell,htag,by omega,hobj.1,some ⟨b0,off,none⟩,cap,?_,?_,?_,hcm,.inr ⟨b0,off,(z0f cc.toList (off+i.toNat*t.size+o') cs).toArray,ee,rfl,htag,?_,?_,fun j hj=>?_⟩⟩
  ·rw [z1b,hsv]
  ·rw [z1b];exact hsv
  ·rw [z1b];exact hlc
  ·exact setRow_heap w b0 cc _ ee _ hcell
  ·rw [List.size_toArray,z1u _ _ _ (by rw [hcl,hccl];omega),hccl];exact hsz
  ·have hRo:RoKept w g (w.setRow b0 (z0f cc.toList (off+i.toNat*t.size+o') cs).toArray) g:=(z1t (id:=id) _ (.inl ⟨[],htag⟩)).ro;have hj':j < l.length:=by rw [z1b] at hj;exact hj
   have hjcap:(j+1)*t.size≤cap*t.size:=Nat.mul_le_mul_right _ (by omega);rw [Nat.add_mul] at hjcap;rw [zbo];refine Rep.anyOwn hobj.1 (o:=none) ?_;by_cases hij:i.toNat=j
   ·rw [if_pos hij];subst hij;have e:off+i.toNat*t.size+o'=(off+i.toNat*t.size)+o':=rfl;rw [z5t _ _ _ _ _ (by rw [hcl];exact hle) (by rw [hccl];omega)];exact hr.kept hRo
   ·rw [if_neg hij];have hold:=(Rep.anyOwn (o':=none) hobj.1 (helts j hj')).kept hRo;rcases Nat.lt_or_gt_of_ne hij with hlt' | hgt
    ·have h3:(i.toNat+1)*t.size≤j*t.size:=Nat.mul_le_mul_right _ hlt';rw [Nat.add_mul] at h3;rw [z2s _ _ _ _ _ (by rw [hcl];omega) (by rw [hcl,hccl];omega)];exact hold
    ·have h3:(j+1)*t.size≤i.toNat*t.size:=Nat.mul_le_mul_right _ hgt;rw [Nat.add_mul] at h3;rw [z1p _ _ _ _ _ (by omega) (by rw [hccl];omega)];exact hold
end
end Go.Kz
