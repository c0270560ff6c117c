/-
  copy into an own row.
-/
import Derived.Test.YtnjfafnflbackaaKzXD
import Derived.Test.YtnjfafnflbackaaKzUA
set_option linter.unusedVariables false
set_option linter.unusedSimpArgs false
namespace Go.Kz
variable {R:Type}
theorem zey {α:Type} {l m:List α} {a b:Int} (h0:0≤a) (hab:a≤b) (hbl:b≤(l.length:Int)):a.toNat+Nat.min m.length (b-a).toNat≤l.length:=by
 have:=Nat.min_le_right m.length (b-a).toNat;have e:Nat.min m.length (b-a).toNat≤(b-a).toNat:=this;omega
theorem z9j {α:Type} (l m:List α) {a b:Int} (h0:0≤a) (hab:a≤b) (hbl:b≤(l.length:Int)):(z8n l a b m).length=l.length:=by
 have h1:=zey (m:=m) h0 hab hbl;have h2:Nat.min m.length (b-a).toNat≤m.length:=Nat.min_le_left ..;simp only [z8n,List.length_append,List.length_take,List.length_drop];generalize Nat.min m.length (b-a).toNat=n at *;omega
theorem zy0 {α:Type} (l m:List α) {a b:Int} (h0:0≤a) (hab:a≤b) (hbl:b≤(l.length:Int)) (i:Nat) (h:i < (z8n l a b m).length) :
  (∃ j,∃ hj:j < m.length,i=a.toNat+j∧j < Nat.min m.length (b-a).toNat∧(z8n l a b m).get ⟨i,h⟩=m.get ⟨j,hj⟩)∨
  (∃ hl:i < l.length,(i < a.toNat∨a.toNat+Nat.min m.length (b-a).toNat≤i)∧(z8n l a b m).get ⟨i,h⟩=l.get ⟨i,hl⟩):=by
 have hlen:=z9j l m h0 hab hbl;have h1:=zey (m:=m) h0 hab hbl;have h2:Nat.min m.length (b-a).toNat≤m.length:=Nat.min_le_left ..;have hil:i < l.length:=by rw [←hlen];exact h
 have e:(z8n l a b m)[i]? = if i < a.toNat then l[i]? else if i < a.toNat+Nat.min m.length (b-a).toNat then m[i-a.toNat]? else l[i]? := by
  simp only [z8n];generalize Nat.min m.length (b-a).toNat=n at *;by_cases c1:i < a.toNat
  ·rw [if_pos c1,List.getElem?_append_left (by simp;omega),List.getElem?_append_left (by simp;omega),List.getElem?_take,if_pos c1]
  ·rw [if_neg c1];by_cases c2:i < a.toNat+n
   ·rw [if_pos c2,List.getElem?_append_left (by simp;omega),List.getElem?_append_right (by simp;omega),List.length_take,List.getElem?_take];rw [if_pos (by omega)];congr 1;omega
   ·rw [if_neg c2,List.getElem?_append_right (by simp;omega),List.getElem?_drop];congr 1;simp only [List.length_append,List.length_take];omega
 have e2:(z8n l a b m)[i]? = some ((z8n l a b m).get ⟨i,h⟩):=by rw [List.getElem?_eq_getElem h];rfl
 rw [e2] at e;generalize Nat.min m.length (b-a).toNat=n at *;by_cases c1:i < a.toNat
 ·rw [if_pos c1,List.getElem?_eq_getElem hil] at e;exact .inr ⟨hil,.inl c1,by simpa using e⟩
 ·rw [if_neg c1] at e;by_cases c2:i < a.toNat+n
  ·have hj:i-a.toNat < m.length:=by omega
   rw [if_pos c2,List.getElem?_eq_getElem hj] at e;exact .inl ⟨i-a.toNat,hj,by omega,by omega,by simpa using e⟩
  ·rw [if_neg c2,List.getElem?_eq_getElem hil] at e;exact .inr ⟨hil,.inr (by omega),by simpa using e⟩
theorem zup {α:Type} (l m:List α) {a b:Int} (hn:Nat.min m.length (b-a).toNat=0):z8n l a b m=l:=by
 simp [z8n,hn]
section
variable {P:Program} {o:Oper} {a:Act} {w:World} {K:Act->World->Prop} {Q:Exit->Act->World->Prop} {c:Ctx} {σ:St} {g:Ghost} {k:St->Option R} {r:R} {base:Nat}
theorem zfj {x y:Operand} {args:Array Operand} {ts:Array TypeId} {t t':TypeId} {v:Value} {w':World} (ho:o.op = .call { callee:=.builtin .copy,args:=args,argTypes:=ts }) (ha:args.toList=[x,y]) (ht:ts.toList=[t,t'])
  (h:∀ ty,(Builtin.copy_ #[t,t'] ty #[a.eval x,a.eval y]).run P w = .ok v w'):(execOp a.eval o).run P w = .ok (.value v) w':=by
 have e1:args = #[x,y]:=by apply Array.toList_inj.1;simpa using ha
 have e2:ts = #[t,t']:=by apply Array.toList_inj.1;simpa using ht
 subst e1;subst e2;simp [execOp,ho,resolve,invoke,builtin,h]
theorem zzf {id:Nat} {t:Ty} {l m:List t.den} {news:List Value} {x:Value} {e b off cap:Nat} {cc:Array Value} {ee:TypeId} {av bv:Int} (hro:t.isRo=true)
  (h0:0≤av) (hab:av≤bv) (hbl:bv≤(l.length:Int)) (hlc:l.length≤cap) (hcm:cap≤maxLen) (hsv:g.sv id [] = .slice (some ⟨b,off,none⟩) l.length cap)
  (htag:g.tag b = .row id []) (hcell:w.heap[b]? = some (.cells cc ee (0,0))) (hsz:off+cap*t.size≤cc.size)
  (hel:∀ (i:Nat) (h:i < l.length),Rep w g (some (id,[.idx i])) t (l.get ⟨i,h⟩) (seg cc.toList (off+i*t.size) t.size)) (htail:Tail P w g t x m news) (objs:z2c) :
  z14 (w.setRow b (z0f cc.toList (off+av.toNat*t.size) (news.take (Nat.min m.length (bv-av).toNat*t.size))).toArray) g objs id (.row t (z8n l av bv m) e):=by
 have hccl:cc.toList.length=cc.size:=Array.length_toList;have hmn:=zey (m:=m) h0 hab hbl;have h2:Nat.min m.length (bv-av).toNat≤m.length:=Nat.min_le_left ..;have hlen:=z9j l m h0 hab hbl;have hget:=zy0 l m h0 hab hbl;generalize hn:Nat.min m.length (bv-av).toNat=n at *;have hnl:=htail.length;have hnm:n*t.size≤m.length*t.size:=Nat.mul_le_mul_right _ h2;have hzl:(news.take (n*t.size)).length=n*t.size:=by rw [List.length_take,hnl];omega
 have hmul:(av.toNat+n)*t.size≤cap*t.size:=Nat.mul_le_mul_right _ (by omega);rw [Nat.add_mul] at hmul;have hRo:RoKept w g (w.setRow b (z0f cc.toList (off+av.toNat*t.size) (news.take (n*t.size))).toArray) g:=(z1t (id:=id) _ (.inl ⟨[],htag⟩)).ro;refine ⟨hro,some ⟨b,off,none⟩,cap,by rw [hlen,hsv],by rw [hlen,hsv],by rw [hlen];exact hlc,hcm,.inr ⟨b,off,_,ee,rfl,htag,setRow_heap w b cc _ ee _ hcell,?_,fun j hj=>?_⟩⟩
 ·rw [List.size_toArray,z1u _ _ _ (by rw [hzl,hccl];omega),hccl];exact hsz
 ·refine Rep.anyOwn hro (o:=none) ?_;have hjl:j < l.length:=by rw [hlen] at hj;exact hj
  have hjcap:(j+1)*t.size≤cap*t.size:=Nat.mul_le_mul_right _ (by omega);rw [Nat.add_mul] at hjcap;rcases hget j hj with ⟨i,hi,e1,hin,e2⟩ | ⟨hl,hout,e2⟩
  ·rw [e2];have h3:(i+1)*t.size≤n*t.size:=Nat.mul_le_mul_right _ hin;rw [Nat.add_mul] at h3;have e3:off+j*t.size=(off+av.toNat*t.size)+i*t.size:=by rw [e1,Nat.add_mul];omega
   rw [e3,List.toList_toArray,z5a _ _ _ _ _ (by rw [hzl];omega) (by rw [hzl,hccl];omega)];have e4:seg (news.take (n*t.size)) (i*t.size) t.size=seg news (i*t.size) t.size:=by
    simp only [seg];rw [List.drop_take,List.take_take];congr 1;omega
   rw [e4];exact (htail.elts i hi).kept hRo
  ·rw [e2];have hold:=(Rep.anyOwn (o':=none) hro (hel j hl)).kept hRo;rw [List.toList_toArray];rcases hout with hlt | hge
   ·have h3:(j+1)*t.size≤av.toNat*t.size:=Nat.mul_le_mul_right _ (by omega);rw [Nat.add_mul] at h3;rw [z1p _ _ _ _ _ (by omega) (by rw [hccl];omega)];exact hold
   ·have h3:(av.toNat+n)*t.size≤j*t.size:=Nat.mul_le_mul_right _ hge;rw [Nat.add_mul] at h3;rw [z2s _ _ _ _ _ (by rw [hzl];omega) (by rw [hzl,hccl];omega)];exact hold
theorem zou (htt:zbd P c.tt) {args:Array Operand} {ts:Array TypeId} {x y:Operand} {t t2:TypeId} (ho:o.op = .call { callee:=.builtin .copy,args:=args,argTypes:=ts }) (hargs:args.toList=[x,y]) (hts:ts.toList=[t,t2])
  {ow:Bool} {u:Ty} (hu:c.tt t=some (.sl ow u)) {bv2:AVal} (hy:VOK w g σ.objs bv2 (a.eval y)) (hst:StOK c.ntmps g w a σ) {id ep:Nat} {av bv:Int}
  (hx:∀ (t':Ty) (l:List t'.den) (e:Nat),σ.objs id=some (.row t' l e)->e=ep->0≤av∧av≤bv∧bv≤(l.length:Int)∧∀ ad cap,g.sv id [] = .slice ad l.length cap->l.length≤cap->∃ cap',a.eval x = .slice (ad.map fun ad=>ad.add (av.toNat*t'.size)) (bv-av).toNat cap'∨((bv-av).toNat=0∧∃ ad',a.eval x = .slice ad' 0 cap'))
  (h:(zt6 σ u id ep av bv bv2 fun n σ=>σ.putK c o.dst (.data (.int .i64) n) k)=some r)
  (hK:z79 c.ntmps k r g w σ base true K):o.wp P a w K Q:=by
 unfold zt6 at h;split at h
 ·rename_i t' l e hobj
  cases hb:(Nat.beq e ep && (Ty.same t' u).isSome) with
  | false=>rw [hb] at h;simp at h
  | true=>
  rw [hb] at h;simp only [cond_true] at h;simp only [zA] at hb;have hee:=zE hb.1;subst hee;have htu:=zmi hb.2;subst htu;obtain ⟨hro,hval,h,hnv⟩:=z7o h;obtain ⟨m,news,h,htail⟩:=zfd (P:=P) hst.heap hro hy h hval hnv;have hT:=htt _ _ hu;simp only [z2j] at hT;obtain ⟨⟨E,hund,hE⟩,_⟩:=hT;obtain ⟨i,zv,hi1,hi2,hi3,hi4,hi5,hi6⟩:=hE.info.info;obtain ⟨_,ad,cap,_,hsv,hlc,hcm,hrow⟩:=hst.heap.objs _ _ hobj;obtain ⟨h0,hab,hbl,hxe⟩:=hx _ _ _ hobj rfl;obtain ⟨cap',hxe⟩:=hxe ad cap hsv hlc;have hsize:∀ w':World,(sizeOf E).run P w' = .ok t'.size w':=fun w'=>by simp [sizeOf,typeInfo,hi1,hi2]
  have hmn:=zey (m:=m) h0 hab hbl;have h2:Nat.min m.length (bv-av).toNat≤m.length:=Nat.min_le_left ..;have h3:Nat.min m.length (bv-av).toNat≤(bv-av).toNat:=Nat.min_le_right ..;have hpre:=htail.pre _ h2 w rfl;have hlenx:=htail.len w rfl;have hint:VOK w g (σ.setObj id (.row t' (z8n l av bv m) e)).objs (.data (.int .i64) (zot m av bv)) (goInt (Nat.min m.length (bv-av).toNat)):=by
   refine z4j ⟨?_,?_⟩
   ·show (-9223372036854775808:Int)≤_;unfold zot;omega
   ·show _≤(9223372036854775807:Int);unfold zot;unfold maxLen at hcm;omega
  by_cases hn:Nat.min m.length (bv-av).toNat=0
  ·have hcl:=zup l m hn;rw [hcl,zfh hobj] at h hint;refine z3i (v:=goInt 0) (g':=g) (w':=w) (σ':=σ) (zfj ho hargs hts fun ty=>?_) hst (Ext.refl w g) (fun m' _ hf=>⟨hf,by simp [AVal.ids]⟩) rfl (by rw [hn] at hint;exact hint) h (fun h=>Bool.noConfusion h) hK;rw [hn] at hpre;rw [Nat.zero_mul,List.take_zero] at hpre;rcases hxe with hxe | ⟨hz,ad',hxe⟩
   ·rw [hxe]
    cases ad with
    | none=>simp [Builtin.copy_,run_underlying hund,hlenx,hsize,hn,hpre]
    | some ad=>simp [Builtin.copy_,run_underlying hund,hlenx,hsize,hn,hpre,storeCells]
   ·rw [hxe];rw [hz] at hn
    cases ad' with
    | none=>simp [Builtin.copy_,run_underlying hund,hlenx,hsize,hpre]
    | some ad=>simp [Builtin.copy_,run_underlying hund,hlenx,hsize,hpre,storeCells]
  ·rcases hrow with ⟨rfl,hl,rfl⟩ | ⟨b,off,cc,ee,rfl,htag,hcell,hsz,hel⟩
   ·rw [hl] at hmn;simp only [List.length_nil] at hmn;omega
   ·have hccl:cc.toList.length=cc.size:=Array.length_toList;have hnl:=htail.length;have hnm:Nat.min m.length (bv-av).toNat*t'.size≤m.length*t'.size:=Nat.mul_le_mul_right _ h2;have hzl:(news.take (Nat.min m.length (bv-av).toNat*t'.size)).length=Nat.min m.length (bv-av).toNat*t'.size:=by rw [List.length_take,hnl];omega
    have hmul:(av.toNat+Nat.min m.length (bv-av).toNat)*t'.size≤cap*t'.size:=Nat.mul_le_mul_right _ (by omega);rw [Nat.add_mul] at hmul;have hst':=run_storeCells_at P b (off+av.toNat*t'.size) ee (news.take (Nat.min m.length (bv-av).toNat*t'.size)) 0 cc w hcell (by rw [hzl];omega) (fun x hx=>htail.one x (List.mem_of_mem_take hx));simp only [Nat.add_zero] at hst';have hRw:=z1t (w:=w) (g:=g) (id:=id) (b0:=b) (z0f cc.toList (off+av.toNat*t'.size) (news.take (Nat.min m.length (bv-av).toNat*t'.size))).toArray (.inl ⟨[],htag⟩);have hobj':=zzf (P:=P) (e:=e) hro h0 hab hbl hlc hcm hsv htag hcell hsz (fun i hi=>hel i hi) htail (σ.setObj id (.row t' (z8n l av bv m) e)).objs;have hst2:=hRw.st hst (o':=.row t' (z8n l av bv m) e) (.inr (.inl ⟨t',l,z8n l av bv m,e,e,hobj,rfl,.inr ⟨rfl,z9j l m h0 hab hbl,fun _=>rfl⟩⟩)) hobj';refine z3i (v:=goInt (Nat.min m.length (bv-av).toNat)) (zfj ho hargs hts fun ty=>?_) hst2 hRw.ext (fun m' _ hf=>⟨hRw.fresh (by rw [hobj];simp) (fun y hy=>by simp at hy) hf,by simp [AVal.ids]⟩) rfl ?_ h (fun h=>Bool.noConfusion h) hK
    ·rcases hxe with hxe | ⟨hz,_⟩
     ·rw [hxe];simp only [Option.map_some,Addr.add_lit];simp [Builtin.copy_,run_underlying hund,hlenx,hsize,hpre,hst',z0f]
     ·omega
    ·exact z4j (by
      refine ⟨?_,?_⟩
      ·show (-9223372036854775808:Int)≤_;unfold zot;omega
      ·show _≤(9223372036854775807:Int);unfold zot;unfold maxLen at hcm;omega)
 ·simp at h
theorem op_copy (htt:zbd P c.tt) {args:Array Operand} {ts:Array TypeId} (ho:o.op = .call { callee:=.builtin .copy,args:=args,argTypes:=ts }) (hst:StOK c.ntmps g w a σ) (h:z1s c σ base o k=some r)
  (hK:z79 c.ntmps k r g w σ base true K):o.wp P a w K Q:=by
 simp only [z1s,ho] at h;split at h
 ·rename_i x y t t2 hargs hts;split at h
  ·rename_i xv yv ow u hx hy hu;obtain ⟨ex,efx⟩:=z24 hst hx;obtain ⟨ey,efy⟩:=z24 hst hy;unfold copyK at h;split at h
   ·rename_i id ep av bv;refine zou htt ho hargs hts hu ey hst (fun t' l e hobj he=>?_) h hK;subst he;simp only [VOK] at ex;obtain ⟨cs,⟨v,rfl,hone,hv⟩,hv'⟩:=ex;obtain ⟨_,h0,hab,hbl,e1⟩:=(hv _ _ _ hobj).2 rfl;refine ⟨h0,hab,hbl,fun ad cap hsv hlc=>?_⟩;have hv2:a.eval x=z2g (.slice ad l.length cap) t'.size av bv:=by rw [←hsv,←e1];exact hv'
    simp only [z2g] at hv2;refine ⟨cap-av.toNat,?_⟩;by_cases hc:cap-av.toNat=0
    ·rw [if_pos hc] at hv2;have hz:(bv-av).toNat=0:=by omega
     rw [hz] at hv2;exact .inr ⟨hz,ad,hv2⟩
    ·rw [if_neg hc] at hv2;exact .inl hv2
   ·rename_i id ep;split at h
    ·rename_i t1 l1 e1 hobj1;refine zou htt ho hargs hts hu ey hst (fun t' l e hobj he=>?_) h hK;subst he;rw [hobj] at hobj1;simp only [zI,Obj.row.injEq] at hobj1;obtain ⟨rfl,h1,_⟩:=hobj1;have h1:=eq_of_heq h1;subst h1;simp only [VOK] at ex;obtain ⟨cs,⟨v,rfl,hone,hv⟩,hv'⟩:=ex;have e2:=(hv _ _ _ hobj).2 rfl;refine ⟨Int.le_refl _,by omega,by omega,fun ad cap hsv hlc=>⟨cap,.inl ?_⟩⟩;rw [show a.eval x=g.sv id [] from by rw [←e2];exact hv',hsv]
     cases ad with
     | none=>simp
     | some ad=>simp [Addr.add]
    ·simp at h
   ·simp at h
  ·simp at h
 ·simp at h
end
end Go.Kz
namespace Go.Kz
variable {R:Type}
def CtOK (P:Program) (ct:Nat->Bool):Prop:=∀ t,ct t=true->∃ d,P.underlying t=some d∧∀ ms,d≠.interface ms
def ctB (P:Program):List Nat->Bool
 | []=>true
 | t :: l=>(match P.underlying t with
  | some (.interface _)=>false
  | some _=>true
  | none=>false) && ctB P l
theorem ctB_ok {P:Program}:{l:List Nat}->ctB P l=true->CtOK P (fun t=>z2q t l)
 | [],_,_,h=>by simp [z2q] at h
 | t :: l,hb,t',h=>by
  simp only [ctB,zA] at hb;simp only [z2q] at h
  cases he:Nat.beq t t' with
  | false=>rw [he] at h;exact ctB_ok hb.2 t' h
  | true=>
   obtain rfl:=zE he;have h1:=hb.1;split at h1
   ·simp at h1
   ·rename_i d hd hu;exact ⟨d,hu,fun ms he=>hd ms he⟩
   ·simp at h1
def MsAt (P:Program) (t:Nat) (nm:String) (f:Nat):Option Nat->Prop
 | none=>∀ v w,(method (P.types.size+Made.depth) t v nm).run P w = .ok (f,v) w
 | some E=>∀ (ad:Addr) x w,(loadVar E ad).run P w = .ok x w->(method (P.types.size+Made.depth) t (.pointer (some ad)) nm).run P w = .ok (f,x) w
def MsOK (P:Program) (ms:Nat->String->Option (Nat×Option Nat)):Prop:=∀ t nm f d,ms t nm=some (f,d)->MsAt P t nm f d
def zb6:List (Nat×String×Nat×Option Nat)->Nat->String->Option (Nat×Option Nat)
 | [],_,_=>none
 | (t,nm,f,d) :: l,t',nm'=>cond (Nat.beq t t' && nm == nm') (some (f,d)) (zb6 l t' nm')
def zzm (P:Program) (t:Nat):Option Nat:=match P.underlying t with
 | some (.pointer E)=>some E
 | _=>none
def recvB (P:Program) (t:Nat) (p:Bool):Option Nat->Bool
 | none=>p && (zzm P t).isSome
 | some E=>!p && (match zzm P t with
  | some E'=>Nat.beq E E'
  | none=>false)
def ms1 (P:Program) (t:Nat) (nm:String) (f:Nat) (d:Option Nat):Bool:=match P.info? t with
 | some i=>match i.methods.find? (·.name == nm) with
  | some m=>m.path.isEmpty && (match m.func with
   | some (f',p)=>Nat.beq f f' && recvB P t p d
   | none=>false)
  | none=>false
 | none=>false
def msB (P:Program):List (Nat×String×Nat×Option Nat)->Bool
 | []=>true
 | (t,nm,f,d) :: l=>ms1 P t nm f d && msB P l
theorem zit {P:Program} {t E:Nat} (h:zzm P t=some E):P.underlying t=some (.pointer E):=by
 unfold zzm at h;split at h
 ·rename_i E' hu;simp only [zI] at h;rw [hu,h]
 ·simp at h
theorem zzd {P:Program} {w:World} (ts:Array TypeId) (t:TypeId) (ad:Addr) (s m:ByteArray):(Builtin.ssaWrapNilChk_ ts t #[.pointer (some ad),.string s,.string m]).run P w = .ok (.pointer (some ad)) w:=rfl
theorem ms1_ok {P:Program} {t:Nat} {nm:String} {f:Nat} {d:Option Nat} (h:ms1 P t nm f d=true):MsAt P t nm f d:=by
 obtain ⟨n,hn⟩:∃ n,P.types.size+Made.depth=n+1:=⟨P.types.size+(Made.depth-1),by simp [Made.depth]⟩;unfold ms1 at h;split at h
 ·rename_i i hi;split at h
  ·rename_i m hm;simp only [zA] at h;obtain ⟨hp,h⟩:=h;have hpath:m.path = #[]:=by simpa using hp
   split at h
   ·rename_i f' p hf;simp only [zA] at h;obtain ⟨h1,h2⟩:=h;obtain rfl:=zE h1
    cases d with
    | none=>
     simp only [recvB,zA] at h2;obtain ⟨rfl,h2⟩:=h2;obtain ⟨E,hE⟩:=Option.isSome_iff_exists.1 h2;have hu:=zit hE;intro v w;rw [hn]
     simp [method,typeInfo,hi,hm,hpath,follow,hf,receiverAt,run_underlying hu,Place.get]
    | some E=>
     simp only [recvB,zA,Bool.not_eq_true'] at h2;obtain ⟨rfl,h2⟩:=h2;split at h2
     ·rename_i E' hE;obtain rfl:=zE h2;have hu:=zit hE;intro ad x w hx;rw [hn];simp [method,typeInfo,hi,hm,hpath,follow,hf,receiverAt,run_underlying hu,Place.get,zzd,strVal,asAddr,hx]
     ·simp at h2
   ·simp at h
  ·simp at h
 ·simp at h
theorem msB_ok {P:Program}:{l:List (Nat×String×Nat×Option Nat)}->msB P l=true->MsOK P (zb6 l)
 | [],_,_,_,_,_,h=>by simp [zb6] at h
 | (t,nm,f,d) :: l,hb,t',nm',f',d',h=>by
  simp only [msB,zA] at hb;simp only [zb6] at h
  cases he:(Nat.beq t t' && nm == nm') with
  | false=>rw [he] at h;exact msB_ok hb.2 t' nm' f' d' h
  | true=>
   rw [he] at h;simp only [cond_true,zI,Prod.mk.injEq] at h;simp only [zA,beq_iff_eq] at he;obtain rfl:=zE he.1;obtain rfl:=he.2;obtain ⟨rfl,rfl⟩:=h;exact ms1_ok hb.1
section
variable {P:Program} {o:Oper} {a:Act} {w:World} {c:Ctx} {σ:St} {g:Ghost} {k:St->Option R} {r:R} {base:Nat}
theorem vok_ifc {objs:z2c} {t:Nat} {av:AVal} {x:Value} (hv:av.val=true) (h:VOK w g objs av x):VOK w g objs (.ifc t av) (.iface t x):=by
 obtain ⟨cs,h1,h2,_⟩:=z28 hv h;simp only [VOK];exact ⟨[.iface t x],⟨x,cs,rfl,h1,h2⟩,rfl⟩
theorem zfa {objs:z2c} {t:Nat} {av:AVal} {x:Value} (hv:av.val=true) (h:VOK w g objs (.ifc t av) x):∃ y,x = .iface t y∧VOK w g objs av y:=by
 simp only [VOK] at h;obtain ⟨cs,⟨y,cs',rfl,h1,h2⟩,h3⟩:=h;refine ⟨y,h3,?_⟩;obtain ⟨_,hn1,hn2,_⟩:=z2t hv;exact z19 h1 h2 hn1 hn2
theorem zee (hct:CtOK P c.ct) {t:TypeId} {x:Operand} (ho:o.op = .makeInterface t x) (hst:StOK c.ntmps g w a σ) (h:z1s c σ base o k=some r):Yield P o a w g σ c k r:=by
 simp only [z1s,ho] at h;split at h
 ·rename_i av hx
  cases hb:(av.val && c.ct t) with
  | false=>rw [hb] at h;simp at h
  | true=>
   rw [hb] at h;simp only [cond_true] at h;simp only [zA] at hb;obtain ⟨e1,e2⟩:=z24 hst hx;obtain ⟨d,hu,hd⟩:=hct t hb.2;refine yld (v:=.iface t (a.eval x)) (fun w' _=>?_) (vok_ifc hb.1 e1) (fun m hm=>by have:=e2 m hm;simpa [AVal.ids] using this) h;have:(Instr.makeInterface t (a.eval x)).run P w' = .ok (.iface t (a.eval x)) w':=by
    unfold Instr.makeInterface;rw [Sem.run_bind,run_underlying hu,Result.andThen_ok];cases d <;> first | rfl | exact absurd rfl (hd _)
   simp [execOp,ho,this]
 ·simp at h
theorem zks (hct:CtOK P c.ct) {t xt:TypeId} {x:Operand} {ok:Bool} (ho:o.op = .typeAssert x xt t ok) (hst:StOK c.ntmps g w a σ) (h:z1s c σ base o k=some r):Yield P o a w g σ c k r:=by
 simp only [z1s,ho] at h;split at h
 ·rename_i u av hx
  cases hb:(Nat.beq u t && c.ct t && av.val) with
  | false=>rw [hb] at h;simp at h
  | true=>
   rw [hb] at h;simp only [cond_true] at h;simp only [zA] at hb;have htu:=zE hb.1.1;subst htu;obtain ⟨e1,e2⟩:=z24 hst hx;obtain ⟨y,hy,hvy⟩:=zfa hb.2 e1;obtain ⟨d,hu,hd⟩:=hct _ hb.1.2;have hrun:∀ w':World,(Instr.typeAssert (a.eval x) xt u ok).run P w' = .ok (if ok then .tuple #[y,.bool true] else y) w':=fun w'=>by
    unfold Instr.typeAssert;rw [Sem.run_bind,run_underlying hu,Result.andThen_ok,hy];cases d <;> first | (exact absurd rfl (hd _)) | (cases ok <;> simp)
   cases ok with
   | true=>
    simp only [cond_true] at h;refine yld (v:=.tuple #[y,.bool true]) (fun w' _=>by simp [execOp,ho,hrun]) ?_ (fun m hm=>by have:=e2 m hm;simpa [AVal.ids] using this) h;simp only [VOK];refine ⟨[y,.bool true],rfl,?_⟩;simp only [z1o]
    exact ⟨_,_,rfl,hvy,_,_,rfl,z3v true,rfl⟩
   | false=>
    simp only [cond_false] at h;exact yld (v:=y) (fun w' _=>by simp [execOp,ho,hrun]) hvy (fun m hm=>by have:=e2 m hm;simpa [AVal.ids] using this) h
 ·simp at h
theorem zdk {objs:z2c}:{av:AVal}->{vs:List Value}->z1o w g objs av vs->z4x av .un=av
 | .pr a b,vs,h=>by
  simp only [z1o] at h;obtain ⟨v,rest,rfl,_,h⟩:=h;simp only [z4x]
  rw [zdk h]
 | .un,_,_=>rfl
 | .data _ _,_,h=>by simp [z1o] at h
 | .nilS,_,h=>by simp [z1o] at h
 | .ref _ _ _,_,h=>by simp [z1o] at h
 | .view _ _ _ _ _,_,h=>by simp [z1o] at h
 | .bptr _ _,_,h=>by simp [z1o] at h
 | .eptr _ _ _,_,h=>by simp [z1o] at h
 | .mref _,_,h=>by simp [z1o] at h
 | .nv _ _ _ _,_,h=>by simp [z1o] at h
 | .clos _ _,_,h=>by simp [z1o] at h
 | .ifc _ _,_,h=>by simp [z1o] at h
 | .agg _,_,h=>by simp [z1o] at h
 | .tup _,_,h=>by simp [z1o] at h
theorem callK_fn {σ:St} {n fid:Nat} {all:AVal} {f:AVal->St->Option R} {r:R} (h:zi4 c σ n (.clos fid .un) all f=some r) (hu:z4x all .un=all):(match zbv all (c.env fid) with
   | some (.pure p res F)=>z4w σ n all p res F f
   | _=>none)=some r:=by
 unfold zi4 at h;simp only [z5k,z6t,cond_true,hu] at h;exact h
theorem zwy (htt:zbd P c.tt) (hms:MsOK P c.ms) {x:Operand} {nm:String} {args:Array Operand} {ts:Array TypeId} (ho:o.op = .call { callee:=.invoke x nm,args:=args,argTypes:=ts }) (hst:StOK c.ntmps g w a σ)
  {xv av:AVal} (hx:ev σ x=some xv) (ha:evs σ args.toList=some av) {F:AVal->AVal->Option R} {r:R} (h:invK c σ nm xv av F=some r) :
  ∃ fid all vals,(execOp a.eval o).run P w=(callFunc fid vals.toArray).run P w∧z1o w g σ.objs all vals∧z4x all .un=all∧F (.clos fid .un) all=some r:=by
 unfold invK at h;split at h
 ·rename_i t v;obtain ⟨e1,ef⟩:=z24 hst hx;obtain ⟨e2,_⟩:=ze5 hst ha
  cases hval:v.val with
  | false=>rw [hval] at h;simp at h
  | true=>
  rw [hval] at h;simp only [cond_true] at h;obtain ⟨y,k3,hvy⟩:=zfa hval e1;have hargs:args.map a.eval=(args.toList.map a.eval).toArray:=by apply Array.toList_inj.1;rw [Array.toList_map]
  have app:z4x (.pr v av) .un = .pr v av:=by simp only [z4x];rw [zdk e2]
  have appl:∀ lv:AVal,z4x (.pr lv av) .un = .pr lv av:=fun lv=>by simp only [z4x];rw [zdk e2]
  have call:∀ (m:Nat) (u:Value),(method (P.types.size+Made.depth) t y nm).run P w = .ok (m,u) w->(execOp a.eval o).run P w=(callFunc m (u :: args.toList.map a.eval).toArray).run P w:=by
   intro m u hm;have e5:(#[Value.iface t y]++args.map a.eval).extract 1 (#[Value.iface t y]++args.map a.eval).size=args.map a.eval:=by
    apply Array.toList_inj.1;rw [Array.toList_extract];simp;exact List.take_of_length_le (by simp)
   have e4:(invoke (.fn (.method nm) #[]) (#[Value.iface t y]++args.map a.eval)).run P w=(callFunc m (#[u]++args.map a.eval)).run P w:=by
    have h0:(#[Value.iface t y]++args.map a.eval)[0]? = some (.iface t y):=by rw [Array.getElem?_append_left (show 0 < 1 from Nat.one_pos)];rfl
    unfold invoke;rw [h0];simp only [e5,callMethod,Sem.run_bind,run_program,Result.andThen_ok,hm]
   have e6 : #[u]++args.map a.eval=(u :: args.toList.map a.eval).toArray:=by rw [hargs];simp
   rw [←e6,←e4];simp [execOp,ho,resolve,k3]
  unfold recvK at h;split at h
  ·rename_i m hm;exact ⟨m,_,_,call m y (hms _ _ _ _ hm y w),by simp only [z1o];exact ⟨_,_,rfl,hvy,e2⟩,app,h⟩
  ·rename_i m E hm;split at h
   ·rename_i u hu;obtain ⟨lv,b,off,cc,e,fz,hv,hcell,hle,hok,hfr,hput⟩:=zsd (n:=c.ntmps) (xv:=y) hst hvy (fun m hm=>by have:=ef m hm;simpa [AVal.ids] using this) h
    cases hb:(lv.val && u.sk.same lv.sk) with
    | false=>rw [hb] at hput;simp at hput
    | true=>
     rw [hb] at hput;simp only [cond_true] at hput;simp only [zA] at hb;have hsk:=Sk.same_eq hb.2;obtain ⟨hag,hn1,hn2,hn3⟩:=z2t hb.1;have hsz:u.size=lv.sk.size:=by rw [←hsk,Ty.sk_size]
     have hrun:=zat (P:=P) (w:=w) (htt _ _ hu) hcell (by rw [hsz];exact hle);have hmm:=hms _ _ _ _ hm ⟨b,off,none⟩ _ w hrun;rw [←hv] at hmm;refine ⟨m,_,_,call m _ hmm,?_,appl _,hput⟩;simp only [z1o];refine ⟨_,_,rfl,z19 hok ?_ hn1 hn2,e2⟩;rw [hag,←hsk,hsz,hsk]
   ·simp at h
  ·simp at h
 ·simp at h
end
end Go.Kz
namespace Go.Kz
variable {R:Type}
structure CtxOK (P:Program) (c:Ctx):Prop where
 tt:zbd P c.tt
 mt:MtOK P c.mt
 eqs:EqsOK P c.eqs
 ct:CtOK P c.ct
 ms:MsOK P c.ms
 env:zpm P c.env
section
variable {P:Program} {o:Oper} {a:Act} {w:World} {K:Act->World->Prop} {Q:Exit->Act->World->Prop} {c:Ctx} {σ:St} {g:Ghost} {k:St->Option R} {r:R} {base:Nat} {mo:Bool}
theorem zkr (hc:CtxOK P c) (hy:isY o=true) (hst:StOK c.ntmps g w a σ) (h:opK c σ base o k=some r):Yield P o a w g σ c k r:=by
 simp only [isY,zA,Bool.not_eq_true'] at hy;obtain ⟨hj,hy⟩:=hy;simp only [opK,hj,cond_false] at h
 cases ho:o.op with
 | move x=>exact zw3 (.inl ho) hst h
 | assign x=>exact zw3 (.inr ho) hst h
 | pick t x y=>exact op_pick ho hst h
 | binOp op t x y t'=>exact zw7 hc.tt hc.eqs ho hst h
 | unOp op t x=>exact op_unOp ho hst h
 | convert t t' x=>exact zu7 hc.tt ho hst h
 | indexAddr t x i=>exact zzr hc.tt ho hst h
 | fieldAddr t x i=>exact zzs hc.tt ho hst h
 | nilCheck x=>exact zqc ho hst h
 | load t x=>exact op_load hc.tt ho hst h
 | extract x i=>exact zu6 ho hst h
 | lookup t x i ok=>exact zw4 hc.mt ho hst h
 | slice t x lo hi mx=>cases mx with
  | none=>exact zzp hc.tt ho hst h
  | some mx=>simp [zb3,ho] at hy
 | build t ps=>exact zzw hc.tt ho hst h
 | index t x i=>exact zw5 hc.tt ho hst h
 | field t x i=>exact zw6 hc.tt ho hst h
 | makeInterface t x=>exact zee hc.ct ho hst h
 | typeAssert x xt t ok=>exact zks hc.ct ho hst h
 | makeFunc f first cap=>
  cases f with
  | func f=>exact zqd ho hst h
  | _=>simp [z1s,ho] at h
 | call cl=>
  obtain ⟨callee,args,ts⟩:=cl
  cases callee with
  | builtin b=>
   cases b with
   | len=>exact op_len ho hc.tt hc.mt hst h
   | max=>exact op_max ho hst h
   | min=>exact op_min ho hst h
   | _=>simp [zb3,ho] at hy
  | _=>simp [zb3,ho] at hy
 | _=>simp [zb3,ho] at hy
theorem op_junk (hj:zgc o=true) (hst:StOK c.ntmps g w a σ) (h:k (σ.unset o.dst)=some r) (hK:z79 c.ntmps k r g w σ base (isM o) K):o.wp P a w K Q:=by
 have ho:∃ v,o.op = .assign (.const v):=by
  unfold zgc at hj;split at hj
  ·exact ⟨_,by assumption⟩
  ·exact ⟨_,by assumption⟩
  ·exact ⟨_,by assumption⟩
  ·simp at hj
 obtain ⟨v,ho⟩:=ho;unfold Oper.wp;have hrun:(execOp a.eval o).run P w = .ok (.value (a.eval (.const v))) w:=by simp [execOp,ho]
 rw [hrun,Oper.upon_value];refine hK _ g _ w h (hst.putU o.dst _) (Ext.refl _ _) (fun m _ hm=>hm.unset o.dst) ?_ (fun _=>z44.refl w);cases o.dst <;> rfl
theorem zqb (hc:CtxOK P c) (hst:StOK c.ntmps g w a σ) (hfr:∀ m,base≤m->m < base+8->Fresh g σ m) (h:opK c σ base o k=some r) (hK:z79 c.ntmps k r g w σ base (isM o) K):o.wp P a w K Q:=by
 have hf:Fresh g σ base:=hfr base (Nat.le_refl _) (by omega)
 cases hj:zgc o with
 | true=>
  simp only [opK,hj,cond_true] at h
  exact op_junk hj hst h hK
 | false=>
 cases hy:isY o with
 | true=>exact (zkr hc hy hst h).wp hst hK
 | false=>
  simp only [opK,hj,cond_false] at h;simp only [isY,hj,Bool.not_false,Bool.true_and] at hy
  cases ho:o.op with
  | alloc t=>exact zzy hc.tt ho hst hf h hK
  | box t x=>exact op_box ho hst hf h hK
  | makeSlice t x y=>exact zn2 hc.tt ho hst hf h hK
  | buildSlice t n ps=>exact zkx hc.tt ho hst hf (fun ow u htu hu hb h=>op_nest hc.tt ho hst hf htu hu hb h hK) h hK
  | slice t x lo hi mx=>cases mx with
   | none=>simp [zb3,ho] at hy
   | some mx=>exact zw2 hc.tt ho hst h hK
  | store t x y=>exact zzo hc.tt ho hst h (by simpa [isM,ho] using hK)
  | mapUpdate t x i y=>exact zn1 hc.mt ho hst h (by simpa [isM,ho] using hK)
  | makeMap t rs=>cases rs with
   | none=>exact zu5 ho hst hf h hK
   | some _=>simp [z1s,ho] at h
  | call cl=>
   obtain ⟨callee,args,ts⟩:=cl
   cases callee with
   | builtin b=>
    cases b with
    | append=>exact zw8 hc.tt ho hst hf (fun x y t u ow av bv ha ht htu hx hy h=>zu8 hc.tt ho hst ha ht htu hx hy h (by simpa [isM,ho] using hK)) h (by simpa [isM,ho] using hK)
    | clear=>exact zzu hc.tt ho hst h (by simpa [isM,ho] using hK)
    | copy=>exact op_copy hc.tt ho hst h (by simpa [isM,ho] using hK)
    | _=>first | (simp [zb3,ho] at hy;done) | (simp [z1s,ho] at h;done)
   | value x=>
    simp only [z1s,ho] at h;split at h
    ·rename_i gv av hx ha;exact op_call hc.env ho rfl hst hfr hx ha h hK
    ·simp at h
   | invoke x m=>
    simp only [z1s,ho] at h;split at h
    ·rename_i xv av hx ha;obtain ⟨fid,all,vals,hrun,hall,hu,h⟩:=zwy hc.tt hc.ms ho hst hx ha h;exact zs0 hc.env hrun hall hst hfr (callK_fn h hu) hK
    ·simp at h
  | _=>first | (simp [zb3,ho] at hy;done) | (simp [z1s,ho] at h;done)
end
end Go.Kz
namespace Go.Kz
variable {R:Type}
theorem z27 {x:Nat}:{l:List Nat}->(z2q x l=true↔x∈l)
 | []=>by simp [z2q]
 | y :: l=>by
  simp only [z2q,List.mem_cons]
  cases h:Nat.beq y x with
  | true=>simp [zE h]
  | false=>
   have hne:x≠y:=by intro he;subst he;rw [Nat.beq_refl] at h;simp at h
   simp [hne,z27 (l:=l)]
theorem z10 {x:Nat} {l:List Nat}:z2q x l=false↔x∉l:=by
 rw [←z27];simp
def z18 (g:Ghost) (σ:St):Prop:=∀ m,σ.next≤m->Fresh g σ m
theorem zgg {x:Nat}:{l:List Nat}->{k j:Nat}->z1e x l k=some j->∃ d,j=k+d∧z12 l d=some x
 | [],_,_,h=>by simp [z1e] at h
 | y :: l,k,j,h=>by
  simp only [z1e] at h
  cases hb:Nat.beq y x with
  | true=>
   rw [hb] at h;simp only [cond_true,zI] at h
   exact ⟨0,by omega,by simp [z12,zE hb]⟩
  | false=>
   rw [hb] at h;obtain ⟨d,hd,hn⟩:=zgg (l:=l) h;exact ⟨d+1,by omega,hn⟩
theorem z3t {x j:Nat} {l:List Nat} (h:z1e x l 0=some j):z12 l j=some x:=by
 obtain ⟨d,hd,hn⟩:=zgg h;rw [hd,Nat.zero_add];exact hn
theorem za4 {x:Nat}:{l:List Nat}->{k d:Nat}->l.Nodup->z12 l d=some x->z1e x l k=some (k+d)
 | [],_,d,_,h=>by cases d <;> simp [z12] at h
 | y :: l,k,0,_,h=>by
  simp only [z12,zI] at h;subst h
  simp [z1e,Nat.beq_refl]
 | y :: l,k,d+1,hn,h=>by
  simp only [List.nodup_cons] at hn;have hm:x∈l:=z31 h;have hne:Nat.beq y x=false:=by
   cases hb:Nat.beq y x with
   | true=>rw [zE hb] at hn;exact absurd hm hn.1
   | false=>rfl
  simp only [z1e,hne,cond_false];rw [za4 (l:=l) hn.2 h];congr 1;omega
theorem z7s {α:Type}:{l:List α}->{i:Nat}->i < l.length->∃ x,z12 l i=some x
 | [],_,h=>by simp at h
 | x :: _,0,_=>⟨x,rfl⟩
 | _ :: l,i+1,h=>z7s (l:=l) (by simpa using h)
theorem z6z {objs:Nat->Option Obj}:(n:Nat)->(todo seen:List Nat)->seen.Nodup->(z52 objs n todo seen).Nodup
 | 0,_,_,h=>h
 | _+1,[],_,h=>h
 | n+1,x :: todo,seen,h=>by
  simp only [z52]
  cases hm:z2q x seen with
  | true=>exact z6z n _ _ h
  | false=>
   have hx:(seen++[x]).Nodup:=by
    rw [List.nodup_append];refine ⟨h,by simp,fun a ha b hb=>?_⟩;simp only [List.mem_singleton] at hb;subst hb;intro he;subst he;exact z10.1 hm ha
   simp only [cond_false];split <;> exact z6z n _ _ hx
def z95 (g:Ghost) (ids:List Nat):Ghost where
 tag:=fun b=>match g.tag b with
  | .row i p=>(match z1e i ids 0 with
   | some j=>.row j p
   | none=>.alien)
  | .box i=>(match z1e i ids 0 with
   | some j=>.box j
   | none=>.alien)
  | t=>t
 sv:=fun j p=>match z12 ids j with
  | some i=>g.sv i p
  | none=>undef
 blk:=fun j=>match z12 ids j with
  | some i=>g.blk i
  | none=>0
section
variable {w:World} {g:Ghost} {ids:List Nat}
theorem z94:RoKept w g w (z95 g ids):=⟨fun b hb=>⟨by simp [z95,hb],rfl⟩⟩
theorem zzl:Ext w g w (z95 g ids):=by
 refine ⟨rfl,rfl,rfl,Nat.le_refl _,Nat.le_refl _,fun b _ ht=>⟨rfl,?_⟩⟩;rcases ht with ht | ht <;> simp [z95,ht]
theorem zcz {i j:Nat} (h:z12 ids j=some i) (p:z1a):(z95 g ids).sv j p=g.sv i p:=by simp [z95,h]
theorem z4n {i j:Nat} (h:z12 ids j=some i):(z95 g ids).blk j=g.blk i:=by simp [z95,h]
theorem zip (hn:ids.Nodup) {i j:Nat} (h:z12 ids j=some i):Moved w g w (z95 g ids) i [] j []:=by
 have hx:=za4 (k:=0) hn h;rw [Nat.zero_add] at hx;exact ⟨fun q=>zcz h _,fun q b hb=>⟨by simp [z95,hb,hx],rfl⟩⟩
theorem zkk (hn:ids.Nodup) {i j:Nat} (h:z12 ids j=some i) {b:Nat} (hb:g.tag b = .box i):(z95 g ids).tag b = .box j:=by
 have hx:=za4 (k:=0) hn h;rw [Nat.zero_add] at hx;simp [z95,hb,hx]
theorem zq5 {b m:Nat} (h:(∃ p,(z95 g ids).tag b = .row m p)∨(z95 g ids).tag b = .box m):m < ids.length:=by
 have key:∀ i j,z1e i ids 0=some j->j < ids.length:=fun i j h=>z4o (z3t h)
 simp only [z95] at h
 cases ht:g.tag b with
 | alien=>rw [ht] at h;simp at h
 | ro=>rw [ht] at h;simp at h
 | row i p=>
  rw [ht] at h
  cases hx:z1e i ids 0 with
  | none=>simp [hx] at h
  | some j=>simp [hx] at h;rw [←h];exact key i j hx
 | box i=>
  rw [ht] at h
  cases hx:z1e i ids 0 with
  | none=>simp [hx] at h
  | some j=>simp [hx] at h;rw [←h];exact key i j hx
theorem zu0 {b:Nat} (h:(z95 g ids).tag b≠.alien):g.tag b≠.alien:=by
 intro h';simp [z95,h'] at h
structure RenObjs (objs:z2c) (ids:List Nat) (os:List Obj):Prop where
 len:os.length=ids.length
 get:∀ j i,z12 ids j=some i->∃ o o',objs i=some o∧o.ren objs (fun i=>z1e i ids 0)=some o'∧z12 os j=some o'
theorem z93 {ρ:Nat->Option Nat} {objs:z2c}:{l:List Nat}->{os:List Obj}->zcy ρ objs l=some os->
  os.length=l.length∧∀ j i,z12 l j=some i->∃ o o',objs i=some o∧o.ren objs ρ=some o'∧z12 os j=some o'
 | [],os,h=>by
  simp only [zcy,zI] at h;subst h
  exact ⟨rfl,fun j i h=>by simp [z12] at h⟩
 | x :: l,os,h=>by
  simp only [zcy] at h;split at h
  ·rename_i o os' ho hos;simp only [zI] at h;subst h;obtain ⟨h1,h2⟩:=z93 hos;refine ⟨by simp [h1],fun j i hj=>?_⟩
   cases j with
   | zero=>
    simp only [z12,zI] at hj;subst hj;simp only [Option.bind_eq_some_iff] at ho;obtain ⟨o0,h3,h4⟩:=ho
    exact ⟨o0,o,h3,h4,rfl⟩
   | succ j=>exact h2 j i hj
  ·simp at h
theorem zmp {objs:z2c} {ρ:Nat->Option Nat}:{a a':AVal}->a.ren objs ρ=some a'->a'.sk=a.sk
 | .data t d,a',h=>by simp only [AVal.ren,zI] at h;subst h;rfl
 | .nilS,a',h=>by simp only [AVal.ren,zI] at h;subst h;rfl
 | .ref i p ep,a',h=>by
  simp only [AVal.ren] at h;split at h
  ·rename_i t l e hobj
   cases hb:Nat.beq e ep with
   | false=>rw [hb] at h;simp at h
   | true=>rw [hb] at h;simp only [cond_true,Option.map_eq_some_iff] at h;obtain ⟨j,hj,rfl⟩:=h;rfl
  ·simp at h
 | .view i p ep x y,a',h=>by
  simp only [AVal.ren] at h;split at h
  ·rename_i t l e hobj
   cases hb:Nat.beq e ep with
   | false=>rw [hb] at h;simp at h
   | true=>rw [hb] at h;simp only [cond_true,Option.map_eq_some_iff] at h;obtain ⟨j,hj,rfl⟩:=h;rfl
  ·simp at h
 | .bptr i p,a',h=>by simp only [AVal.ren,Option.map_eq_some_iff] at h;obtain ⟨j,hj,rfl⟩:=h;rfl
 | .mref i,a',h=>by simp only [AVal.ren,Option.map_eq_some_iff] at h;obtain ⟨j,hj,rfl⟩:=h;rfl
 | .nv pt i p ep,a',h=>by
  simp only [AVal.ren] at h;split at h
  ·rename_i t l e i' hobj
   cases hb:Nat.beq (nep false p e i') ep with
   | false=>rw [hb] at h;simp at h
   | true=>rw [hb] at h;simp only [cond_true,Option.map_eq_some_iff] at h;obtain ⟨j,hj,rfl⟩:=h;rfl
  ·simp at h
 | .clos f c,a',h=>by simp only [AVal.ren,Option.map_eq_some_iff] at h;obtain ⟨j,hj,rfl⟩:=h;rfl
 | .ifc f c,a',h=>by simp only [AVal.ren,Option.map_eq_some_iff] at h;obtain ⟨j,hj,rfl⟩:=h;rfl
 | .agg c,a',h=>by
  simp only [AVal.ren,Option.map_eq_some_iff] at h;obtain ⟨c',hc,rfl⟩:=h
  simp only [AVal.sk,zmp hc]
 | .pr a b,a',h=>by
  simp only [AVal.ren] at h;split at h
  ·rename_i x y hx hy;simp only [zI] at h;subst h;simp only [AVal.sk,zmp hx,zmp hy]
  ·simp at h
 | .un,a',h=>by simp only [AVal.ren,zI] at h;subst h;rfl
 | .eptr _ _ _,a',h=>by simp [AVal.ren] at h
 | .tup _,a',h=>by simp [AVal.ren] at h
theorem zha {objs:z2c} {ρ:Nat->Option Nat} {a:AVal} (h:a.isTup=false):z9k objs ρ a=a.ren objs ρ:=by
 cases a <;> first | rfl | simp [AVal.isTup] at h
theorem zus {objs:z2c} {ρ:Nat->Option Nat} {a a':AVal} (h:z9k objs ρ a=some a'):a'.sk=a.sk:=by
 cases ht:a.isTup with
 | false=>rw [zha ht] at h;exact zmp h
 | true=>
  cases a <;> simp [AVal.isTup] at ht;simp only [z9k,Option.map_eq_some_iff] at h;obtain ⟨c,hc,rfl⟩:=h;simp only [AVal.sk,zmp hc]
theorem zp1 {objs:z2c} {ρ:Nat->Option Nat} {mid:Nat} {n:Int} {left:List Int} {cur:Int} {a':AVal} (h:z9k objs ρ (zae mid n left cur)=some a'):∃ j,ρ mid=some j∧a'=zae j n left cur:=by
 simp only [zae,z9k,AVal.ren,Option.map_eq_some_iff] at h;obtain ⟨c,hc,rfl⟩:=h
 cases hm:ρ mid with
 | none=>rw [hm] at hc;simp at hc
 | some j=>
  rw [hm] at hc;simp only [Option.map_some,zI] at hc;exact ⟨j,rfl,by rw [←hc];rfl⟩
theorem zdx {objs:z2c} {os:List Obj} (hn:ids.Nodup) (ho:RenObjs objs ids os):{a a':AVal}->{cs:List Value}->a.ren objs (fun i=>z1e i ids 0)=some a'->AOK w g objs a cs->
  AOK w (z95 g ids) (z12 os) a' cs∧a'.sk=a.sk∧a'.isAgg=a.isAgg∧(∀ m∈a'.ids,m < ids.length)∧(∀ c,a≠.tup c)∧(∀ x y,a' = .pr x y->∃ x' y',a = .pr x' y')∧(a' = .un->a = .un)
 | .data t d,a',cs,h,hok=>by
  simp only [AVal.ren,zI] at h;subst h
  exact ⟨⟨hok.1,hok.2.kept z94⟩,rfl,rfl,by simp [AVal.ids],by simp,by simp,by simp⟩
 | .nilS,a',cs,h,hok=>by
  simp only [AVal.ren,zI] at h;subst h
  exact ⟨hok,rfl,rfl,by simp [AVal.ids],by simp,by simp,by simp⟩
 | .ref i p ep,a',cs,h,hok=>by
  simp only [AVal.ren] at h;split at h
  ·rename_i t l e hobj
   cases hb:Nat.beq e ep with
   | false=>rw [hb] at h;simp at h
   | true=>
    rw [hb] at h;have he:=zE hb;subst he;simp only [cond_true,Option.map_eq_some_iff] at h;obtain ⟨j,hj,rfl⟩:=h;have hjn:=z3t hj;obtain ⟨v,hv,hone,hx⟩:=hok;refine ⟨⟨v,hv,hone,fun t' l' e' he'=>?_⟩,rfl,rfl,by simpa [AVal.ids] using z4o hjn,by simp,by simp,by simp⟩;obtain ⟨o,o',h1,h2,h3⟩:=ho.get j i hjn;rw [hobj] at h1;simp only [zI] at h1;subst h1;simp only [Obj.ren,zI] at h2;subst h2;rw [h3] at he';simp only [zI,Obj.row.injEq] at he';obtain ⟨_,_,rfl⟩:=he';exact ⟨Nat.le_refl _,fun _=>by rw [zcz hjn];exact (hx _ _ _ hobj).2 rfl⟩
  ·simp at h
 | .view i p ep x y,a',cs,h,hok=>by
  simp only [AVal.ren] at h;split at h
  ·rename_i t l e hobj
   cases hb:Nat.beq e ep with
   | false=>rw [hb] at h;simp at h
   | true=>
    rw [hb] at h;have he:=zE hb;subst he;simp only [cond_true,Option.map_eq_some_iff] at h;obtain ⟨j,hj,rfl⟩:=h;have hjn:=z3t hj;obtain ⟨v,hv,hone,hx⟩:=hok;refine ⟨⟨v,hv,hone,fun t' l' e' he'=>?_⟩,rfl,rfl,by simpa [AVal.ids] using z4o hjn,by simp,by simp,by simp⟩;obtain ⟨o,o',h1,h2,h3⟩:=ho.get j i hjn;rw [hobj] at h1;simp only [zI] at h1;subst h1;simp only [Obj.ren,zI] at h2;subst h2;rw [h3] at he';simp only [zI,Obj.row.injEq] at he';obtain ⟨rfl,hl,rfl⟩:=he';have hl:=eq_of_heq hl;subst hl;exact ⟨Nat.le_refl _,fun _=>by rw [zcz hjn];exact (hx _ _ _ hobj).2 rfl⟩
  ·simp at h
 | .bptr i p,a',cs,h,hok=>by
  simp only [AVal.ren,Option.map_eq_some_iff] at h;obtain ⟨j,hj,rfl⟩:=h;have hjn:=z3t hj;obtain ⟨v,hv,hone,hx⟩:=hok;refine ⟨⟨v,hv,hone,fun y hy=>?_⟩,rfl,rfl,by simpa [AVal.ids] using z4o hjn,by simp,by simp,by simp⟩;obtain ⟨o,o',h1,h2,h3⟩:=ho.get j i hjn;rw [h3] at hy;simp only [zI] at hy;subst hy
  cases o with
  | row t l e=>simp [Obj.ren] at h2
  | map k v m=>simp [Obj.ren] at h2
  | nest t l e i h=>cases h <;> simp [Obj.ren] at h2
  | cell z=>
   simp only [Obj.ren,Option.map_eq_some_iff,Obj.cell.injEq] at h2;obtain ⟨z',hz,rfl⟩:=h2;obtain ⟨off,s,hoff,hvv⟩:=hx _ h1
   exact ⟨off,s,by rw [zus hz];exact hoff,by rw [z4n hjn];exact hvv⟩
 | .mref i,a',cs,h,hok=>by
  simp only [AVal.ren,Option.map_eq_some_iff] at h;obtain ⟨j,hj,rfl⟩:=h;have hjn:=z3t hj;obtain ⟨v,hv,hone,hx⟩:=hok;refine ⟨⟨v,hv,hone,fun kt vt m hm=>?_⟩,rfl,rfl,by simpa [AVal.ids] using z4o hjn,by simp,by simp,by simp⟩;obtain ⟨o,o',h1,h2,h3⟩:=ho.get j i hjn;rw [h3] at hm;simp only [zI] at hm;subst hm
  cases o with
  | row t l e=>simp [Obj.ren] at h2
  | cell z=>simp [Obj.ren] at h2
  | nest t l e i h=>cases h <;> simp [Obj.ren] at h2
  | map k' v' m'=>
   rw [z4n hjn];exact hx _ _ _ h1
 | .nv pt i p ep,a',cs,h,hok=>by
  simp only [AVal.ren] at h;split at h
  ·rename_i t l e i' hobj
   cases hb:Nat.beq (nep false p e i') ep with
   | false=>rw [hb] at h;simp at h
   | true=>
    rw [hb] at h;have he:=zE hb;simp only [cond_true,Option.map_eq_some_iff] at h;obtain ⟨j,hj,rfl⟩:=h;have hjn:=z3t hj;obtain ⟨v,hv,hone,hx⟩:=hok;refine ⟨⟨v,hv,hone,fun t' l' e' i'' h'' he'=>?_⟩,rfl,rfl,by simpa [AVal.ids] using z4o hjn,by simp,by simp,by simp⟩;obtain ⟨o,o',h1,h2,h3⟩:=ho.get j i hjn;rw [hobj] at h1;simp only [zI] at h1;subst h1;simp only [Obj.ren,zI] at h2;subst h2;rw [h3] at he';simp only [zI,Obj.nest.injEq] at he';obtain ⟨_,_,rfl,rfl,_⟩:=he';refine ⟨Nat.zero_le _,fun _=>⟨fun _=>by rw [zcz hjn];exact ((hx _ _ _ _ _ hobj).2 he).1 rfl,fun h=>(by simp at h)⟩⟩
  ·simp at h
 | .clos f c,a',cs,h,hok=>by
  simp only [AVal.ren,Option.map_eq_some_iff] at h;obtain ⟨c',hc,rfl⟩:=h;obtain ⟨vs,hv,hx⟩:=hok;obtain ⟨h1,h2,_,h3,_⟩:=zdx hn ho hc hx
  exact ⟨⟨vs,hv,h1⟩,rfl,rfl,h3,by simp,by simp,by simp⟩
 | .ifc t c,a',cs,h,hok=>by
  simp only [AVal.ren,Option.map_eq_some_iff] at h;obtain ⟨c',hc,rfl⟩:=h;obtain ⟨x,cs',hv,hx,hxv⟩:=hok;obtain ⟨h1,h2,hag,h3,_⟩:=zdx hn ho hc hx
  exact ⟨⟨x,cs',hv,h1,by rw [hag];exact hxv⟩,rfl,rfl,h3,by simp,by simp,by simp⟩
 | .agg c,a',cs,h,hok=>by
  simp only [AVal.ren,Option.map_eq_some_iff] at h;obtain ⟨c',hc,rfl⟩:=h;obtain ⟨h1,h2,_,h3,_⟩:=zdx hn ho hc (show AOK w g objs c cs from hok)
  exact ⟨h1,h2,rfl,h3,by simp,by simp,by simp⟩
 | .pr a b,a',cs,h,hok=>by
  simp only [AVal.ren] at h;split at h
  ·rename_i x y hx hy;simp only [zI] at h;subst h;obtain ⟨c1,c2,hcs,ok1,ok2⟩:=hok;obtain ⟨h1,h2,_,h3,_⟩:=zdx hn ho hx ok1;obtain ⟨k1,k2,_,k3,_⟩:=zdx hn ho hy ok2;refine ⟨⟨c1,c2,hcs,h1,k1⟩,by simp [AVal.sk,h2,k2],rfl,fun m hm=>?_,by simp,fun _ _ _=>⟨a,b,rfl⟩,by simp⟩;simp only [AVal.ids,List.mem_append] at hm;rcases hm with hm | hm
   ·exact h3 m hm
   ·exact k3 m hm
  ·simp at h
 | .un,a',cs,h,hok=>by
  simp only [AVal.ren,zI] at h;subst h
  exact ⟨hok,rfl,rfl,by simp [AVal.ids],by simp,by simp,by simp⟩
 | .eptr _ _ _,a',cs,h,_=>by simp [AVal.ren] at h
 | .tup _,a',cs,h,_=>by simp [AVal.ren] at h
theorem zvo {objs:z2c} {os:List Obj} (hn:ids.Nodup) (ho:RenObjs objs ids os) {a a':AVal} {v:Value} (h:a.ren objs (fun i=>z1e i ids 0)=some a') (hv:VOK w g objs a v) :
  VOK w (z95 g ids) (z12 os) a' v∧∀ m∈a'.ids,m < ids.length:=by
 have ht:∀ c,a≠.tup c:=by intro c hc;subst hc;simp [AVal.ren] at h
 obtain ⟨cs,hok,hmk⟩:=z4y hv ht;obtain ⟨h1,h2,h3,h4,h5,h6,h7⟩:=zdx hn ho h hok;refine ⟨z19 h1 (by rw [h3];exact hmk) (fun x y he=>?_) (fun he=>?_),h4⟩
 ·obtain ⟨x',y',rfl⟩:=h6 x y he;simp only [VOK] at hv
 ·have:=h7 he;subst this;simp only [VOK] at hv
theorem zvp {objs:z2c} {os:List Obj} (hn:ids.Nodup) (ho:RenObjs objs ids os) {i j:Nat} (hj:z12 ids j=some i) {o o':Obj} (h:o.ren objs (fun i=>z1e i ids 0)=some o') (hok:z14 w g objs i o) :
  z14 w (z95 g ids) (z12 os) j o'∧∀ y,o' = .cell y->∀ m∈y.ids,m < ids.length:=by
 cases o with
 | row t l e=>
  simp only [Obj.ren,zI] at h;subst h;refine ⟨⟨hok.1,?_⟩,by simp⟩;rw [zcz hj]
  exact Rep.move z94 (o:=some (i,[])) (o':=some (j,[])) (zip hn hj) hok.2
 | cell y=>
  simp only [Obj.ren,Option.map_eq_some_iff] at h;obtain ⟨y',hy,rfl⟩:=h
  cases htu:y.isTup with
  | true=>
   cases hcon:y.isCon with
   | true=>
    obtain ⟨x,rfl⟩:=zja hcon;obtain ⟨c,e,h1,h2,h3⟩:=(z14.con hcon).1 hok;simp only [z9k,Option.map_eq_some_iff] at hy;obtain ⟨x',hx,rfl⟩:=hy;obtain ⟨k1,_,_,k2,_⟩:=zdx hn ho hx h3;have hcon':(AVal.tup x').isCon=true:=by
     cases x <;> simp [AVal.isCon] at hcon
     ·simp only [AVal.ren,Option.map_eq_some_iff] at hx;obtain ⟨x2,hx,rfl⟩:=hx;rfl
     ·simp only [AVal.ren,Option.map_eq_some_iff] at hx;obtain ⟨x2,hx,rfl⟩:=hx;rfl
    refine ⟨(z14.con hcon').2 ⟨c,e,by rw [z4n hj];exact h1,?_,k1⟩,fun z hz=>?_⟩
    ·rw [z4n hj];exact (z94 (w:=w).blk _ h2).1
    ·simp only [Obj.cell.injEq] at hz
     subst hz;exact k2
   | false=>
   obtain ⟨mid,n,bm,seen,last,rfl,h1,h2,h3,h4⟩:=(z14.iter htu hcon).1 hok;obtain ⟨j',hj',rfl⟩:=zp1 hy;have hjn:=z3t hj';refine ⟨(z14.iter rfl).2 ⟨j',n,bm,seen,last,rfl,by rw [z4n hj];exact h1,by rw [z4n hj];exact zkk hn hj h2,h3,fun kt vt m hm=>?_⟩,fun z hz=>?_⟩
   ·obtain ⟨o,o',k1,k2,k3⟩:=ho.get j' mid hjn;rw [k3] at hm;simp only [zI] at hm;subst hm
    cases o with
    | row t l e=>simp [Obj.ren] at k2
    | cell z=>simp [Obj.ren] at k2
    | nest t l e i h=>cases h <;> simp [Obj.ren] at k2
    | map k' v' m'=>rw [z4n hjn];exact h4 _ _ _ k1
   ·simp only [Obj.cell.injEq] at hz;subst hz
    simpa [zae,AVal.ids] using z4o hjn
  | false=>
  rw [zha htu] at hy;obtain ⟨c,e,h1,h2,h3⟩:=hok.out htu;obtain ⟨k1,_,_,k2,_⟩:=zdx hn ho hy h3;refine ⟨z14.mk ⟨c,e,by rw [z4n hj];exact h1,by rw [z4n hj];exact zkk hn hj h2,k1⟩,fun z hz=>?_⟩;simp only [Obj.cell.injEq] at hz
  subst hz;exact k2
 | map kt vt m=>
  simp only [Obj.ren,zI] at h;subst h;obtain ⟨es,ck,h1,h2,h3,h4,h5,h6⟩:=hok
  exact ⟨⟨es,ck,by rw [z4n hj];exact h1,by rw [z4n hj];exact zkk hn hj h2,h3,h4,h5.kept z94,h6⟩,by simp⟩
 | nest t l e i' hole=>
  cases hole with
  | some p=>simp [Obj.ren] at h
  | none=>
   simp only [Obj.ren,zI] at h;subst h;refine ⟨?_,by simp⟩;show Rep w (z95 g ids) (some (j,[])) (.sl true t) l [(z95 g ids).sv j []];rw [zcz hj];exact Rep.move z94 (o:=some (i,[])) (o':=some (j,[])) (zip hn hj) (show Rep w g (some (i,[])) (.sl true t) l [g.sv i []] from hok)
end
theorem zbq {objs:z2c} {ρ:Nat->Option Nat}:{l l':List (Nat×AVal)}->zbr objs ρ l=some l'->∀ i a',z1v l' i=some a'->∃ a,z1v l i=some a∧a.ren objs ρ=some a'
 | [],l',h,i,a',hi=>by
  simp only [zbr,zI] at h;subst h
  simp [z1v] at hi
 | (j,a) :: l,l',h,i,a',hi=>by
  simp only [zbr] at h;split at h
  ·rename_i a1 l1 h1 h2;simp only [zI] at h;subst h;simp only [z1v] at hi ⊢
   cases hb:Nat.beq j i with
   | true=>
    rw [hb] at hi;simp only [cond_true,zI] at hi;subst hi
    exact ⟨a,by simp,h1⟩
   | false=>
    rw [hb] at hi;simp only [cond_false] at hi ⊢;exact zbq h2 i a' hi
  ·simp at h
theorem zaj {σ:St}:{live:List Nat}->{l:List (Nat×AVal)}->z9b σ live=some l->∀ i a,z1v l i=some a->σ.slots i=some a
 | [],l,h,i,a,hi=>by
  simp only [z9b,zI] at h;subst h
  simp [z1v] at hi
 | j :: live,l,h,i,a,hi=>by
  simp only [z9b] at h;split at h
  ·rename_i a1 l1 h1 h2;simp only [zI] at h;subst h;simp only [z1v] at hi
   cases hb:Nat.beq j i with
   | true=>
    rw [hb] at hi;simp only [cond_true,zI] at hi;subst hi
    rw [←zE hb];exact h1
   | false=>
    rw [hb] at hi;exact zaj h2 i a hi
  ·simp at h
section
variable {n:Nat} {w:World} {a:Act} {g:Ghost} {σ:St} {r:R}
theorem zzk {k:List (Nat×AVal)->List Obj->Option R} {l:List (Nat×AVal)} (hl:∀ i a,z1v l i=some a->σ.slots i=some a) (hst:StOK n g w a σ) (h:zvn l σ k=some r) :
  ∃ sl os g',k sl os=some r∧StOK n g' w a (St.of sl os)∧Ext w g w g'∧z18 g' (St.of sl os):=by
 unfold zvn at h;simp only at h;split at h
 ·rename_i l' os hs hos;have hnd:(z52 σ.objs 100 (l.flatMap fun x=>x.2.ids) []).Nodup:=z6z _ _ _ (by simp);generalize hids:z52 σ.objs 100 (l.flatMap fun x=>x.2.ids) []=ids at *;obtain ⟨hlen,hget⟩:=z93 hos;have hro:RenObjs σ.objs ids os:=⟨hlen,hget⟩;have hslot:∀ i av,z1v l' i=some av->∃ v,a.tmps[i]? = some v∧VOK w (z95 g ids) (z12 os) av v∧∀ m∈av.ids,m < ids.length:=by
   intro i av hi;obtain ⟨a0,h1,h2⟩:=zbq hs i av hi;obtain ⟨v,hv,hok⟩:=hst.slots i a0 (hl i a0 h1);obtain ⟨k1,k2⟩:=zvo hnd hro h2 hok;exact ⟨v,hv,k1,k2⟩
  have hobj:∀ j o',z12 os j=some o'->z14 w (z95 g ids) (z12 os) j o'∧∀ y,o' = .cell y->∀ m∈y.ids,m < ids.length:=by
   intro j o' hj;obtain ⟨i,hi⟩:=z7s (l:=ids) (i:=j) (by rw [←hlen];exact z4o hj);obtain ⟨o,o2,h1,h2,h3⟩:=hget j i hi;rw [hj] at h3;simp only [zI] at h3;subst h3;exact zvp hnd hro hi h2 (hst.heap.objs i o h1)
  refine ⟨l',os,z95 g ids,h,⟨fun i av hi=>?_,⟨fun j o' hj=>(hobj j o' hj).1,fun b hb=>hst.heap.tags b (zu0 hb)⟩,hst.size,hst.defers,hst.known.kept z94⟩,zzl,fun m hm=>?_⟩
  ·obtain ⟨v,h1,h2,_⟩:=hslot i av hi;exact ⟨v,h1,h2⟩
  ·have hm':ids.length≤m:=by rw [←hlen];exact hm
   refine ⟨?_,fun b p hb=>?_,fun b hb=>?_,fun i av hi hmem=>?_,fun j y hj hmem=>?_⟩
   ·cases hc:z12 os m with
    | none=>exact hc
    | some o=>have:=z4o hc;omega
   ·have:=zq5 (.inl ⟨p,hb⟩);omega
   ·have:=zq5 (.inr hb);omega
   ·obtain ⟨v,_,_,h3⟩:=hslot i av hi;have:=h3 m hmem;omega
   ·have:=(hobj j _ hj).2 y rfl m hmem;omega
 ·simp at h
end
theorem zz6 {a b:Step} (h:stepB a b=true):a=b:=by
 cases a <;> cases b <;> simp [stepB] at h <;> rfl
theorem zrw:{p q:z1a}->zu3 p q=true->p=q
 | [],[],_=>rfl
 | a :: p,b :: q,h=>by
  simp only [zu3,zA] at h
  rw [zz6 h.1,zrw h.2]
 | [],_ :: _,h=>by simp [zu3] at h
 | _ :: _,[],h=>by simp [zu3] at h
theorem z1l {b:Bool} {x:Option R} {r:R} (h:cond b x none=some r):b=true∧x=some r:=by
 cases b <;> simp_all
theorem SPat.take_some:(p:SPat)->{a:AVal}->{k:p.den->Option R}->{r:R}->p.take a k=some r->∃ d,a=p.mk d∧k d=some r
 | .val t,a,k,r,h=>by
  cases a with
  | data u d=>
   simp only [SPat.take] at h;replace h:=z0u h;obtain ⟨rfl,h⟩:=h
   exact ⟨d,rfl,h⟩
  | _=>simp [SPat.take] at h
 | .nilS,a,k,r,h=>by
  cases a with
  | nilS=>exact ⟨(),rfl,h⟩
  | _=>simp [SPat.take] at h
 | .ref id,a,k,r,h=>by
  cases a with
  | ref id' p ep=>
   cases p with
   | nil=>
    simp only [SPat.take] at h;replace h:=z1l h;obtain ⟨hb,h⟩:=h;simp only [zA,zlx] at hb;obtain ⟨rfl,rfl⟩:=hb
    exact ⟨(),rfl,h⟩
   | cons s q=>simp [SPat.take] at h
  | _=>simp [SPat.take] at h
 | .view id,a,k,r,h=>by
  cases a with
  | view id' p ep x y=>
   cases p with
   | nil=>
    simp only [SPat.take] at h;replace h:=z1l h;obtain ⟨hb,h⟩:=h;simp only [zA,zlx] at hb;obtain ⟨rfl,rfl⟩:=hb
    exact ⟨(x,y),rfl,h⟩
   | cons s q=>simp [SPat.take] at h
  | _=>simp [SPat.take] at h
 | .bptr id p,a,k,r,h=>by
  cases a with
  | bptr id' p'=>
   simp only [SPat.take] at h;replace h:=z1l h;obtain ⟨hb,h⟩:=h;simp only [zA,zlx] at hb;obtain ⟨rfl,hb⟩:=hb;obtain rfl:=zrw hb
   exact ⟨(),rfl,h⟩
  | _=>simp [SPat.take] at h
 | .mref id,a,k,r,h=>by
  cases a with
  | mref id'=>
   simp only [SPat.take] at h;replace h:=z1l h;obtain ⟨hb,h⟩:=h;simp only [zlx] at hb;subst hb
   exact ⟨(),rfl,h⟩
  | _=>simp [SPat.take] at h
 | .nv id,a,k,r,h=>by
  cases a with
  | nv pt id' p ep=>
   cases pt with
   | true=>simp [SPat.take] at h
   | false=>
    cases p with
    | nil=>
     simp only [SPat.take] at h;replace h:=z1l h;obtain ⟨hb,h⟩:=h;simp only [zA,zlx] at hb;obtain ⟨rfl,rfl⟩:=hb
     exact ⟨(),rfl,h⟩
    | cons s q=>simp [SPat.take] at h
  | _=>simp [SPat.take] at h
 | .nvi id,a,k,r,h=>by
  cases a with
  | nv pt id' p ep=>
   cases pt with
   | true=>simp [SPat.take] at h
   | false=>
    cases p with
    | nil=>simp [SPat.take] at h
    | cons s q=>
     cases q with
     | cons s' q'=>cases s <;> simp [SPat.take] at h
     | nil=>
      cases s with
      | fst=>simp [SPat.take] at h
      | snd=>simp [SPat.take] at h
      | idx i=>
       simp only [SPat.take] at h;replace h:=z1l h;obtain ⟨hb,h⟩:=h;simp only [zA,zlx] at hb;obtain ⟨rfl,rfl⟩:=hb
       exact ⟨i,rfl,h⟩
  | _=>simp [SPat.take] at h
 | .clos f c,a,k,r,h=>by
  cases a with
  | clos g d=>
   simp only [SPat.take] at h;replace h:=z1l h;obtain ⟨hb,h⟩:=h;simp only [zlx] at hb;subst hb;replace h:=SPat.take_some c h;obtain ⟨d',rfl,h⟩:=h
   exact ⟨d',rfl,h⟩
  | _=>simp [SPat.take] at h
 | .ifc f c,a,k,r,h=>by
  cases a with
  | ifc g d=>
   simp only [SPat.take] at h;replace h:=z1l h;obtain ⟨hb,h⟩:=h;simp only [zlx] at hb;subst hb;replace h:=SPat.take_some c h;obtain ⟨d',rfl,h⟩:=h
   exact ⟨d',rfl,h⟩
  | _=>simp [SPat.take] at h
 | .agg c,a,k,r,h=>by
  cases a with
  | agg d=>
   simp only [SPat.take] at h;replace h:=SPat.take_some c h;obtain ⟨d',rfl,h⟩:=h
   exact ⟨d',rfl,h⟩
  | _=>simp [SPat.take] at h
 | .pr p q,a,k,r,h=>by
  cases a with
  | pr x y=>
   simp only [SPat.take] at h;replace h:=SPat.take_some p h;obtain ⟨d,rfl,h⟩:=h;replace h:=SPat.take_some q h;obtain ⟨e,rfl,h⟩:=h
   exact ⟨(d,e),rfl,h⟩
  | _=>simp [SPat.take] at h
 | .un,a,k,r,h=>by
  cases a with
  | un=>exact ⟨(),rfl,h⟩
  | _=>simp [SPat.take] at h
theorem SObj.take_some (o:SObj) {x:Obj} {k:o.den->Option R} {r:R} (h:o.take x k=some r):∃ d,x=o.mk d∧k d=some r:=by
 cases o with
 | row t=>
  cases x with
  | row u l ep=>
   simp only [SObj.take] at h;replace h:=z1l h;obtain ⟨hb,h⟩:=h;simp only [zlx] at hb;subst hb;replace h:=z0u h;obtain ⟨he,h⟩:=h;simp only [Ty.sl.injEq,true_and] at he;subst he
   exact ⟨l,rfl,h⟩
  | _=>simp [SObj.take] at h
 | cell p=>
  cases x with
  | cell a=>
   simp only [SObj.take] at h;replace h:=SPat.take_some p h;obtain ⟨d,rfl,h⟩:=h
   exact ⟨d,rfl,h⟩
  | _=>simp [SObj.take] at h
 | map kt vt=>
  cases x with
  | map kt' vt' m=>
   simp only [SObj.take,castM] at h;split at h
   ·rename_i h1 h2 _ _;obtain rfl:=h1.down;obtain rfl:=h2.down;exact ⟨m,rfl,h⟩
   ·simp at h
  | _=>simp [SObj.take] at h
 | nest t=>
  cases x with
  | nest u l e i hole=>
   cases hole with
   | some p=>simp [SObj.take] at h
   | none=>
    simp only [SObj.take] at h;replace h:=z1l h;obtain ⟨hb,h⟩:=h;simp only [zA,zlx] at hb;obtain ⟨rfl,rfl⟩:=hb;replace h:=z0u h;obtain ⟨he,h⟩:=h;simp only [Ty.sl.injEq,true_and] at he;subst he
    exact ⟨l,rfl,h⟩
  | _=>simp [SObj.take] at h
 | iter id=>
  cases x with
  | cell a=>
   simp only [SObj.take] at h;split at h
   ·rename_i hq _ _;cases hq
   ·rename_i hq _ _;cases hq
   ·rename_i hq _ _;cases hq
   ·rename_i hq _ _;cases hq
   ·rename_i id1 id2 n left cur k1 hq1 hq2;cases hq1;cases hq2;replace h:=z1l h;obtain ⟨hb,h⟩:=h;simp only [zlx] at hb;subst hb;exact ⟨(n,left,cur),rfl,h⟩
   ·rename_i hq _ _;cases hq
   ·simp at h
  | _=>simp [SObj.take] at h
 | con p=>
  cases x with
  | cell a=>
   simp only [SObj.take] at h;split at h
   ·rename_i hq _ _;cases hq
   ·rename_i hq _ _;cases hq
   ·rename_i hq _ _;cases hq
   ·rename_i hq _ _;cases hq
   ·rename_i hq _ _;cases hq
   ·rename_i p1 a1 k1 hq0 hq1 hq2;cases hq0;cases hq1;cases hq2;replace h:=SPat.take_some p h;obtain ⟨d,rfl,h⟩:=h;exact ⟨d,rfl,h⟩
   ·simp at h
  | _=>simp [SObj.take] at h
theorem zaq:(l:List (Nat×SPat))->{m:List (Nat×AVal)}->{k:zcw l->Option R}->{r:R}->zij l m k=some r->∃ d,m=z84 l d∧k d=some r
 | [],[],k,r,h=>⟨(),rfl,h⟩
 | [],_ :: _,k,r,h=>by simp [zij] at h
 | _ :: _,[],k,r,h=>by simp [zij] at h
 | (i,p) :: l,(j,a) :: m,k,r,h=>by
  simp only [zij] at h;replace h:=z1l h;obtain ⟨hb,h⟩:=h;simp only [zlx] at hb;subst hb;replace h:=SPat.take_some p h;obtain ⟨d,rfl,h⟩:=h;replace h:=zaq l h;obtain ⟨e,rfl,h⟩:=h;exact ⟨(d,e),rfl,h⟩
theorem z89:(l:List SObj)->{m:List Obj}->{k:zhv l->Option R}->{r:R}->zfp l m k=some r->∃ d,m=z96 l d∧k d=some r
 | [],[],k,r,h=>⟨(),rfl,h⟩
 | [],_ :: _,k,r,h=>by simp [zfp] at h
 | _ :: _,[],k,r,h=>by simp [zfp] at h
 | o :: l,x :: m,k,r,h=>by
  simp only [zfp] at h;replace h:=SObj.take_some o h;obtain ⟨d,rfl,h⟩:=h;replace h:=z89 l h;obtain ⟨e,rfl,h⟩:=h;exact ⟨(d,e),rfl,h⟩
end Go.Kz
namespace Go.Kz
variable {R:Type}
def z30 (x:Bool) (g:Ghost) (ids:List Nat):Ghost:={ z95 g ids with
 tag:=fun b=>match g.tag b with
  | .row i p=>(match z1e i ids 0 with
   | some j=>.row j p
   | none=>if x then .ro else .alien)
  | .box i=>(match z1e i ids 0 with
   | some j=>.box j
   | none=>if x then .ro else .alien)
  | t=>t }
section
variable {w:World} {g:Ghost} {ids:List Nat} {x:Bool}
theorem zet {b:Nat} (h:(z95 g ids).tag b≠.alien):(z30 x g ids).tag b=(z95 g ids).tag b:=by
 simp only [z95,z30] at h ⊢
 cases ht:g.tag b with
 | alien=>rfl
 | ro=>rfl
 | row i p=>
  rw [ht] at h
  cases hx:z1e i ids 0 with
  | none=>simp [hx] at h
  | some j=>simp [hx]
 | box i=>
  rw [ht] at h
  cases hx:z1e i ids 0 with
  | none=>simp [hx] at h
  | some j=>simp [hx]
theorem zes:RoKept w (z95 g ids) w (z30 x g ids):=⟨fun b hb=>⟨by rw [zet (by rw [hb];simp)];exact hb,rfl⟩⟩
theorem zj5 (id:Nat):Same w (z95 g ids) w (z30 x g ids) id:=by
 refine ⟨⟨fun _=>rfl,fun q b hb=>⟨by rw [zet (by rw [hb];simp)];exact hb,rfl⟩⟩,rfl,fun hb=>⟨by rw [zet (by rw [hb];simp)];exact hb,rfl⟩⟩
theorem zj6 (id:Nat) (o:Option Obj):z15 (z95 g ids) (z30 x g ids) id o o:=z15.same (w:=default) (w':=default) (zj5 id)
theorem z9c {b:Nat} (h:g.tag b = .alien∨g.tag b = .ro):(z30 x g ids).tag b=g.tag b:=by
 rcases h with h | h <;> simp [z30,h]
theorem zqj {b:Nat} (h:(z30 x g ids).tag b≠.alien):g.tag b≠.alien:=by
 intro h';simp [z30,h'] at h
theorem zsf {b m:Nat} (h:(∃ p,(z30 x g ids).tag b = .row m p)∨(z30 x g ids).tag b = .box m):m < ids.length:=by
 refine zq5 (g:=g) (b:=b) ?_;by_cases hr:(z95 g ids).tag b = .alien
 ·exfalso;simp only [z95,z30] at h hr
  cases ht:g.tag b with
  | alien=>rw [ht] at h;simp at h
  | ro=>rw [ht] at hr;simp at hr
  | row i p=>
   rw [ht] at h hr
   cases hx:z1e i ids 0 with
   | none=>cases x <;> simp [hx] at h
   | some j=>simp [hx] at hr
  | box i=>
   rw [ht] at h hr
   cases hx:z1e i ids 0 with
   | none=>cases x <;> simp [hx] at h
   | some j=>simp [hx] at hr
 ·rw [zet hr] at h;exact h
theorem z7u {b i:Nat} (h:(∃ p,g.tag b = .row i p)∨g.tag b = .box i) (hi:i∉ids):(z30 x g ids).tag b=if x then .ro else .alien:=by
 have hx:z1e i ids 0=none:=by
  cases h':z1e i ids 0 with
  | none=>rfl
  | some j=>exact absurd (z31 (z3t h')) hi
 rcases h with ⟨p,h⟩ | h <;> simp [z30,h,hx]
theorem only_rep {t:Ty} {d:t.den} {cs:List Value} (h:Rep w (roG { g with tag:=fun b=>match g.tag b with
  | .row i p=>if i∈ids then .alien else .row i p
  | .box i=>if i∈ids then .alien else .box i
  | t=>t }) none t d cs):Rep w (z30 true g ids) none t d cs:=by
 refine h.kept ⟨fun b hb=>⟨?_,rfl⟩⟩;simp only [roG] at hb
 cases ht:g.tag b with
 | alien=>simp [ht] at hb
 | ro=>simp [z30,ht]
 | row i p=>
  by_cases hi:i∈ids
  ·simp [ht,hi] at hb
  ·rw [z7u (.inl ⟨p,ht⟩) hi];rfl
 | box i=>
  by_cases hi:i∈ids
  ·simp [ht,hi] at hb
  ·rw [z7u (.inr ht) hi];rfl
end
section
variable {w:World} {g:Ghost} {σ:St}
def zi0 (g:Ghost) (ids:List Nat):Ghost:={ g with tag:=fun b=>match g.tag b with
 | .row i p=>if i∈ids then .alien else .row i p
 | .box i=>if i∈ids then .alien else .box i
 | t=>t }
theorem zsj {ids:List Nat}:RoKept w g w (zi0 g ids):=⟨fun b hb=>⟨by simp [zi0,hb],rfl⟩⟩
theorem zjb {ids:List Nat} {id:Nat} (hi:id∉ids):Same w g w (zi0 g ids) id:=
 ⟨⟨fun _=>rfl,fun q b hb=>⟨by simp at hb;simp [zi0,hb,hi],rfl⟩⟩,rfl,fun hb=>⟨by simp [zi0,hb,hi],rfl⟩⟩
theorem zn4 {ids:List Nat} (id:Nat):(σ.only fun i=>!z2q i ids).objs id=if id∈ids then none else σ.objs id:=by
 simp only [St.only]
 cases h:z2q id ids with
 | true=>rw [if_pos (z27.1 h)];rfl
 | false=>rw [if_neg (z10.1 h)];rfl
theorem zn5 {ids:List Nat} (id:Nat):z15 g (zi0 g ids) id (σ.objs id) ((σ.only fun i=>!z2q i ids).objs id):=by
 rw [zn4];by_cases h:id∈ids
 ·rw [if_pos h];exact .inl rfl
 ·rw [if_neg h];exact z15.same (w:=default) (w':=default) (zjb h)
theorem zw9 {ids:List Nat} (hh:HeapOK w g σ.objs):HeapOK w (zi0 g ids) (σ.only fun i=>!z2q i ids).objs:=by
 refine ⟨fun id o ho=>?_,fun b hb=>hh.tags b fun h=>hb (by simp [zi0,h])⟩;rw [zn4] at ho;by_cases h:id∈ids
 ·rw [if_pos h] at ho;simp at ho
 ·rw [if_neg h] at ho;exact z14.frame zsj (zjb h) (fun _ _ id' _=>zn5 id') (hh.objs id o ho)
variable {ids:List Nat} {os:List Obj} {x:Bool}
theorem zj0 (hn:ids.Nodup) (ho:RenObjs σ.objs ids os) (hh:HeapOK w g σ.objs):(l:List (Nat×SPat))->{all:AVal}->{vs:List Value}->{i0:Nat}->{k:zcw l->Option R}->{r:R}->
  znj l i0=true->z4b all=true->(x=true∨zc4 l all=true)->z1o w g σ.objs all vs->
  z7d (σ.only fun i=>!z2q i ids) σ.objs (fun i=>z1e i ids 0) l all k=some r->
  ∃ d,k d=some r∧(∀ i av,z1v (z84 l d) i=some av->i0≤i∧∃ v,vs[i-i0]? = some v∧VOK w (z30 x g ids) (z12 os) av v∧∀ m∈av.ids,m < ids.length)∧
   (∀ n a p,z2k all n=some a->z12 l n=some p->p.2.isVal=false->∃ a',a.ren σ.objs (fun i=>z1e i ids 0)=some a')∧vs.length=l.length
 | [],all,vs,i0,k,r,_,hv,_,hvs,h=>by
  cases all with
  | un=>
   simp only [z1o] at hvs;subst hvs
   exact ⟨(),h,fun i av hi=>by simp [z84,z1v] at hi,fun n a p hn=>by cases n <;> simp [z2k] at hn,rfl⟩
  | _=>simp [z7d] at h
 | (i1,p) :: l,all,vs,i0,k,r,hk,hv,hx,hvs,h=>by
  cases all with
  | pr a c=>
   simp only [znj,zA,zlx] at hk;obtain ⟨rfl,hk⟩:=hk;simp only [z4b,zA] at hv;simp only [z1o] at hvs;obtain ⟨v,rest,rfl,hv1,hv2⟩:=hvs;have fin:∀ (d:p.den),(z7d (σ.only fun i=>!z2q i ids) σ.objs (fun i=>z1e i ids 0) l c fun e=>k (d,e))=some r->VOK w (z30 x g ids) (z12 os) (p.mk d) v->(∀ m∈(p.mk d).ids,m < ids.length)->
     (p.isVal=false->∃ a',a.ren σ.objs (fun i=>z1e i ids 0)=some a')->(x=true∨zc4 l c=true)->
     ∃ d,k d=some r∧(∀ i av,z1v (z84 ((i1,p) :: l) d) i=some av->i1≤i∧∃ u,(v :: rest)[i-i1]? = some u∧VOK w (z30 x g ids) (z12 os) av u∧∀ m∈av.ids,m < ids.length)∧
      (∀ n b q,z2k (.pr a c) n=some b->z12 ((i1,p) :: l) n=some q->q.2.isVal=false->∃ a',b.ren σ.objs (fun i=>z1e i ids 0)=some a')∧(v :: rest).length=((i1,p) :: l).length:=by
    intro d h hvd hids hren hx;obtain ⟨e,hke,h1,h2,h3⟩:=zj0 hn ho hh l hk hv.2 hx hv2 h;refine ⟨(d,e),hke,fun i av hi=>?_,fun n b q hb hq hq2=>?_,by simp [h3]⟩
    ·simp only [z84,z1v] at hi
     cases hb:Nat.beq i1 i with
     | true=>
      rw [hb] at hi;simp only [cond_true,zI] at hi;subst hi;have:=zE hb;subst this
      exact ⟨Nat.le_refl _,v,by simp,hvd,hids⟩
     | false=>
      rw [hb] at hi;obtain ⟨q1,u,q2,q3,q4⟩:=h1 i av hi;refine ⟨by omega,u,?_,q3,q4⟩;have e:i-i1=(i-(i1+1))+1:=by omega
      rw [e];simpa using q2
    ·cases n with
     | zero=>
      simp only [z2k,zI] at hb;simp only [z12,zI] at hq;subst hb;subst hq
      exact hren hq2
     | succ n=>exact h2 n b q hb hq hq2
   cases p with
   | val t=>
    simp only [z7d] at h;obtain ⟨hag,hn1,hn2,hn3⟩:=z2t hv.1;obtain ⟨cs,hok,hmk⟩:=z4y hv1 hn3;have hok':AOK w (zi0 g ids) (σ.only fun i=>!z2q i ids).objs a cs:=AOK.frame zsj (fun id _=>zn5 id) hok;have hh':=zw9 (ids:=ids) hh;have hd:∃ d,(z7d (σ.only fun i=>!z2q i ids) σ.objs (fun i=>z1e i ids 0) l c fun e=>k (d,e))=some r∧t.isRo=true∧Rep w (z30 x g ids) none t d cs:=by
     rcases hx with rfl | hx
     ·obtain ⟨d,h1,h2,h3⟩:=z5r hh' 20 hok' h;exact ⟨d,h1,h2,only_rep h3⟩
     ·simp only [zc4,zA,SPat.isVal,Bool.not_true,Bool.false_or] at hx;obtain ⟨d,h1,h2,h3⟩:=z83 20 hx.1 hok' h;refine ⟨d,h1,h2,h3.kept ⟨fun b hb=>⟨?_,rfl⟩⟩⟩;have:g.tag b = .ro:=by
       simp only [zi0] at hb;cases ht:g.tag b <;> rw [ht] at hb <;> simp at hb <;> first | rfl | (split at hb <;> simp at hb)
      rw [z9c (.inr this),this]
    obtain ⟨d,h1,h2,h3⟩:=hd;refine fin d h1 ?_ (by simp [SPat.mk,AVal.ids]) (by simp [SPat.isVal]) (hx.imp _root_.id fun hx=>by simp only [zc4,zA] at hx;exact hx.2);simp only [SPat.mk,VOK]
    exact ⟨cs,⟨h2,h3⟩,by rw [hmk,z9n hh' hv.1 h];rfl⟩
   | _=>
    simp only [z7d] at h;split at h
    ·rename_i a' ha';obtain ⟨d,he,h⟩:=SPat.take_some _ h;obtain ⟨h1,h2⟩:=zvo hn ho ha' hv1;refine fin d h ?_ (by rw [←he];exact h2) (fun _=>⟨a',ha'⟩) (hx.imp _root_.id fun hx=>by simp only [zc4,zA] at hx;exact hx.2);rw [←he];exact VOK.frame zes (fun id _=>zj6 id _) h1
    ·simp at h
  | _=>simp [z7d] at h
end
end Go.Kz
namespace Go.Kz
variable {R:Type}
def zeg (M:List Nat):Tag->Tag
 | .row j p=>(match z12 M j with
  | some id=>.row id p
  | none=>.alien)
 | .box j=>(match z12 M j with
  | some id=>.box id
  | none=>.alien)
 | t=>t
def z6q (g gc:Ghost) (ids M:List Nat) (size:Nat) (keep:Nat->Bool):Ghost where
 tag:=fun b=>if b < size then (match g.tag b with
   | .row i p=>if i∈ids then zeg M (gc.tag b) else .row i p
   | .box i=>if i∈ids then zeg M (gc.tag b) else .box i
   | t=>t) else zeg M (gc.tag b)
 sv:=fun i p=>match z1e i M 0 with
  | some j=>if keep i then g.sv i p else gc.sv j p
  | none=>g.sv i p
 blk:=fun i=>match z1e i M 0 with
  | some j=>gc.blk j
  | none=>g.blk i
section
variable {w w':World} {g gc:Ghost} {ids M:List Nat} {x:Bool} {keep:Nat->Bool}
theorem z8r (hext:Ext w (z30 x g ids) w' gc) (b:Nat) :
  (b < w.heap.size∧(z6q g gc ids M w.heap.size keep).tag b=g.tag b∧gc.tag b=(z30 x g ids).tag b∧w'.heap[b]? = w.heap[b]?∧((z30 x g ids).tag b = .alien∨(z30 x g ids).tag b = .ro)∧
   ∀ i∈ids,(∀ p,g.tag b≠.row i p)∧g.tag b≠.box i)∨
  ((z6q g gc ids M w.heap.size keep).tag b=zeg M (gc.tag b)∧(b < w.heap.size->∃ i∈ids,(∃ p,g.tag b = .row i p)∨g.tag b = .box i)):=by
 by_cases hlt:b < w.heap.size
 ·have key:∀ t,g.tag b=t->((z30 x g ids).tag b = .alien∨(z30 x g ids).tag b = .ro)->(z6q g gc ids M w.heap.size keep).tag b=t->(∀ i∈ids,(∀ p,g.tag b≠.row i p)∧g.tag b≠.box i)->
    (b < w.heap.size∧(z6q g gc ids M w.heap.size keep).tag b=g.tag b∧gc.tag b=(z30 x g ids).tag b∧w'.heap[b]? = w.heap[b]?∧((z30 x g ids).tag b = .alien∨(z30 x g ids).tag b = .ro)∧
   ∀ i∈ids,(∀ p,g.tag b≠.row i p)∧g.tag b≠.box i):=by
   intro t ht hl hb hi;obtain ⟨h1,h2⟩:=hext.keep b hlt hl;exact ⟨hlt,hb.trans ht.symm,h2,h1,hl,hi⟩
  have hcase:g.tag b = .alien∨g.tag b = .ro∨(∃ i p,g.tag b = .row i p)∨∃ i,g.tag b = .box i:=by cases g.tag b <;> simp
  rcases hcase with ht | ht | ⟨i,p,ht⟩ | ⟨i,ht⟩
  ·left;exact key _ ht (by rw [z9c (.inl ht),ht];simp) (by simp [z6q,ht,hlt]) (by simp [ht])
  ·left;exact key _ ht (by rw [z9c (.inr ht),ht];simp) (by simp [z6q,ht,hlt]) (by simp [ht])
  ·by_cases hi:i∈ids
   ·right;exact ⟨by simp [z6q,ht,hlt,hi],fun _=>⟨i,hi,.inl ⟨p,ht⟩⟩⟩
   ·left;refine key _ ht ?_ (by simp [z6q,ht,hlt,hi]) (fun i' hi'=>⟨fun p' he=>?_,by simp [ht]⟩)
    ·rw [z7u (.inl ⟨p,ht⟩) hi];cases x <;> simp
    ·rw [ht] at he;simp only [Tag.row.injEq] at he;rw [he.1] at hi;exact hi hi'
  ·by_cases hi:i∈ids
   ·right;exact ⟨by simp [z6q,ht,hlt,hi],fun _=>⟨i,hi,.inr ht⟩⟩
   ·left;refine key _ ht ?_ (by simp [z6q,ht,hlt,hi]) (fun i' hi'=>⟨fun p' he=>by simp [ht] at he,fun he=>?_⟩)
    ·rw [z7u (.inr ht) hi];cases x <;> simp
    ·rw [ht] at he;simp only [Tag.box.injEq] at he;rw [he] at hi;exact hi hi'
 ·right;exact ⟨by simp [z6q,hlt],fun h=>absurd h hlt⟩
theorem back_row (hext:Ext w (z30 x g ids) w' gc) {b j id:Nat} {p:z1a} (h:gc.tag b = .row j p) (hm:z12 M j=some id):(z6q g gc ids M w.heap.size keep).tag b = .row id p:=by
 rcases z8r (M:=M) (keep:=keep) hext b with ⟨_,_,h2,_,h3,_⟩ | ⟨h1,_⟩
 ·rw [h] at h2;rw [←h2] at h3;simp at h3
 ·rw [h1,h];simp [zeg,hm]
theorem back_box (hext:Ext w (z30 x g ids) w' gc) {b j id:Nat} (h:gc.tag b = .box j) (hm:z12 M j=some id):(z6q g gc ids M w.heap.size keep).tag b = .box id:=by
 rcases z8r (M:=M) (keep:=keep) hext b with ⟨_,_,h2,_,h3,_⟩ | ⟨h1,_⟩
 ·rw [h] at h2;rw [←h2] at h3;simp at h3
 ·rw [h1,h];simp [zeg,hm]
theorem ztb (hext:Ext w (z30 x g ids) w' gc):Ext w g w' (z6q g gc ids M w.heap.size keep):=by
 refine ⟨hext.os,hext.tape,hext.output,hext.drawn,hext.size,fun b hb ht=>?_⟩;obtain ⟨h1,h2⟩:=hext.keep b hb (by rw [z9c ht];exact ht);refine ⟨h1,?_⟩;rcases ht with ht | ht <;> simp [z6q,hb,ht]
theorem back_ro (hext:Ext w (z30 x g ids) w' gc) (ht:∀ b,g.tag b≠.alien->b < w.heap.size):RoKept w g w' (z6q g gc ids M w.heap.size keep):=(ztb hext).ro ht
theorem zuw (hext:Ext w (z30 false g ids) w' gc):RoKept w' gc w' (z6q g gc ids M w.heap.size keep):=by
 refine ⟨fun b hb=>⟨?_,rfl⟩⟩;rcases z8r (M:=M) (keep:=keep) hext b with ⟨_,h1,h2,_,h3,hi⟩ | ⟨h1,_⟩
 ·rw [h1];rw [hb] at h2
  cases ht:g.tag b with
  | ro=>rfl
  | alien=>rw [z9c (.inl ht),ht] at h2;simp at h2
  | row i p=>
   by_cases hm:i∈ids
   ·exact absurd ht ((hi i hm).1 p)
   ·rw [z7u (.inl ⟨p,ht⟩) hm] at h2;simp at h2
  | box i=>
   by_cases hm:i∈ids
   ·exact absurd ht (hi i hm).2
   ·rw [z7u (.inr ht) hm] at h2;simp at h2
 ·rw [h1,hb];rfl
theorem zy8 (hext:Ext w (z30 x g ids) w' gc) (hc:∀ b,gc.tag b≠.alien->b < w'.heap.size) (b:Nat) (hb:(z6q g gc ids M w.heap.size keep).tag b≠.alien):b < w'.heap.size:=by
 rcases z8r (M:=M) (keep:=keep) hext b with ⟨h0,_⟩ | ⟨h1,_⟩
 ·exact Nat.lt_of_lt_of_le h0 hext.size
 ·refine hc b fun h=>hb ?_
  rw [h1,h];rfl
theorem zb4 {i:Nat}:{l:List Nat}->{k:Nat}->i∉l->z1e i l k=none
 | [],_,_=>rfl
 | y :: l,k,h=>by
  simp only [List.mem_cons,not_or] at h;have:Nat.beq y i=false:=by
   cases hb:Nat.beq y i with
   | true=>exact absurd (zE hb).symm h.1
   | false=>rfl
  simp only [z1e,this,cond_false];exact zb4 h.2
theorem zp9 (hext:Ext w (z30 x g ids) w' gc) (ht:∀ b,g.tag b≠.alien->b < w.heap.size) {id:Nat} (hi:id∉ids) (hM:id∉M):Same w g w' (z6q g gc ids M w.heap.size keep) id:=by
 have hx:=zb4 (k:=0) hM;have hb:∀ b,((∃ p,g.tag b = .row id p)∨g.tag b = .box id)->(z6q g gc ids M w.heap.size keep).tag b=g.tag b∧w'.heap[b]? = w.heap[b]? := by
  intro b h;rcases z8r (M:=M) (keep:=keep) hext b with ⟨_,h1,_,h2,_⟩ | ⟨_,h1⟩
  ·exact ⟨h1,h2⟩
  ·have hlt:=ht b (by rcases h with ⟨p,h⟩ | h <;> rw [h] <;> simp);obtain ⟨i,him,hi2⟩:=h1 hlt;exfalso;rcases h with ⟨p,h⟩ | h <;> rcases hi2 with ⟨q,h2⟩ | h2 <;> rw [h] at h2 <;> simp at h2
   ·rw [h2.1] at hi;exact hi him
   ·rw [h2] at hi;exact hi him
 refine ⟨⟨fun q=>by simp [z6q,hx],fun q b h=>?_⟩,by simp [z6q,hx],fun h=>?_⟩
 ·simp only [List.nil_append] at h ⊢;obtain ⟨h1,h2⟩:=hb b (.inl ⟨q,h⟩);exact ⟨h1.trans h,h2⟩
 ·obtain ⟨h1,h2⟩:=hb _ (.inr h);exact ⟨h1.trans h,h2⟩
end
def KindB (e:Nat×Nat) (y y':Obj):Prop:=
 (∃ t l,y = .row t l 0∧y' = .row t l e.1)∨(∃ a a',y = .cell a∧y' = .cell a'∧a'.sk=a.sk)∨(∃ k v m,y = .map k v m∧y' = .map k v m)∨(∃ t l,y = .nest t l 0 0 none∧y' = .nest t l e.1 e.2 none)
structure Bk (gc G:Ghost) (oc o':z2c) (M:List Nat) (E:Nat->Nat×Nat):Prop where
 obj:∀ j id,z12 M j=some id->∀ y',o' id=some y'->∃ y,oc j=some y∧KindB (E j) y y'
 svr:∀ j id,z12 M j=some id->∀ t l,oc j=some (.row t l 0)->G.sv id []=gc.sv j []
 svn:∀ j id,z12 M j=some id->∀ t l,oc j=some (.nest t l 0 0 none)->∀ p,G.sv id p=gc.sv j p
 blk:∀ j id,z12 M j=some id->G.blk id=gc.blk j
 row:∀ b j p id,gc.tag b = .row j p->z12 M j=some id->G.tag b = .row id p
 box:∀ b j id,gc.tag b = .box j->z12 M j=some id->G.tag b = .box id
section
variable {w:World} {gc G:Ghost} {oc o':z2c} {M:List Nat} {E:Nat->Nat×Nat}
theorem zgd:(p:SPat)->{d:p.den}->{a:AVal}->p.inst M E d=some a->a.sk=(p.mk d).sk
 | .val t,d,a,h=>by simp only [SPat.inst,zI] at h;subst h;rfl
 | .nilS,d,a,h=>by simp only [SPat.inst,zI] at h;subst h;rfl
 | .ref j,d,a,h=>by simp only [SPat.inst,Option.map_eq_some_iff] at h;obtain ⟨id,_,rfl⟩:=h;rfl
 | .view j,d,a,h=>by simp only [SPat.inst,Option.map_eq_some_iff] at h;obtain ⟨id,_,rfl⟩:=h;rfl
 | .bptr j p,d,a,h=>by simp only [SPat.inst,Option.map_eq_some_iff] at h;obtain ⟨id,_,rfl⟩:=h;rfl
 | .mref j,d,a,h=>by simp only [SPat.inst,Option.map_eq_some_iff] at h;obtain ⟨id,_,rfl⟩:=h;rfl
 | .nv j,d,a,h=>by simp only [SPat.inst,Option.map_eq_some_iff] at h;obtain ⟨id,_,rfl⟩:=h;rfl
 | .nvi j,d,a,h=>by simp only [SPat.inst,Option.map_eq_some_iff] at h;obtain ⟨id,_,rfl⟩:=h;rfl
 | .clos f c,d,a,h=>by simp only [SPat.inst,Option.map_eq_some_iff] at h;obtain ⟨a',_,rfl⟩:=h;rfl
 | .ifc f c,d,a,h=>by simp only [SPat.inst,Option.map_eq_some_iff] at h;obtain ⟨a',_,rfl⟩:=h;rfl
 | .agg c,d,a,h=>by
  simp only [SPat.inst,Option.map_eq_some_iff] at h;obtain ⟨a',h,rfl⟩:=h
  simpa only [SPat.mk,AVal.sk] using zgd c h
 | .pr p q,d,a,h=>by
  simp only [SPat.inst] at h;split at h
  ·rename_i y z h1 h2;simp only [zI] at h;subst h;simp only [SPat.mk,AVal.sk,zgd p h1,zgd q h2]
  ·simp at h
 | .un,d,a,h=>by simp only [SPat.inst,zI] at h;subst h;rfl
theorem z3s:(p:SPat)->{d:p.den}->{a:AVal}->p.inst M E d=some a->a.isAgg=(p.mk d).isAgg∧(∀ c,(p.mk d)≠.tup c)∧(∀ y z,a = .pr y z->∃ y' z',p.mk d = .pr y' z')∧(a = .un->p.mk d = .un)∧∀ m∈a.ids,m∈M
 | .val t,d,a,h=>by simp only [SPat.inst,zI] at h;subst h;simp [SPat.mk,AVal.isAgg,AVal.ids]
 | .nilS,d,a,h=>by simp only [SPat.inst,zI] at h;subst h;simp [SPat.mk,AVal.ids]
 | .ref j,d,a,h=>by simp only [SPat.inst,Option.map_eq_some_iff] at h;obtain ⟨id,hm,rfl⟩:=h;simp [SPat.mk,AVal.isAgg,AVal.ids,z31 hm]
 | .view j,d,a,h=>by simp only [SPat.inst,Option.map_eq_some_iff] at h;obtain ⟨id,hm,rfl⟩:=h;simp [SPat.mk,AVal.isAgg,AVal.ids,z31 hm]
 | .bptr j p,d,a,h=>by simp only [SPat.inst,Option.map_eq_some_iff] at h;obtain ⟨id,hm,rfl⟩:=h;simp [SPat.mk,AVal.isAgg,AVal.ids,z31 hm]
 | .mref j,d,a,h=>by simp only [SPat.inst,Option.map_eq_some_iff] at h;obtain ⟨id,hm,rfl⟩:=h;simp [SPat.mk,AVal.isAgg,AVal.ids,z31 hm]
 | .nv j,d,a,h=>by simp only [SPat.inst,Option.map_eq_some_iff] at h;obtain ⟨id,hm,rfl⟩:=h;simp [SPat.mk,AVal.isAgg,AVal.ids,z31 hm]
 | .nvi j,d,a,h=>by simp only [SPat.inst,Option.map_eq_some_iff] at h;obtain ⟨id,hm,rfl⟩:=h;simp [SPat.mk,AVal.isAgg,AVal.ids,z31 hm]
 | .clos f c,d,a,h=>by
  simp only [SPat.inst,Option.map_eq_some_iff] at h;obtain ⟨a',h,rfl⟩:=h;have:=(z3s c h).2.2.2.2
  simpa [SPat.mk,AVal.isAgg,AVal.ids] using this
 | .ifc f c,d,a,h=>by
  simp only [SPat.inst,Option.map_eq_some_iff] at h;obtain ⟨a',h,rfl⟩:=h;have:=(z3s c h).2.2.2.2
  simpa [SPat.mk,AVal.isAgg,AVal.ids] using this
 | .agg c,d,a,h=>by
  simp only [SPat.inst,Option.map_eq_some_iff] at h;obtain ⟨a',h,rfl⟩:=h;have:=(z3s c h).2.2.2.2
  simpa [SPat.mk,AVal.isAgg,AVal.ids] using this
 | .pr p q,d,a,h=>by
  simp only [SPat.inst] at h;split at h
  ·rename_i y z h1 h2;simp only [zI] at h;subst h;have k1:=(z3s p h1).2.2.2.2;have k2:=(z3s q h2).2.2.2.2;refine ⟨rfl,by simp [SPat.mk],fun _ _ _=>⟨_,_,rfl⟩,by simp,fun m hm=>?_⟩;simp only [AVal.ids,List.mem_append] at hm;rcases hm with hm | hm
   ·exact k1 m hm
   ·exact k2 m hm
  ·simp at h
 | .un,d,a,h=>by simp only [SPat.inst,zI] at h;subst h;simp [SPat.mk,AVal.ids]
theorem z73 (hb:Bk gc G oc o' M E):(p:SPat)->{d:p.den}->{a:AVal}->{cs:List Value}->(RoKept w gc w G∨p.flat=true)->p.inst M E d=some a->AOK w gc oc (p.mk d) cs->AOK w G o' a cs
 | .val t,d,a,cs,hf,h,hok=>by
  simp only [SPat.inst,zI] at h;subst h;refine ⟨hok.1,?_⟩;rcases hf with hf | hf
  ·exact hok.2.kept hf
  ·exact Rep.noSl hf hok.2
 | .nilS,d,a,cs,hf,h,hok=>by simp only [SPat.inst,zI] at h;subst h;exact hok
 | .ref j,d,a,cs,hf,h,hok=>by
  simp only [SPat.inst,Option.map_eq_some_iff] at h;obtain ⟨id,hm,rfl⟩:=h;obtain ⟨v,hv,hone,hx⟩:=hok;refine ⟨v,hv,hone,fun t l e ho=>?_⟩;obtain ⟨y,hy,hk⟩:=hb.obj j id hm _ ho;rcases hk with ⟨t',l',rfl,h2⟩ | ⟨a1,a2,_,h2,_⟩ | ⟨k,v',m,_,h2⟩ | ⟨t',l',_,h2⟩
  ·simp only [Obj.row.injEq] at h2;obtain ⟨rfl,_,rfl⟩:=h2;exact ⟨Nat.le_refl _,fun _=>by rw [hb.svr j id hm _ _ hy];exact (hx _ _ _ hy).2 rfl⟩
  ·simp at h2
  ·simp at h2
  ·simp at h2
 | .view j,d,a,cs,hf,h,hok=>by
  simp only [SPat.inst,Option.map_eq_some_iff] at h;obtain ⟨id,hm,rfl⟩:=h;obtain ⟨v,hv,hone,hx⟩:=hok;refine ⟨v,hv,hone,fun t l e ho=>?_⟩;obtain ⟨y,hy,hk⟩:=hb.obj j id hm _ ho;rcases hk with ⟨t',l',rfl,h2⟩ | ⟨a1,a2,_,h2,_⟩ | ⟨k,v',m,_,h2⟩ | ⟨t',l',_,h2⟩
  ·simp only [Obj.row.injEq] at h2;obtain ⟨rfl,hl,rfl⟩:=h2;have hl:=eq_of_heq hl;subst hl;refine ⟨Nat.le_refl _,fun _=>?_⟩;rw [hb.svr j id hm _ _ hy];exact (hx _ _ _ hy).2 rfl
  ·simp at h2
  ·simp at h2
  ·simp at h2
 | .bptr j p,d,a,cs,hf,h,hok=>by
  simp only [SPat.inst,Option.map_eq_some_iff] at h;obtain ⟨id,hm,rfl⟩:=h;obtain ⟨v,hv,hone,hx⟩:=hok;refine ⟨v,hv,hone,fun a ho=>?_⟩;obtain ⟨y,hy,hk⟩:=hb.obj j id hm _ ho;rcases hk with ⟨t',l',_,h2⟩ | ⟨a1,a2,rfl,h2,hs⟩ | ⟨k,v',m,_,h2⟩ | ⟨t',l',_,h2⟩
  ·simp at h2
  ·simp only [Obj.cell.injEq] at h2;subst h2;obtain ⟨off,s,h3,h4⟩:=hx _ hy;exact ⟨off,s,by rw [hs];exact h3,by rw [hb.blk j id hm];exact h4⟩
  ·simp at h2
  ·simp at h2
 | .mref j,d,a,cs,hf,h,hok=>by
  simp only [SPat.inst,Option.map_eq_some_iff] at h;obtain ⟨id,hm,rfl⟩:=h;obtain ⟨v,hv,hone,hx⟩:=hok;refine ⟨v,hv,hone,fun kt vt mm ho=>?_⟩;obtain ⟨y,hy,hk⟩:=hb.obj j id hm _ ho;rcases hk with ⟨t',l',_,h2⟩ | ⟨a1,a2,_,h2,_⟩ | ⟨k,v',m,rfl,h2⟩ | ⟨t',l',_,h2⟩
  ·simp at h2
  ·simp at h2
  ·rw [hb.blk j id hm];exact hx _ _ _ hy
  ·simp at h2
 | .nv j,d,a,cs,hf,h,hok=>by
  simp only [SPat.inst,Option.map_eq_some_iff] at h;obtain ⟨id,hm,rfl⟩:=h;obtain ⟨v,hv,hone,hx⟩:=hok;refine ⟨v,hv,hone,fun t l e i hh ho=>?_⟩;obtain ⟨y,hy,hk⟩:=hb.obj j id hm _ ho;rcases hk with ⟨t',l',_,h2⟩ | ⟨a1,a2,_,h2,_⟩ | ⟨k,v',m,_,h2⟩ | ⟨t',l',rfl,h2⟩
  ·simp at h2
  ·simp at h2
  ·simp at h2
  ·simp only [Obj.nest.injEq] at h2;obtain ⟨_,_,rfl,rfl,_⟩:=h2;refine ⟨Nat.le_refl _,fun _=>⟨fun _=>?_,fun h=>(by simp at h)⟩⟩
   rw [hb.svn j id hm _ _ hy];exact ((hx _ _ _ _ _ hy).2 rfl).1 rfl
 | .nvi j,d,a,cs,hf,h,hok=>by
  simp only [SPat.inst,Option.map_eq_some_iff] at h;obtain ⟨id,hm,rfl⟩:=h;obtain ⟨v,hv,hone,hx⟩:=hok;refine ⟨v,hv,hone,fun t l e i hh ho=>?_⟩;obtain ⟨y,hy,hk⟩:=hb.obj j id hm _ ho;rcases hk with ⟨t',l',_,h2⟩ | ⟨a1,a2,_,h2,_⟩ | ⟨k,v',m,_,h2⟩ | ⟨t',l',rfl,h2⟩
  ·simp at h2
  ·simp at h2
  ·simp at h2
  ·simp only [Obj.nest.injEq] at h2;obtain ⟨_,_,rfl,rfl,_⟩:=h2;refine ⟨Nat.le_refl _,fun _=>⟨fun _=>?_,fun h=>(by simp at h)⟩⟩
   rw [hb.svn j id hm _ _ hy];exact ((hx _ _ _ _ _ hy).2 rfl).1 rfl
 | .clos f c,d,a,cs,hf,h,hok=>by
  simp only [SPat.inst,Option.map_eq_some_iff] at h;obtain ⟨a',h,rfl⟩:=h;obtain ⟨vs,hv,hx⟩:=hok
  exact ⟨vs,hv,z73 hb c hf h hx⟩
 | .ifc t c,d,a,cs,hf,h,hok=>by
  simp only [SPat.inst,Option.map_eq_some_iff] at h;obtain ⟨a',h,rfl⟩:=h;obtain ⟨x,cs',hv,hx,hxv⟩:=hok
  exact ⟨x,cs',hv,z73 hb c hf h hx,by rw [(z3s c h).1];exact hxv⟩
 | .agg c,d,a,cs,hf,h,hok=>by
  simp only [SPat.inst,Option.map_eq_some_iff] at h;obtain ⟨a',h,rfl⟩:=h;show AOK w G o' a' cs
  exact z73 hb c hf h (show AOK w gc oc (c.mk d) cs from hok)
 | .pr p q,d,a,cs,hf,h,hok=>by
  simp only [SPat.inst] at h;split at h
  ·rename_i y z h1 h2;simp only [zI] at h;subst h;obtain ⟨c1,c2,hcs,k1,k2⟩:=hok;have hf1:RoKept w gc w G∨p.flat=true:=hf.imp _root_.id fun h=>by simp only [SPat.flat,zA] at h;exact h.1
   have hf2:RoKept w gc w G∨q.flat=true:=hf.imp _root_.id fun h=>by simp only [SPat.flat,zA] at h;exact h.2
   exact ⟨c1,c2,hcs,z73 hb p hf1 h1 k1,z73 hb q hf2 h2 k2⟩
  ·simp at h
 | .un,d,a,cs,hf,h,hok=>by simp only [SPat.inst,zI] at h;subst h;exact hok
theorem zsh (hb:Bk gc G oc o' M E) {p:SPat} {d:p.den} {a:AVal} {v:Value} (hf:RoKept w gc w G∨p.flat=true) (h:p.inst M E d=some a) (hok:VOK w gc oc (p.mk d) v):VOK w G o' a v:=by
 obtain ⟨h1,h2,h3,h4,_⟩:=z3s p h;obtain ⟨cs,hcs,hmk⟩:=z4y hok h2;refine z19 (z73 hb p hf h hcs) (by rw [h1];exact hmk) (fun y z he=>?_) (fun he=>?_)
 ·obtain ⟨y',z',he⟩:=h3 y z he;rw [he] at hok;simp only [VOK] at hok
 ·rw [h4 he] at hok;simp only [VOK] at hok
theorem Rep.moveOwn {w w':World} {g g':Ghost}:{o o':Own}->{t:Ty}->{d:t.den}->{cs:List Value}->
  (hm:zk6 w g w' g' o o')->t.allOwn=true->Rep w g o t d cs->Rep w' g' o' t d cs
 | _,_,.int _,_,_,_,_,h=>h
 | _,_,.bool,_,_,_,_,h=>h
 | _,_,.str,_,_,_,_,h=>h
 | _,_,.unit,_,_,_,_,h=>h
 | _,_,.pair a b,(x,y),_,hm,ht,h=>by
  obtain ⟨c1,c2,rfl,h1,h2⟩:=h;simp only [Ty.allOwn,zA] at ht
  exact ⟨c1,c2,rfl,Rep.moveOwn (hm.step _) ht.1 h1,Rep.moveOwn (hm.step _) ht.2 h2⟩
 | _,_,.arr n t,_,_,hm,ht,h=>⟨h.1,h.2.1,fun i hi=>Rep.moveOwn (hm.step _) (by simpa [Ty.allOwn] using ht) (h.2.2 i hi)⟩
 | _,_,.sl false t,l,_,_,ht,h=>by simp [Ty.allOwn,Ty.noSl] at ht
 | some (id,p),some (id',p'),.sl true t,l,_,hm,ht,h=>by
  obtain ⟨a,cap,rfl,h0,h1,h2,h3⟩:=h;have hm':Moved w g w' g' id p id' p':=hm;refine ⟨a,cap,rfl,?_,h1,h2,?_⟩
  ·have:=hm'.sv [];simp only [List.append_nil] at this;rw [this];exact h0
  ·rcases h3 with h3 | ⟨b,off,c,e,ha,htg,hb,hs,he⟩
   ·exact .inl h3
   ·have hk:=hm'.blk [] b (by simpa using htg);simp only [List.append_nil] at hk
    exact .inr ⟨b,off,c,e,ha,hk.1,hk.2.trans hb,hs,fun i hi=>Rep.moveOwn (o:=some (id,p++[Step.idx (i:Int)])) (o':=some (id',p'++[Step.idx (i:Int)])) (hm'.step _) (by simpa [Ty.allOwn] using ht) (he i hi)⟩
 | some _,none,.sl true _,_,_,hm,_,_=>hm.elim
 | none,_,.sl true _,_,_,_,_,h=>h.elim
 | _,_,.ptr t,_,_,_,ht,_=>by simp [Ty.allOwn,Ty.noSl] at ht
 | _,_,.fn f t,_,_,_,ht,_=>by simp [Ty.allOwn,Ty.noSl] at ht
theorem z3f.noSl {w w':World} {g g':Ghost} {kt vt:Ty} (hk:kt.noSl=true) (hv:vt.noSl=true):{es:List MapEntry}->{m:List (kt.den×vt.den)}->z3f w g kt vt es m->z3f w' g' kt vt es m
 | [],[],_=>trivial
 | _ :: _,(_,_) :: _,⟨⟨c1,h1,e1⟩,⟨c2,h2,e2⟩,h⟩=>⟨⟨c1,Rep.noSl hk h1,e1⟩,⟨c2,Rep.noSl hv h2,e2⟩,z3f.noSl hk hv h⟩
 | [],_ :: _,h=>h.elim
 | _ :: _,[],h=>h.elim
theorem inst_obj (hb:Bk gc G oc o' M E) {o:SObj} {d:o.den} {y:Obj} {j id:Nat} (hm:z12 M j=some id) (hf:RoKept w gc w G∨o.flat=true) (hj:oc j=some (o.mk d)) (h:o.inst M E j d=some y) (hok:z14 w gc oc j (o.mk d)):z14 w G o' id y:=by
 cases o with
 | row t=>
  simp only [SObj.inst,zI] at h;subst h;obtain ⟨ht,hr⟩:=hok;refine ⟨ht,?_⟩;rw [hb.svr j id hm _ _ hj];obtain ⟨a,cap,hv,h0,h1,h2,h3⟩:=hr;refine ⟨a,cap,hv,(hb.svr j id hm _ _ hj).trans h0,h1,h2,?_⟩;rcases h3 with h3 | ⟨b,off,c,e,ha,htg,hbl,hs,he⟩
  ·exact .inl h3
  ·refine .inr ⟨b,off,c,e,ha,hb.row b j [] id htg hm,hbl,hs,fun i hi=>?_⟩;rcases hf with hf | hf
   ·exact Rep.anyOwn ht ((Rep.anyOwn (o':=none) ht (he i hi)).kept hf)
   ·exact Rep.noSl hf (he i hi)
 | cell p=>
  simp only [SObj.inst,Option.map_eq_some_iff] at h;obtain ⟨a,h,rfl⟩:=h;have hnt:(p.mk d).isTup=false:=by
   have:=(z3s p h).2.1;cases hmk:p.mk d <;> first | rfl | exact absurd hmk (this _)
  obtain ⟨c,e,h1,h2,h3⟩:=hok.out hnt
  exact z14.mk ⟨c,e,by rw [hb.blk j id hm];exact h1,by rw [hb.blk j id hm];exact hb.box _ j id h2 hm,z73 hb p hf h h3⟩
 | map kt vt=>
  simp only [SObj.inst,zI] at h;subst h;obtain ⟨es,ck,h1,h2,h3,h4,h5,h6⟩:=hok;refine ⟨es,ck,by rw [hb.blk j id hm];exact h1,by rw [hb.blk j id hm];exact hb.box _ j id h2 hm,h3,h4,?_,h6⟩;rcases hf with hf | hf
  ·exact h5.kept hf
  ·simp only [SObj.flat,zA] at hf
   exact h5.noSl hf.1 hf.2
 | iter mid=>simp [SObj.inst] at h
 | con p=>
  simp only [SObj.inst] at h
  cases hcon:(AVal.tup (p.mk d)).isCon with
  | false=>rw [hcon] at h;simp at h
  | true=>
   rw [hcon] at h;simp only [cond_true,Option.map_eq_some_iff] at h;obtain ⟨a,h,rfl⟩:=h;obtain ⟨c,e,h1,h2,h3⟩:=(z14.con hcon).1 hok;have hf:RoKept w gc w G:=hf.resolve_right (by simp [SObj.flat]);have hcon':(AVal.tup a).isCon=true:=by
    cases p <;> simp [SPat.mk,AVal.isCon] at hcon
    ·simp only [SPat.inst,Option.map_eq_some_iff] at h;obtain ⟨x,_,rfl⟩:=h;rfl
    ·simp only [SPat.inst,Option.map_eq_some_iff] at h;obtain ⟨x,_,rfl⟩:=h;rfl
   exact (z14.con hcon').2 ⟨c,e,by rw [hb.blk j id hm];exact h1,by rw [hb.blk j id hm];exact (hf.blk _ h2).1,z73 hb p (.inl hf) h h3⟩
 | nest t=>
  simp only [SObj.inst,zI] at h;subst h;show Rep w G (some (id,[])) (.sl true t) d [G.sv id []];have hsv:=hb.svn j id hm _ _ hj;rw [hsv];have hmv:zk6 w gc w G (some (j,[])) (some (id,[])):=⟨fun q=>hsv _,fun q b hq=>⟨hb.row b j q id (by simpa using hq) hm,rfl⟩⟩;have hok:Rep w gc (some (j,[])) (.sl true t) d [gc.sv j []]:=hok;rcases hf with hf | hf
  ·exact Rep.move hf hmv hok
  ·exact Rep.moveOwn hmv (show (Ty.sl true t).allOwn=true from hf) hok
end
end Go.Kz
namespace Go.Kz
variable {R:Type}
def zej (g gc:Ghost) (oc so:z2c) (j id:Nat):Prop:=
 (∀ t l,oc j=some (.row t l 0)->∀ t' l' e,so id=some (.row t' l' e)->gc.sv j []=g.sv id [])∧
 (∀ a,oc j=some (.cell a)->∀ a',so id=some (.cell a')->gc.blk j=g.blk id)∧
 (∀ k v m,oc j=some (.map k v m)->∀ k' v' m',so id=some (.map k' v' m')->gc.blk j=g.blk id)∧
 (∀ t l,oc j=some (.nest t l 0 0 none)->∀ t' l' e i h,so id=some (.nest t' l' e i h)->gc.sv j []=g.sv id [])
theorem zab {b b':Bnd} {i id:Nat} (h:zp6 b i id some=some b'):∀ j id',z1v b' j=some id'->z1v b j=some id'∨(j=i∧id'=id):=by
 unfold zp6 at h;intro j id' hj;split at h
 ·rename_i j0 h0
  cases hb:Nat.beq j0 id with
  | false=>rw [hb] at h;simp at h
  | true=>
   rw [hb] at h;simp only [cond_true,zI] at h;subst h;exact .inl hj
 ·cases hb:zx7 b id with
  | true=>rw [hb] at h;simp at h
  | false=>
   rw [hb] at h;simp only [cond_false,zI] at h;subst h;simp only [z1v] at hj
   cases he:Nat.beq i j with
   | true=>
    rw [he] at hj;simp only [cond_true,zI] at hj
    exact .inr ⟨(zE he).symm,hj.symm⟩
   | false=>rw [he] at hj;exact .inl hj
section
variable {w w':World} {g gc:Ghost} {oc so:z2c} {ρ:Nat->Option Nat}
theorem z5s {a:AVal} {u:Value} (h:VOK w g so a u) (ht:∀ c,a≠.tup c) (hg:a.isAgg=false):∃ cs,AOK w g so a cs∧u=cs.headD undef:=by
 obtain ⟨cs,h1,h2⟩:=z4y h ht;exact ⟨cs,h1,by rw [h2,hg];rfl⟩
theorem zf2 {a a':AVal} {p:SPat} {d:p.den} {b b':Bnd} {u:Value} (h:zei so a p b=some b') (hv:VOK w g so a u) (hr:a.ren so ρ=some a') (hx:VOK w' gc oc (p.mk d) u)
  (hI:∀ j id,z1v b j=some id->zej g gc oc so j id):∀ j id,z1v b' j=some id->zej g gc oc so j id:=by
 intro j id hj;unfold zei at h;split at h
 ·rename_i id0 ep j0;rcases zab h j id hj with h1 | ⟨rfl,rfl⟩
  ·exact hI j id h1
  ·simp only [AVal.ren] at hr;split at hr
   ·rename_i t0 l0 e0 _ hobj
    cases hb:Nat.beq e0 ep with
    | false=>rw [hb] at hr;simp at hr
    | true=>
     have he:=zE hb;subst he;obtain ⟨cs,⟨v,rfl,_,h1⟩,rfl⟩:=z5s hv (by simp) rfl;obtain ⟨cs',⟨v',rfl,_,h2⟩,hu⟩:=z5s hx (by simp [SPat.mk]) rfl;simp only [List.headD_cons] at hu;subst hu;refine ⟨fun t l ho t' l' e hs=>?_,fun a ho a' hs=>by rw [hobj] at hs;simp at hs,fun _ _ _ _ _ _ _ hs=>by rw [hobj] at hs;simp at hs,fun _ _ _ _ _ _ _ _ hs=>by rw [hobj] at hs;simp at hs⟩;rw [←(h2 _ _ _ ho).2 rfl,←(h1 _ _ _ hobj).2 rfl]
   ·simp at hr
 ·rename_i id0 j0;split at h
  ·rename_i a0 hobj;rcases zab h j id hj with h1 | ⟨rfl,rfl⟩
   ·exact hI j id h1
   ·obtain ⟨cs,⟨v,rfl,_,h1⟩,rfl⟩:=z5s hv (by simp) rfl;obtain ⟨cs',⟨v',rfl,_,h2⟩,hu⟩:=z5s hx (by simp [SPat.mk]) rfl;simp only [List.headD_cons] at hu;subst hu;have hcell:∀ a,oc j=some (.cell a)->∀ a',so id=some (.cell a')->gc.blk j=g.blk id:=by
     intro a ho a' hs;obtain ⟨o1,s1,q1,q2⟩:=h1 _ hs;obtain ⟨o2,s2,q3,q4⟩:=h2 _ ho;rw [q2] at q4;simp only [Value.pointer.injEq,zI,Addr.mk.injEq] at q4;exact q4.1.symm
    exact ⟨fun t l ho t' l' e hs=>by rw [hobj] at hs;simp at hs,hcell,fun _ _ _ ho _ _ _ hs=>by rw [hobj] at hs;simp at hs,fun _ _ ho _ _ _ _ _ hs=>by rw [hobj] at hs;simp at hs⟩
  ·simp at h
 ·rename_i id0 j0;split at h
  ·rename_i k0 v0 m0 hobj;rcases zab h j id hj with h1 | ⟨rfl,rfl⟩
   ·exact hI j id h1
   ·obtain ⟨cs,⟨v,rfl,_,h1⟩,rfl⟩:=z5s hv (by simp) rfl;obtain ⟨cs',⟨v',rfl,_,h2⟩,hu⟩:=z5s hx (by simp [SPat.mk]) rfl;simp only [List.headD_cons] at hu;subst hu;refine ⟨fun t l ho t' l' e hs=>by rw [hobj] at hs;simp at hs,fun _ _ _ hs=>by rw [hobj] at hs;simp at hs,fun _ _ _ ho _ _ _ hs=>?_,fun _ _ ho _ _ _ _ _ hs=>by rw [hobj] at hs;simp at hs⟩;have q1:=h1 _ _ _ hs;have q2:=h2 _ _ _ ho;rw [q1] at q2;simp only [Value.map.injEq,zI] at q2;exact q2.symm
  ·simp at h
 ·rename_i id0 ep j0;rcases zab h j id hj with h1 | ⟨rfl,rfl⟩
  ·exact hI j id h1
  ·simp only [AVal.ren] at hr;split at hr
   ·rename_i t0 l0 e0 i0 _ hobj
    cases hb:Nat.beq (nep false [] e0 i0) ep with
    | false=>rw [hb] at hr;simp at hr
    | true=>
     have he:=zE hb;obtain ⟨cs,⟨v,rfl,_,h1⟩,rfl⟩:=z5s hv (by simp) rfl;obtain ⟨cs',⟨v',rfl,_,h2⟩,hu⟩:=z5s hx (by simp [SPat.mk]) rfl;simp only [List.headD_cons] at hu;subst hu;refine ⟨fun t l ho t' l' e hs=>by rw [hobj] at hs;simp at hs,fun a ho a' hs=>by rw [hobj] at hs;simp at hs,fun _ _ _ _ _ _ _ hs=>by rw [hobj] at hs;simp at hs,fun _ _ ho _ _ _ _ _ hs=>?_⟩;rw [←((h2 _ _ _ _ _ ho).2 rfl).1 rfl,←((h1 _ _ _ _ _ hobj).2 he).1 rfl]
   ·simp at hr
 ·simp at h
theorem zuy {a:AVal} {p:SPat} {d:p.den} {b b':Bnd} (h:zei so a p b=some b'):((∀ y z,a≠.pr y z)∧a≠.un∧a.sk = .leaf∧a.isAgg=false)∧(∀ y z,p.mk d≠.pr y z)∧p.mk d≠.un∧(p.mk d).sk = .leaf∧(p.mk d).isAgg=false:=by
 unfold zei at h;split at h
 ·simp [SPat.mk,AVal.sk,AVal.isAgg]
 ·simp [SPat.mk,AVal.sk,AVal.isAgg]
 ·simp [SPat.mk,AVal.sk,AVal.isAgg]
 ·simp [SPat.mk,AVal.sk,AVal.isAgg]
 ·simp at h
theorem zte:{c c':AVal}->{q:SPat}->{d:q.den}->{b b':Bnd}->{vs:List Value}->zeh so c q b=some b'->AOK w g so c vs->c.ren so ρ=some c'->AOK w' gc oc (q.mk d) vs->
  (∀ j id,z1v b j=some id->zej g gc oc so j id)->∀ j id,z1v b' j=some id->zej g gc oc so j id:=by
 intro c
 induction c with
 | pr a c iha ihc=>
  intro c' q d b b' vs h hv hr hx hI
  cases q with
  | pr p q=>
   obtain ⟨c1,c2,rfl,h1,h2⟩:=hv;obtain ⟨e1,e2,he,k1,k2⟩:=hx;simp only [AVal.ren] at hr;split at hr
   ·rename_i a' cc' ha hc;have hdat:∀ t x,a = .data t x->zeh so (.pr a c) (.pr p q) b=some b'->∀ j id,z1v b' j=some id->zej g gc oc so j id:=by
     rintro t x rfl h
     cases p with
     | val u=>
      simp only [zeh] at h;have hb:=z1l h;obtain ⟨hs,hb⟩:=hb;obtain ⟨hs,_⟩:=Option.isSome_iff_exists.1 hs;obtain rfl:=hs.down;have hl:c1.length=e1.length:=by rw [h1.len,k1.len];rfl
      obtain ⟨_,rfl⟩:=List.append_inj he hl
      exact ihc hb h2 hc k2 hI
     | _=>simp [zeh,zei] at h
    by_cases hd:∃ t x,a = .data t x
    ·obtain ⟨t,x,hd⟩:=hd;exact hdat t x hd h
    ·have h':(match zei so a p b with
      | some b=>zeh so c q b
      | none=>none)=some b':=by
      cases a <;> first | exact h | exact absurd ⟨_,_,rfl⟩ hd
     split at h'
     ·rename_i b1 hb1;obtain ⟨⟨f1,f2,f3,f4⟩,g1,g2,g3,g4⟩:=zuy (d:=d.1) hb1;have l1:c1.length=1:=by rw [h1.len,f3];rfl
      have l2:e1.length=1:=by rw [k1.len,g3];rfl
      obtain ⟨rfl,rfl⟩:=List.append_inj he (l1.trans l2.symm);have hI1:=zf2 hb1 (z19 h1 rfl f1 f2) ha (z19 k1 (by rw [f4,g4]) g1 g2) hI;exact ihc h' h2 hc k2 hI1
     ·simp at h'
   ·simp at hr
  | _=>cases a <;> simp [zeh] at h
 | un=>
  intro c' q d b b' vs h hv hr hx hI;cases q <;> simp [zeh] at h
  subst h;exact hI
 | _=>intro c' q d b b' vs h;cases q <;> simp [zeh] at h
theorem anchI_ok {a a':AVal} {p:SPat} {d:p.den} {b b':Bnd} {u:Value} (h:anchI so a p b=some b') (hv:VOK w g so a u) (hr:a.ren so ρ=some a') (hx:VOK w' gc oc (p.mk d) u)
  (hI:∀ j id,z1v b j=some id->zej g gc oc so j id):∀ j id,z1v b' j=some id->zej g gc oc so j id:=by
 unfold anchI at h;split at h
 ·rename_i t1 a1 t2 p1;simp only [AVal.ren,Option.map_eq_some_iff] at hr;obtain ⟨a1',hr,_⟩:=hr;obtain ⟨cs,⟨x,cs',rfl,h1,h2⟩,h3⟩:=z5s hv (by simp) rfl;obtain ⟨cs2,⟨x2,cs2',rfl,k1,k2⟩,k3⟩:=z5s hx (by simp [SPat.mk]) rfl;simp only [List.headD_cons] at h3 k3;rw [h3] at k3;simp only [Value.iface.injEq] at k3;obtain ⟨_,rfl⟩:=k3;have hform:(∃ id ep,a1 = .ref id [] ep)∨(∃ id,a1 = .bptr id [])∨(∃ id,a1 = .mref id)∨(∃ id ep,a1 = .nv false id [] ep):=by
   unfold zei at h;split at h
   ·exact .inl ⟨_,_,rfl⟩
   ·exact .inr (.inl ⟨_,rfl⟩)
   ·exact .inr (.inr (.inl ⟨_,rfl⟩))
   ·exact .inr (.inr (.inr ⟨_,_,rfl⟩))
   ·simp at h
  have hp:(∀ y z,p1.mk d≠.pr y z)∧p1.mk d≠.un:=by
   unfold zei at h;split at h
   ·simp [SPat.mk]
   ·simp [SPat.mk]
   ·simp [SPat.mk]
   ·simp [SPat.mk]
   ·simp at h
  have ha:(∀ y z,a1≠.pr y z)∧a1≠.un:=by
   rcases hform with ⟨_,_,rfl⟩ | ⟨_,rfl⟩ | ⟨_,rfl⟩ | ⟨_,_,rfl⟩ <;> simp
  exact zf2 h (z19 h1 h2 ha.1 ha.2) hr (z19 k1 k2 hp.1 hp.2) hI
 ·rename_i f c f' q;obtain ⟨hb,h⟩:=z1l h;simp only [AVal.ren,Option.map_eq_some_iff] at hr;obtain ⟨c',hr,_⟩:=hr;obtain ⟨cs,⟨vs,rfl,h1⟩,h3⟩:=z5s hv (by simp) rfl;obtain ⟨cs2,⟨vs2,rfl,k1⟩,k3⟩:=z5s hx (by simp [SPat.mk]) rfl;simp only [List.headD_cons] at h3 k3;rw [h3] at k3;simp only [Value.func.injEq] at k3;have hvs:vs=vs2:=by
   have:=congrArg Array.toList k3.2.2;simpa using this
  subst hvs;exact zte h h1 hr k1 hI
 ·exact zf2 h hv hr hx hI
theorem ztd {σ:St} {all:AVal} {vs:List Value} (hso:so=σ.objs):(anch:List Nat)->(out:List (Nat×SPat))->(d:zcw out)->{b b':Bnd}->zr8 so all anch out b=some b'->
  (∀ i∈anch,∀ a,z2k all i=some a->(∃ a',a.ren so ρ=some a')∧∀ u,vs[i]? = some u->VOK w g so a u)->
  (∀ k i av,z12 anch k=some i->z12 ((z84 out d).map Prod.snd) k=some av->∃ u,vs[i]? = some u∧VOK w' gc oc av u)->
  (∀ j id,z1v b j=some id->zej g gc oc so j id)->∀ j id,z1v b' j=some id->zej g gc oc so j id
 | [],_,_,b,b',h,_,_,hI=>by
  simp only [zr8,zI] at h
  subst h;exact hI
 | i :: l,[],_,b,b',h,_,_,_=>by simp [zr8] at h
 | i :: l,(i2,p) :: out,d,b,b',h,hent,hex,hI=>by
  simp only [zr8] at h;split at h
  ·rename_i a ha;split at h
   ·rename_i b1 hb1;obtain ⟨⟨a',hr⟩,hv⟩:=hent i (by simp) a ha;obtain ⟨u,hu,hx⟩:=hex 0 i (p.mk d.1) rfl rfl;exact ztd hso l out d.2 h (fun i' hi'=>hent i' (by simp [hi'])) (fun k i' av h1 h2=>hex (k+1) i' av h1 h2) (anchI_ok hb1 (hv u hu) hr hx hI)
   ·simp at h
  ·simp at h
end
end Go.Kz
namespace Go.Kz
variable {R:Type}
theorem zl7 {M:List Nat} {E:Nat->Nat×Nat} {j:Nat} {p:SPat} {d:p.den} {y:Obj} (h:(SObj.con p).inst M E j d=some y):∃ a',p.inst M E d=some a'∧y = .cell (.tup a'):=by
 simp only [SObj.inst] at h
 cases hc:(AVal.tup (p.mk d)).isCon with
 | false=>rw [hc] at h;simp at h
 | true=>
  rw [hc] at h;simp only [cond_true,Option.map_eq_some_iff] at h;obtain ⟨a',h1,h2⟩:=h;exact ⟨a',h1,h2.symm⟩
theorem z8c {α:Type}:(l:List α)->(i:Nat)->z12 l i=l[i]?
 | [],i=>by cases i <;> rfl
 | x :: l,0=>rfl
 | x :: l,i+1=>by simp only [z12,z8c l i];simp
theorem z8b {σ:St} {ids:List Nat} {b:Bnd}:{os:List Obj}->{j0:Nat}->zn7 σ ids b os j0=true->∀ j y id,z12 os j=some y->z1v b (j0+j)=some id->id∈ids∧z3m (σ.objs id) y=true
 | [],j0,_,j,y,id,h,_=>by cases j <;> simp [z12] at h
 | o :: os,j0,hk,j,y,id,h,hb=>by
  simp only [zn7,zA] at hk
  cases j with
  | zero=>
   simp only [z12,zI] at h;subst h;rw [Nat.add_zero] at hb;have h1:=hk.1;rw [hb] at h1;simp only [zA] at h1
   exact ⟨z27.1 h1.1,h1.2⟩
  | succ j=>exact z8b hk.2 j y id h (by rw [←hb];congr 1;omega)
theorem zac {b:Bnd} {n:Nat}:{m j0:Nat}->∀ j id,z12 (zcj b n m j0) j=some id->j < m∧(z1v b (j0+j)=some id∨(z1v b (j0+j)=none∧id=n+(j0+j)))
 | 0,j0,j,id,h=>by cases j <;> simp [zcj,z12] at h
 | m+1,j0,0,id,h=>by
  simp only [zcj,z12,zI] at h;refine ⟨by omega,?_⟩;rw [Nat.add_zero];split at h
  ·rename_i i hi;subst h;exact .inl hi
  ·rename_i hi;exact .inr ⟨hi,h.symm⟩
 | m+1,j0,j+1,id,h=>by
  simp only [zcj,z12] at h;obtain ⟨h1,h2⟩:=zac (m:=m) j id h;have e:j0+1+j=j0+(j+1):=by omega
  rw [e] at h2;exact ⟨by omega,h2⟩
theorem z5c {M:List Nat} {E:Nat->Nat×Nat}:(l:List SObj)->(d:zhv l)->{j0:Nat}->{os:List Obj}->ziu M E l d j0=some os->
  os.length=l.length∧∀ j y,z12 os j=some y->∃ (o:SObj) (e:o.den),z12 (z96 l d) j=some (o.mk e)∧o.inst M E (j0+j) e=some y∧(zcc l=true->o.flat=true)
 | [],d,j0,os,h=>by
  simp only [ziu,zI] at h;subst h
  exact ⟨rfl,fun j y h=>by cases j <;> simp [z12] at h⟩
 | o :: l,d,j0,os,h=>by
  simp only [ziu] at h;split at h
  ·rename_i x y h1 h2;simp only [zI] at h;subst h;obtain ⟨h3,h4⟩:=z5c l d.2 h2;refine ⟨by simp [h3],fun j z hj=>?_⟩
   cases j with
   | zero=>
    simp only [z12,zI] at hj;subst hj
    exact ⟨o,d.1,rfl,h1,fun h=>by simp only [zcc,zA] at h;exact h.1⟩
   | succ j=>
    obtain ⟨o',e,k1,k2,k3⟩:=h4 j z hj;refine ⟨o',e,k1,?_,fun h=>k3 (by simp only [zcc,zA] at h;exact h.2)⟩;rw [←k2];congr 1;omega
  ·simp at h
theorem zft:{l:List Nat}->ziy l=true->l.Nodup
 | [],_=>by simp
 | x :: l,h=>by
  simp only [ziy,zA,Bool.not_eq_true'] at h;exact List.nodup_cons.2 ⟨z10.1 h.1,zft h.2⟩
theorem znb {α:Type}:{l:List α}->{i:Nat}->l.length≤i->z12 l i=none
 | [],i,_=>by cases i <;> rfl
 | _ :: _,0,h=>by simp at h
 | _ :: l,i+1,h=>znb (l:=l) (by simpa using h)
theorem zen:(l:List SObj)->(d:zhv l)->(z96 l d).length=l.length
 | [],_=>rfl
 | _ :: l,d=>by simp only [z96,List.length_cons,zen l]
def zhz (σ:St) (i:Nat):Bool:=match σ.objs i with
 | some (.row _ _ _)=>true
 | _=>false
structure Behind (w:World) (g:Ghost) (σ:St) (n:Nat) (x:Bool) (ids:List Nat) (b:Bnd) (fout:SForm) (r:fout.den) (os:List Obj) (w':World) (gc:Ghost):Prop where
 ext:Ext w (z30 x g ids) w' gc
 heap:HeapOK w' gc (z12 (z96 fout.objs r.2))
 ident:∀ j id,z1v b j=some id->zej g gc (z12 (z96 fout.objs r.2)) σ.objs j id
 inst:ziu (zcj b n fout.objs.length 0) (zlr σ b) fout.objs r.2 0=some os
 nodup:ziy (zcj b n fout.objs.length 0)=true
 back:zn7 σ ids b os 0=true
 fresh:∀ m,n≤m->m < n+8->Fresh g σ m
 len:fout.objs.length≤8
 flat:x=false∨(z8u fout.slots=true∧zcc fout.objs=true)
 had:∀ i∈ids,σ.objs i≠none
section
variable {nt:Nat} {w:World} {g:Ghost} {a:Act} {σ:St} {n:Nat} {x:Bool} {ids:List Nat} {b:Bnd} {fout:SForm} {r:fout.den} {os:List Obj} {w':World} {gc:Ghost}
abbrev Behind.M (_:Behind w g σ n x ids b fout r os w' gc):List Nat:=zcj b n fout.objs.length 0
abbrev Behind.G (_:Behind w g σ n x ids b fout r os w' gc):Ghost:=z6q g gc ids (zcj b n fout.objs.length 0) w.heap.size (zhz σ)
abbrev Behind.st (_:Behind w g σ n x ids b fout r os w' gc):St:=backSt σ ids (zcj b n fout.objs.length 0) os
theorem Behind.idx (H:Behind w g σ n x ids b fout r os w' gc) {j id:Nat} (h:z12 H.M j=some id):z1e id H.M 0=some j:=by
 have:=za4 (k:=0) (zft H.nodup) h
 rwa [Nat.zero_add] at this
theorem Behind.memM (H:Behind w g σ n x ids b fout r os w' gc) {j id:Nat} (h:z12 H.M j=some id):(z1v b j=some id∧id∈ids)∨(z1v b j=none∧id=n+j∧j < 8):=by
 obtain ⟨h1,h2⟩:=zac j id h;rw [Nat.zero_add] at h2;rcases h2 with h2 | ⟨h2,h3⟩
 ·obtain ⟨y,hy⟩:=z7s (l:=os) (i:=j) (by rw [(z5c _ _ H.inst).1];exact h1);exact .inl ⟨h2,(z8b H.back j y id hy (by rw [Nat.zero_add];exact h2)).1⟩
 ·exact .inr ⟨h2,h3,by have:=H.len;omega⟩
theorem Behind.objM (H:Behind w g σ n x ids b fout r os w' gc) {j id:Nat} (h:z12 H.M j=some id):H.st.objs id=z12 os j:=by
 show (match z1e id H.M 0 with
  | some j=>z12 os j
  | none=>cond (z2q id ids) none (σ.objs id))=_
 rw [H.idx h]
theorem Behind.objO (H:Behind w g σ n x ids b fout r os w' gc) {id:Nat} (h:id∉H.M):H.st.objs id=if id∈ids then none else σ.objs id:=by
 show (match z1e id H.M 0 with
  | some j=>z12 os j
  | none=>cond (z2q id ids) none (σ.objs id))=_
 rw [zb4 h]
 cases hm:z2q id ids with
 | true=>simp [z27.1 hm]
 | false=>simp [z10.1 hm]
theorem Behind.new (H:Behind w g σ n x ids b fout r os w' gc) {id:Nat} (h:σ.objs id≠none) {j:Nat} (hm:z12 H.M j=some id):z1v b j=some id∧id∈ids:=by
 rcases H.memM hm with h1 | ⟨_,rfl,h2⟩
 ·exact h1
 ·exact absurd (H.fresh _ (by omega) (by omega)).objs h
theorem Behind.bk (H:Behind w g σ n x ids b fout r os w' gc):Bk gc H.G (z12 (z96 fout.objs r.2)) H.st.objs H.M (zlr σ b):=by
 obtain ⟨hlen,hget⟩:=z5c _ _ H.inst;refine ⟨fun j id hm y' hy=>?_,fun j id hm t l ho=>?_,fun j id hm t l ho p=>?_,fun j id hm=>?_,fun b j p id hb hm=>back_row H.ext hb hm,fun b j id hb hm=>back_box H.ext hb hm⟩
 ·rw [H.objM hm] at hy;obtain ⟨o,e,h1,h2,_⟩:=hget j y' hy;rw [Nat.zero_add] at h2;refine ⟨_,h1,?_⟩
  cases o with
  | row t=>simp only [SObj.inst,zI] at h2;exact .inl ⟨t,e,rfl,h2.symm⟩
  | cell p=>
   simp only [SObj.inst,Option.map_eq_some_iff] at h2;obtain ⟨a',h2,rfl⟩:=h2
   exact .inr (.inl ⟨_,a',rfl,rfl,zgd p h2⟩)
  | map kt vt=>simp only [SObj.inst,zI] at h2;exact .inr (.inr (.inl ⟨kt,vt,e,rfl,h2.symm⟩))
  | nest t=>simp only [SObj.inst,zI] at h2;exact .inr (.inr (.inr ⟨t,e,rfl,h2.symm⟩))
  | iter mid=>simp [SObj.inst] at h2
  | con p=>
   obtain ⟨a',h2b,rfl⟩:=zl7 h2;exact .inr (.inl ⟨_,_,rfl,rfl,by simp only [AVal.sk];exact zgd p h2b⟩)
 ·show (match z1e id H.M 0 with
   | some j=>if zhz σ id then g.sv id [] else gc.sv j []
   | none=>g.sv id [])=_
  rw [H.idx hm];simp only;split
  ·rename_i hk;unfold zhz at hk;split at hk
   ·rename_i t' l' e' hobj;obtain ⟨h1,_⟩:=H.new (by rw [hobj];simp) hm;exact ((H.ident j id h1).1 t l ho t' l' e' hobj).symm
   ·simp at hk
  ·rfl
 ·show (match z1e id H.M 0 with
   | some j=>if zhz σ id then g.sv id p else gc.sv j p
   | none=>g.sv id p)=_
  rw [H.idx hm];simp only;split
  ·rename_i hk;exfalso;unfold zhz at hk;split at hk
   ·rename_i t' l' e' hobj;obtain ⟨h1,_⟩:=H.new (by rw [hobj];simp) hm;obtain ⟨y,hy⟩:=z7s (l:=os) (i:=j) (by rw [hlen];exact (zac j id hm).1);have hs:=(z8b H.back j y id hy (by rw [Nat.zero_add];exact h1)).2;obtain ⟨o,e,h3,h4,_⟩:=hget j y hy;rw [h3] at ho
    cases o with
    | nest t=>simp only [SObj.inst,zI] at h4;subst h4;rw [hobj] at hs;simp [z3m] at hs
    | row t=>simp [SObj.mk] at ho
    | cell p=>simp [SObj.mk] at ho
    | map kt vt=>simp [SObj.mk] at ho
    | iter mid=>simp [SObj.mk] at ho
    | con p=>simp [SObj.mk] at ho
   ·simp at hk
  ·rfl
 ·show (match z1e id H.M 0 with
   | some j=>gc.blk j
   | none=>g.blk id)=_
  rw [H.idx hm]
theorem Behind.carry (H:Behind w g σ n x ids b fout r os w' gc):RoKept w' gc w' H.G∨(z8u fout.slots=true∧zcc fout.objs=true):=by
 rcases H.flat with h | h
 ·left;have he:=H.ext;rw [h] at he;exact zuw he
 ·exact .inr h
theorem Behind.kept (H:Behind w g σ n x ids b fout r os w' gc) (hst:StOK nt g w a σ) (id:Nat) (h:σ.objs id≠none∨id < n∨n+8≤id):z15 g H.G id (σ.objs id) (H.st.objs id):=by
 by_cases hM:id∈H.M
 ·obtain ⟨j,hm⟩:∃ j,z12 H.M j=some id:=by
   obtain ⟨j,hj,he⟩:=List.mem_iff_getElem.1 hM;exact ⟨j,by rw [z8c,List.getElem?_eq_getElem hj,he]⟩
  rcases H.memM hm with ⟨h1,h2⟩ | ⟨h1,rfl,h2⟩
  ·rw [H.objM hm];obtain ⟨hlen,hget⟩:=z5c _ _ H.inst;obtain ⟨y,hy⟩:=z7s (l:=os) (i:=j) (by rw [hlen];exact (zac j id hm).1);rw [hy];obtain ⟨_,hs⟩:=z8b H.back j y id hy (by rw [Nat.zero_add];exact h1);obtain ⟨o,e,h3,h4,_⟩:=hget j y hy;rw [Nat.zero_add] at h4;have hid:=H.ident j id h1;have hbk:=H.bk;have hobjc:=H.heap.objs j _ h3
   cases hso:σ.objs id with
   | none=>exact absurd hso (H.had id h2)
   | some so=>
    rw [hso] at hs;have hobjs:=hst.heap.objs id _ hso
    have hE:zlr σ b j=(match so with
     | .row _ _ e=>(e,0)
     | .nest _ _ e i _=>(e,i+1)
     | _=>(0,0)):=by
     cases so <;> simp [zlr,h1,hso]
    cases o with
    | row t=>
     simp only [SObj.inst,zI] at h4;subst h4
     cases so with
     | row u l e0=>
      simp only [z3m,Option.isSome_iff_exists] at hs;obtain ⟨hs,_⟩:=hs;obtain rfl:=hs.down;have hsv:=hid.1 _ _ h3 _ _ _ hso;simp only at hE;refine .inr (.inl ⟨u,l,e,e0,(zlr σ b j).1,rfl,rfl,.inr ⟨by rw [hE],?_,fun p=>?_⟩⟩)
      ·obtain ⟨_,a1,c1,_,q1,_⟩:=hobjs;obtain ⟨_,a2,c2,_,q2,_⟩:=hobjc;rw [←hsv,q2] at q1;simp only [Value.slice.injEq] at q1;exact q1.2.1
      ·show (match z1e id H.M 0 with
        | some j=>if zhz σ id then g.sv id p else gc.sv j p
        | none=>g.sv id p)=_
       rw [H.idx hm]
       simp [zhz,hso]
     | _=>simp [z3m] at hs
    | cell p=>
     simp only [SObj.inst,Option.map_eq_some_iff] at h4;obtain ⟨a',h4,rfl⟩:=h4
     cases so with
     | cell a0=>
      simp only [z3m] at hs;refine .inr (.inr (.inl ⟨a0,a',rfl,rfl,Sk.same_eq hs,?_⟩));rw [hbk.blk j id hm]
      exact hid.2.1 _ h3 _ hso
     | _=>simp [z3m] at hs
    | map kt vt=>
     simp only [SObj.inst,zI] at h4;subst h4
     cases so with
     | map kt' vt' m0=>
      simp only [z3m,zA,Option.isSome_iff_exists] at hs;obtain ⟨⟨e1,_⟩,⟨e2,_⟩⟩:=hs;obtain rfl:=e1.down;obtain rfl:=e2.down;refine .inr (.inr (.inr (.inl ⟨_,_,m0,e,rfl,rfl,?_⟩)));rw [hbk.blk j id hm]
      exact hid.2.2.1 _ _ _ h3 _ _ _ hso
     | _=>simp [z3m] at hs
    | nest t=>
     simp only [SObj.inst,zI] at h4;subst h4
     cases so with
     | nest u l e0 i0 hole=>
      cases hole with
      | some p=>simp [z3m] at hs
      | none=>
       simp only [z3m,Option.isSome_iff_exists] at hs;obtain ⟨hs,_⟩:=hs;obtain rfl:=hs.down;have hsv:=hid.2.2.2 _ _ h3 _ _ _ _ _ hso;simp only at hE;refine .inr (.inr (.inr (.inr ⟨u,l,e,e0,(zlr σ b j).1,i0,(zlr σ b j).2,none,none,rfl,rfl,by rw [hE];exact Nat.le_refl _,by rw [hE];exact Nat.le_succ _,fun _=>?_,fun hi=>?_⟩)))
       ·rw [hbk.svn j id hm _ _ h3 []];exact hsv
       ·rw [hE] at hi;simp at hi
     | _=>simp [z3m] at hs
    | iter mid=>simp [SObj.inst] at h4
    | con p=>
     obtain ⟨a',h4b,rfl⟩:=zl7 h4
     cases so with
     | cell a0=>
      simp only [z3m] at hs;refine .inr (.inr (.inl ⟨a0,_,rfl,rfl,Sk.same_eq hs,?_⟩));rw [hbk.blk j id hm]
      exact hid.2.1 _ h3 _ hso
     | _=>simp [z3m] at hs
  ·exfalso;rcases h with h | h | h
   ·exact h (H.fresh _ (by omega) (by omega)).objs
   ·omega
   ·omega
 ·rw [H.objO hM];by_cases hi:id∈ids
  ·rw [if_pos hi];exact .inl rfl
  ·rw [if_neg hi]
   cases ho:σ.objs id with
   | none=>exact .inl rfl
   | some o=>exact z15.same (zp9 H.ext hst.heap.tags hi hM)
end
end Go.Kz
namespace Go.Kz
variable {R:Type}
section
variable {nt:Nat} {w:World} {g:Ghost} {a:Act} {σ:St} {n:Nat} {x:Bool} {ids:List Nat} {b:Bnd} {fout:SForm} {r:fout.den} {os:List Obj} {w':World} {gc:Ghost}
theorem Behind.notM (H:Behind w g σ n x ids b fout r os w' gc) {m:Nat} (hm:m < n∨n+8≤m) (hf:Fresh g σ m):m∉H.M:=by
 intro hM;obtain ⟨j,hj,he⟩:=List.mem_iff_getElem.1 hM;rcases H.memM (j:=j) (id:=m) (by rw [z8c,List.getElem?_eq_getElem hj,he]) with ⟨_,h2⟩ | ⟨_,rfl,_⟩
 ·exact H.had m h2 hf.objs
 ·omega
theorem Behind.ok (H:Behind w g σ n x ids b fout r os w' gc) (hst:StOK nt g w a σ):StOK nt H.G w' a H.st:=by
 have hro:=back_ro (M:=H.M) (keep:=zhz σ) H.ext hst.heap.tags;have huse:∀ m,¬ Fresh g σ m->σ.objs m≠none∨m < n∨n+8≤m:=by
  intro m hm;by_cases h:n≤m∧m < n+8
  ·exact absurd (H.fresh m h.1 h.2) hm
  ·right;omega
 refine ⟨fun i av hi=>?_,⟨fun id y hy=>?_,fun b hb=>zy8 H.ext H.heap.tags b hb⟩,hst.size,hst.defers,hst.known.kept hro⟩
 ·obtain ⟨v,h1,h2⟩:=hst.slots i av hi;exact ⟨v,h1,VOK.frame hro (fun id hid=>H.kept hst id (huse id fun hf=>hf.slots i av hi hid)) h2⟩
 ·by_cases hM:id∈H.M
  ·obtain ⟨j,hj,he⟩:=List.mem_iff_getElem.1 hM;have hm:z12 H.M j=some id:=by rw [z8c,List.getElem?_eq_getElem hj,he]
   rw [H.objM hm] at hy;obtain ⟨_,hget⟩:=z5c _ _ H.inst;obtain ⟨o,e,h3,h4,h5⟩:=hget j y hy;rw [Nat.zero_add] at h4;exact inst_obj H.bk hm (H.carry.imp _root_.id fun h=>h5 h.2) h3 h4 (H.heap.objs j _ h3)
  ·rw [H.objO hM] at hy;by_cases hi:id∈ids
   ·rw [if_pos hi] at hy;simp at hy
   ·rw [if_neg hi] at hy;refine z14.frame hro (zp9 H.ext hst.heap.tags hi hM) (fun av ha id' hid'=>H.kept hst id' (huse id' fun hf=>?_)) (hst.heap.objs id y hy);subst ha;exact hf.cells id av hy hid'
theorem Behind.free (H:Behind w g σ n x ids b fout r os w' gc) {m:Nat} (hm:m < n∨n+8≤m) (hf:Fresh g σ m):Fresh H.G H.st m:=by
 have hM:=H.notM hm hf;have hconv:∀ {t:Tag},((∃ p,zeg H.M t = .row m p)∨zeg H.M t = .box m)->False:=by
  intro t ht
  cases t with
  | alien=>simp [zeg] at ht
  | ro=>simp [zeg] at ht
  | row j p=>
   simp only [zeg] at ht
   cases hj:z12 H.M j with
   | none=>simp [hj] at ht
   | some id=>simp [hj] at ht;subst ht;exact hM (z31 hj)
  | box j=>
   simp only [zeg] at ht
   cases hj:z12 H.M j with
   | none=>simp [hj] at ht
   | some id=>simp [hj] at ht;subst ht;exact hM (z31 hj)
 refine ⟨?_,fun bb p hb=>?_,fun bb hb=>?_,hf.slots,fun id av ho hmem=>?_⟩
 ·rw [H.objO hM,hf.objs];split <;> rfl
 ·rcases z8r (M:=H.M) (keep:=zhz σ) H.ext bb with ⟨_,h1,_⟩ | ⟨h1,_⟩
  ·exact hf.row bb p (h1.symm.trans hb)
  ·exact hconv (.inl ⟨p,h1.symm.trans hb⟩)
 ·rcases z8r (M:=H.M) (keep:=zhz σ) H.ext bb with ⟨_,h1,_⟩ | ⟨h1,_⟩
  ·exact hf.box bb (h1.symm.trans hb)
  ·exact hconv (.inr (h1.symm.trans hb))
 ·by_cases hI:id∈H.M
  ·obtain ⟨j,hj,he⟩:=List.mem_iff_getElem.1 hI;have hmj:z12 H.M j=some id:=by rw [z8c,List.getElem?_eq_getElem hj,he]
   rw [H.objM hmj] at ho;obtain ⟨_,hget⟩:=z5c _ _ H.inst;obtain ⟨o,e,h3,h4,h5⟩:=hget j _ ho
   cases o with
   | cell p=>
    simp only [SObj.inst,Option.map_eq_some_iff,Obj.cell.injEq] at h4;obtain ⟨a',h4,rfl⟩:=h4
    exact hM ((z3s p h4).2.2.2.2 m hmem)
   | con p=>
    obtain ⟨a',h4b,h6⟩:=zl7 h4;simp only [Obj.cell.injEq] at h6;subst h6
    exact hM ((z3s p h4b).2.2.2.2 m (by simpa [AVal.ids] using hmem))
   | _=>simp [SObj.inst] at h4
  ·rw [H.objO hI] at ho;by_cases hi:id∈ids
   ·rw [if_pos hi] at ho;simp at ho
   ·rw [if_neg hi] at ho;exact hf.cells id av ho hmem
theorem zil {M:List Nat} {E:Nat->Nat×Nat}:(l:List (Nat×SPat))->(d:zcw l)->{vs:List AVal}->z6x M E l d=some vs->∀ m,m∈(z3p vs).ids->m∈M
 | [],d,vs,h,m,hm=>by
  simp only [z6x,zI] at h;subst h
  simp [z3p,AVal.ids] at hm
 | (i,p) :: l,d,vs,h,m,hm=>by
  simp only [z6x] at h;split at h
  ·rename_i a vs' h1 h2;simp only [zI] at h;subst h;simp only [z3p,AVal.ids,List.mem_append] at hm;rcases hm with hm | hm
   ·exact (z3s p h1).2.2.2.2 m hm
   ·exact zil l d.2 h2 m hm
  ·simp at h
theorem zjy:(n:Nat)->(l:List AVal)->∀ m,m∈(z3p (z81 n l)).ids->m∈(z3p l).ids
 | 0,_,_,h=>h
 | _+1,[],_,h=>h
 | n+1,a :: l,m,h=>by
  simp only [z81] at h;simp only [z3p,AVal.ids,List.mem_append];exact .inr (zjy n l m h)
theorem ztz (l:List AVal) (m:Nat) (h:m∈(z6g l).ids):m∈(z3p l).ids:=by
 match l,h with
 | [],h=>simp [z6g,AVal.ids,z3p] at h
 | [a],h=>simp only [z3p,AVal.ids,List.mem_append];exact .inl h
 | a :: c :: l,h=>exact h
theorem zmf {G:Ghost} {oc o':z2c} {M:List Nat} {E:Nat->Nat×Nat} (hb:Bk gc G oc o' M E):(l:List (Nat×SPat))->(d:zcw l)->{vs:List AVal}->{us:List Value}->(RoKept w gc w G∨z8u l=true)->z6x M E l d=some vs->
  z1o w gc oc (z3p ((z84 l d).map Prod.snd)) us->z1o w G o' (z3p vs) us
 | [],d,vs,us,_,h,hv=>by
  simp only [z6x,zI] at h;subst h
  simpa [z84,z3p,z1o] using hv
 | (i,p) :: l,d,vs,us,hf,h,hv=>by
  simp only [z6x] at h;split at h
  ·rename_i a vs' h1 h2;simp only [zI] at h;subst h;simp only [z84,List.map_cons,z3p,z1o] at hv ⊢;obtain ⟨v,rest,rfl,k1,k2⟩:=hv;exact ⟨v,rest,rfl,zsh hb (hf.imp _root_.id fun h=>by simp only [z8u,zA] at h;exact h.1) h1 k1,
    zmf hb l d.2 (hf.imp _root_.id fun h=>by simp only [z8u,zA] at h;exact h.2) h2 k2⟩
  ·simp at h
theorem zik {G:Ghost} {oc o':z2c} {M:List Nat} {E:Nat->Nat×Nat} (hb:Bk gc G oc o' M E):(k:Nat)->(l:List (Nat×SPat))->(d:zcw l)->{vs:List AVal}->{u:Value}->(RoKept w gc w G∨z8u l=true)->z6x M E l d=some vs->
  VOK w gc oc (z6g (z81 k ((z84 l d).map Prod.snd))) u->VOK w G o' (z6g (z81 k vs)) u
 | 0,l,d,vs,u,hf,h,hv=>by
  simp only [z81] at hv ⊢
  match l,d,hf,h,hv with
  | [],d,hf,h,hv=>
   simp only [z6x,zI] at h;subst h
   simpa [z84,z6g,z3p,VOK,z1o] using hv
  | [(i,p)],d,hf,h,hv=>
   simp only [z6x] at h;split at h
   ·rename_i a vs' h1 h2;simp only [zI] at h h2;subst h2;subst h;simp only [z84,List.map_cons,List.map_nil,z6g] at hv ⊢;exact zsh hb (hf.imp _root_.id fun h=>by simp only [z8u,zA] at h;exact h.1) h1 hv
   ·simp at h
  | (i,p) :: (i2,p2) :: l,d,hf,h,hv=>
   have hlen:∃ a1 a2 vs',vs=a1 :: a2 :: vs':=by
    simp only [z6x] at h;split at h
    ·rename_i a vs' h1 h2;split at h2
     ·simp only [zI] at h h2;subst h2;subst h;exact ⟨_,_,_,rfl⟩
     ·simp at h2
    ·simp at h
   obtain ⟨a1,a2,vs',rfl⟩:=hlen;have hv':VOK w gc oc (.tup (z3p ((z84 ((i,p) :: (i2,p2) :: l) d).map Prod.snd))) u:=hv;show VOK w G o' (.tup (z3p (a1 :: a2 :: vs'))) u;simp only [VOK] at hv' ⊢;obtain ⟨us,rfl,hv'⟩:=hv'
   exact ⟨us,rfl,zmf hb _ d hf h hv'⟩
 | k+1,[],d,vs,u,hf,h,hv=>by
  simp only [z6x,zI] at h;subst h
  simpa [z84,z81,z6g,z3p,VOK,z1o] using hv
 | k+1,(i,p) :: l,d,vs,u,hf,h,hv=>by
  simp only [z6x] at h;split at h
  ·rename_i a vs' h1 h2;simp only [zI] at h;subst h;simp only [z84,List.map_cons,z81] at hv ⊢;exact zik hb k l d.2 (hf.imp _root_.id fun h=>by simp only [z8u,zA] at h;exact h.2) h2 hv
  ·simp at h
end
end Go.Kz
