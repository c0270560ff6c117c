/-
  All operations together.
-/
import Derived.Test.YtmoggdcmpoobpaaGreatDoorKzXE
import Derived.Test.YtmoggdcmpoobpaaGreatDoorKzUA
set_option linter.unusedVariables false
set_option linter.unusedSimpArgs false
namespace Go.Kz
variable {R:Type}
structure ub (P:Program) (c:Ctx):Prop where
 tt:gP P c.tt
 mt:Ez P c.mt
 eqs:NQ P c.eqs
 env:A5 P c.env
section
variable {P:Program} {o:Oper} {a:Act} {w:World} {K:Act->World->Prop} {Q:Exit->Act->World->Prop} {c:Ctx} {J:St} {g:z8} {k:St->Option R} {r:R} {base:Nat} {mo:Bool}
theorem UA (hc:ub P c) (hy:IP o=true) (zq:zK c.ntmps g w a J) (h:Rz c J base o k=some r):vN P o a w g J c k r:=by
 simp only [IP,zA,A1] at hy;obtain ⟨hj,hy⟩:=hy;simp only [Rz,hj,zW] at h
 cases ho:o.op with
 | move x=>exact Lh (.inl ho) zq h
 | assign x=>exact Lh (.inr ho) zq h
 | pick t x y=>exact z5q ho zq h
 | binOp op t x y t'=>exact Og hc.tt hc.eqs ho zq h
 | unOp op t x=>exact z5p ho zq h
 | convert t t' x=>exact Ip hc.tt ho zq h
 | indexAddr t x i=>exact SX hc.tt ho zq h
 | fieldAddr t x i=>exact SA hc.tt ho zq h
 | nilCheck x=>exact En ho zq h
 | load t x=>exact z5u hc.tt ho zq h
 | extract x i=>exact Ig ho zq h
 | lookup t x i ok=>exact Oj hc.mt ho zq h
 | slice t x lo hi mx=>cases mx with
  | none=>exact SP hc.tt ho zq h
  | some mx=>simp [Ks,ho] at hy
 | build t ps=>exact SF hc.tt ho zq h
 | index t x i=>exact Ov hc.tt ho zq h
 | field t x i=>simp [y9,ho] at h
 | makeInterface t x=>simp [y9,ho] at h
 | typeAssert x xt t ok=>simp [y9,ho] at h
 | makeFunc f first cap=>
  cases f with
  | func f=>exact Er ho zq h
  | _=>simp [y9,ho] at h
 | call cl=>
  obtain ⟨callee,args,ts⟩:=cl
  cases callee with
  | builtin b=>
   cases b with
   | len=>exact zd7 ho hc.tt hc.mt zq h
   | max=>exact zd6 ho zq h
   | min=>exact zd5 ho zq h
   | _=>simp [Ks,ho] at hy
  | _=>simp [Ks,ho] at hy
 | _=>simp [Ks,ho] at hy
theorem z5v (hj:X3 o=true) (zq:zK c.ntmps g w a J) (h:k (J.wh o.dst)=some r) (hK:jt c.ntmps k r g w J base (M9 o) K):o.wp P a w K Q:=by
 have ho:∃ v,o.op = .assign (.const v):=by
  unfold X3 at hj;split at hj
  ·exact ⟨_,by assumption⟩
  ·exact ⟨_,by assumption⟩
  ·exact ⟨_,by assumption⟩
  ·simp at hj
 obtain ⟨v,ho⟩:=ho;unfold Oper.wp;have zb:(execOp a.eval o).run P w = .ok (.value (a.eval (.const v))) w:=by simp [execOp,ho]
 rw [zb,Oper.upon_value];refine hK _ g _ w h (zq.zd2 o.dst _) (Ext.refl _ _) (fun m _ hm=>hm.wh o.dst) ?_ (fun _=>jT.refl w);cases o.dst <;> rfl
theorem Bg (hc:ub P c) (zq:zK c.ntmps g w a J) (vQ:∀ m,base<=m->m < base+8->zY g J m) (h:Rz c J base o k=some r) (hK:jt c.ntmps k r g w J base (M9 o) K):o.wp P a w K Q:=by
 have hf:zY g J base:=vQ base (yS _) (by omega)
 cases hj:X3 o with
 | true=>
  simp only [Rz,hj,zD] at h
  exact z5v hj zq h hK
 | false=>
 cases hy:IP o with
 | true=>exact (UA hc hy zq h).wp zq hK
 | false=>
  simp only [Rz,hj,zW] at h;simp only [IP,hj,Z2b,Z2q] at hy
  cases ho:o.op with
  | alloc t=>exact SI hc.tt ho zq hf h hK
  | box t x=>exact zd8 ho zq hf h hK
  | makeSlice t x y=>exact CD hc.tt ho zq hf h hK
  | buildSlice t n ps=>exact AZ hc.tt ho zq hf (fun ow u Qe hu hb h=>z5s hc.tt ho zq hf Qe hu hb h hK) h hK
  | slice t x lo hi mx=>cases mx with
   | none=>simp [Ks,ho] at hy
   | some mx=>exact Oy hc.tt ho zq h hK
  | store t x y=>exact SG hc.tt ho zq h (by simpa [M9,ho] using hK)
  | mapUpdate t x i y=>exact CC hc.mt ho zq h (by simpa [M9,ho] using hK)
  | mapEntry t x i=>exact Eo hc.mt ho zq h (by simpa [M9,ho] using hK)
  | entryStore t x i y=>exact Ax hc.mt ho zq h (by simpa [M9,ho] using hK)
  | makeMap t rs=>cases rs with
   | none=>exact Ik ho zq hf h hK
   | some _=>simp [y9,ho] at h
  | call cl=>
   obtain ⟨callee,args,ts⟩:=cl
   cases callee with
   | builtin b=>
    cases b with
    | append=>exact Ou hc.tt ho zq hf (fun x y t u ow av bv ha ht Qe hx hy h=>Iu hc.tt ho zq ha ht Qe hx hy h (by simpa [M9,ho] using hK)) h (by simpa [M9,ho] using hK)
    | clear=>simp [y9,ho] at h
    | copy=>exact z5w hc.tt ho zq h (by simpa [M9,ho] using hK)
    | _=>first | (simp [Ks,ho] at hy;done) | (simp [y9,ho] at h;done)
   | value x=>
    simp only [y9,ho] at h;split at h
    ·rename_i gv av hx ha;exact z5x hc.env ho rfl zq vQ hx ha h hK
    ·simp at h
   | invoke x m=>simp [y9,ho] at h
  | _=>first | (simp [Ks,ho] at hy;done) | (simp [y9,ho] at h;done)
end
end Go.Kz
namespace Go.Kz
variable {R:Type}
theorem jX {x:Nat}:{l:List Nat}->(yD x l=true↔x∈l)
 | []=>by simp [yD]
 | y :: l=>by
  simp only [yD,gX]
  cases h:Nat.beq y x with
  | true=>simp [zE h]
  | false=>
   have vI:x≠y:=by intro he;subst he;rw [Lu] at h;simp at h
   simp [vI,jX (l:=l)]
theorem jK {x:Nat} {l:List Nat}:yD x l=false↔x∉l:=by
 rw [<-jX];simp
def qY (g:z8) (J:St):Prop:=∀ m,J.next<=m->zY g J m
theorem GK {x:Nat}:{l:List Nat}->{k j:Nat}->qZ x l k=some j->∃ d,j=k+d/\zF l d=some x
 | [],_,_,h=>by simp [qZ] at h
 | y :: l,k,j,h=>by
  simp only [qZ] at h
  cases hb:Nat.beq y x with
  | true=>
   rw [hb] at h;simp only [zD,zI] at h
   exact ⟨0,by omega,by simp [zF,zE hb]⟩
  | false=>
   rw [hb] at h;obtain ⟨d,hd,hn⟩:=GK (l:=l) h;exact ⟨d+1,by omega,hn⟩
theorem vS {x j:Nat} {l:List Nat} (h:qZ x l 0=some j):zF l j=some x:=by
 obtain ⟨d,hd,hn⟩:=GK h;rw [hd,Zp];exact hn
theorem ZE {x:Nat}:{l:List Nat}->{k d:Nat}->l.Nodup->zF l d=some x->qZ x l k=some (k+d)
 | [],_,d,_,h=>by cases d <;> simp [zF] at h
 | y :: l,k,0,_,h=>by
  simp only [zF,zI] at h;subst h
  simp [qZ,Lu]
 | y :: l,k,d+1,hn,h=>by
  simp only [Z2s] at hn;have hm:x∈l:=jH h;have vI:Nat.beq y x=false:=by
   cases hb:Nat.beq y x with
   | true=>rw [zE hb] at hn;exact absurd hm hn.1
   | false=>rfl
  simp only [qZ,vI,zW];rw [ZE (l:=l) hn.2 h];congr 1;omega
theorem ux {I:Type}:{l:List I}->{i:Nat}->i < l.length->∃ x,zF l i=some x
 | [],_,h=>by simp at h
 | x :: _,0,_=>⟨x,rfl⟩
 | _ :: l,i+1,h=>ux (l:=l) (by simpa using h)
theorem po {z6:Nat->Option Obj}:(n:Nat)->(todo seen:List Nat)->seen.Nodup->(k8 z6 n todo seen).Nodup
 | 0,_,_,h=>h
 | _+1,[],_,h=>h
 | n+1,x :: todo,seen,h=>by
  simp only [k8]
  cases hm:yD x seen with
  | true=>exact po n _ _ h
  | false=>
   have hx:(seen++[x]).Nodup:=by
    rw [Z4p];refine ⟨h,by simp,fun a ha b hb=>?_⟩;simp only [EY] at hb;subst hb;intro he;subst he;exact jK.1 hm ha
   simp only [zW];split <;> exact po n _ _ hx
def wG (g:z8) (ids:List Nat):z8 where
 tag:=fun b=>match g.tag b with
  | .row i p=>(match qZ i ids 0 with
   | some j=>.row j p
   | none=>.zn)
  | .box i=>(match qZ i ids 0 with
   | some j=>.box j
   | none=>.zn)
  | t=>t
 sv:=fun j p=>match zF ids j with
  | some i=>g.sv i p
  | none=>undef
 zt:=fun j=>match zF ids j with
  | some i=>g.zt i
  | none=>0
section
variable {w:World} {g:z8} {ids:List Nat}
theorem x6:zO w g w (wG g ids):=⟨fun b hb=>⟨by simp [wG,hb],rfl⟩⟩
theorem Sx:Ext w g w (wG g ids):=by
 refine ⟨rfl,rfl,rfl,yS _,yS _,fun b _ ht=>⟨rfl,?_⟩⟩;rcases ht with ht | ht <;> simp [wG,ht]
theorem YG {i j:Nat} (h:zF ids j=some i) (p:Path):(wG g ids).sv j p=g.sv i p:=by simp [wG,h]
theorem wK {i j:Nat} (h:zF ids j=some i):(wG g ids).zt j=g.zt i:=by simp [wG,h]
theorem Ug (hn:ids.Nodup) {i j:Nat} (h:zF ids j=some i):xZ w g w (wG g ids) i [] j []:=by
 have hx:=ZE (k:=0) hn h;rw [Zp] at hx;exact ⟨fun q=>YG h _,fun q b hb=>⟨by simp [wG,hb,hx],rfl⟩⟩
theorem Up (hn:ids.Nodup) {i j:Nat} (h:zF ids j=some i) {b:Nat} (hb:g.tag b = .box i):(wG g ids).tag b = .box j:=by
 have hx:=ZE (k:=0) hn h;rw [Zp] at hx;simp [wG,hb,hx]
theorem CP {b m:Nat} (h:(∃ p,(wG g ids).tag b = .row m p)\/(wG g ids).tag b = .box m):m < ids.length:=by
 have key:∀ i j,qZ i ids 0=some j->j < ids.length:=fun i j h=>wj (vS h)
 simp only [wG] at h
 cases ht:g.tag b with
 | zn=>rw [ht] at h;simp at h
 | ro=>rw [ht] at h;simp at h
 | row i p=>
  rw [ht] at h
  cases hx:qZ i ids 0 with
  | none=>simp [hx] at h
  | some j=>simp [hx] at h;rw [<-h];exact key i j hx
 | box i=>
  rw [ht] at h
  cases hx:qZ i ids 0 with
  | none=>simp [hx] at h
  | some j=>simp [hx] at h;rw [<-h];exact key i j hx
theorem Ij {b:Nat} (h:(wG g ids).tag b≠.zn):g.tag b≠.zn:=by
 intro h';simp [wG,h'] at h
structure Jg (z6:qk) (ids:List Nat) (os:List Obj):Prop where
 len:os.length=ids.length
 get:∀ j i,zF ids j=some i->∃ o o',z6 i=some o/\o.vU z6 (fun i=>qZ i ids 0)=some o'/\zF os j=some o'
theorem ZG {Y:Nat->Option Nat} {z6:qk}:{l:List Nat}->{os:List Obj}->YK Y z6 l=some os->
  os.length=l.length/\∀ j i,zF l j=some i->∃ o o',z6 i=some o/\o.vU z6 Y=some o'/\zF os j=some o'
 | [],os,h=>by
  simp only [YK,zI] at h;subst h
  exact ⟨rfl,fun j i h=>by simp [zF] at h⟩
 | x :: l,os,h=>by
  simp only [YK] at h;split at h
  ·rename_i o os' ho Ry;simp only [zI] at h;subst h;obtain ⟨h1,h2⟩:=ZG Ry;refine ⟨by simp [h1],fun j i hj=>?_⟩
   cases j with
   | zero=>
    simp only [zF,zI] at hj;subst hj;simp only [VN] at ho;obtain ⟨o0,h3,h4⟩:=ho
    exact ⟨o0,o,h3,h4,rfl⟩
   | succ j=>exact h2 j i hj
  ·simp at h
theorem Uk {z6:qk} {Y:Nat->Option Nat}:{a a':z7}->a.vU z6 Y=some a'->a'.sk=a.sk
 | .data t d,a',h=>by simp only [z7.vU,zI] at h;subst h;rfl
 | .qy,a',h=>by simp only [z7.vU,zI] at h;subst h;rfl
 | .ref i p ep,a',h=>by
  simp only [z7.vU] at h;split at h
  ·rename_i t l e zg
   cases hb:Nat.beq e ep with
   | false=>rw [hb] at h;simp at h
   | true=>rw [hb] at h;simp only [zD,wq] at h;obtain ⟨j,hj,rfl⟩:=h;rfl
  ·simp at h
 | .view i p ep x y,a',h=>by
  simp only [z7.vU] at h;split at h
  ·rename_i t l e zg
   cases hb:Nat.beq e ep with
   | false=>rw [hb] at h;simp at h
   | true=>rw [hb] at h;simp only [zD,wq] at h;obtain ⟨j,hj,rfl⟩:=h;rfl
  ·simp at h
 | .zu i p,a',h=>by simp only [z7.vU,wq] at h;obtain ⟨j,hj,rfl⟩:=h;rfl
 | .qA i,a',h=>by simp only [z7.vU,wq] at h;obtain ⟨j,hj,rfl⟩:=h;rfl
 | .nv pt i p ep,a',h=>by
  simp only [z7.vU] at h;split at h
  ·rename_i t l e i' zg
   cases hb:Nat.beq (F8 false p e i') ep with
   | false=>rw [hb] at h;simp at h
   | true=>rw [hb] at h;simp only [zD,wq] at h;obtain ⟨j,hj,rfl⟩:=h;rfl
  ·simp at h
 | .yG f c,a',h=>by simp only [z7.vU,wq] at h;obtain ⟨j,hj,rfl⟩:=h;rfl
 | .JJ f c,a',h=>by simp only [z7.vU,wq] at h;obtain ⟨j,hj,rfl⟩:=h;rfl
 | .agg c,a',h=>by
  simp only [z7.vU,wq] at h;obtain ⟨c',hc,rfl⟩:=h
  simp only [z7.sk,Uk hc]
 | .pr a b,a',h=>by
  simp only [z7.vU] at h;split at h
  ·rename_i x y hx hy;simp only [zI] at h;subst h;simp only [z7.sk,Uk hx,Uk hy]
  ·simp at h
 | .un,a',h=>by simp only [z7.vU,zI] at h;subst h;rfl
 | .vW _ _ _,a',h=>by simp [z7.vU] at h
 | .jC _,a',h=>by simp [z7.vU] at h
theorem GI {z6:qk} {Y:Nat->Option Nat} {a:z7} (h:a.wk=false):xp z6 Y a=a.vU z6 Y:=by
 cases a <;> first | rfl | simp [z7.wk] at h
theorem L4 {z6:qk} {Y:Nat->Option Nat} {a a':z7} (h:xp z6 Y a=some a'):a'.sk=a.sk:=by
 cases ht:a.wk with
 | false=>rw [GI ht] at h;exact Uk h
 | true=>
  cases a <;> simp [z7.wk] at ht;simp only [xp,wq] at h;obtain ⟨c,hc,rfl⟩:=h;simp only [z7.sk,Uk hc]
theorem De {z6:qk} {Y:Nat->Option Nat} {Kx:Nat} {n:Int} {left:List Int} {cur:Int} {a':z7} (h:xp z6 Y (pF Kx n left cur)=some a'):∃ j,Y Kx=some j/\a'=pF j n left cur:=by
 simp only [pF,xp,z7.vU,wq] at h;obtain ⟨c,hc,rfl⟩:=h
 cases hm:Y Kx with
 | none=>rw [hm] at hc;simp at hc
 | some j=>
  rw [hm] at hc;simp only [Z2o,zI] at hc;exact ⟨j,rfl,by rw [<-hc];rfl⟩
theorem QX {z6:qk} {os:List Obj} (hn:ids.Nodup) (ho:Jg z6 ids os):{a a':z7}->{cs:List Value}->a.vU z6 (fun i=>qZ i ids 0)=some a'->jV w g z6 a cs->
  jV w (wG g ids) (zF os) a' cs/\a'.sk=a.sk/\a'.isAgg=a.isAgg/\(∀ m∈a'.ids,m < ids.length)/\(∀ c,a≠.jC c)/\(∀ x y,a' = .pr x y->∃ x' y',a = .pr x' y')/\(a' = .un->a = .un)
 | .data t d,a',cs,h,zR=>by
  simp only [z7.vU,zI] at h;subst h
  exact ⟨⟨zR.1,zR.2.kept x6⟩,rfl,rfl,by simp [z7.ids],by simp,by simp,by simp⟩
 | .qy,a',cs,h,zR=>by
  simp only [z7.vU,zI] at h;subst h
  exact ⟨zR,rfl,rfl,by simp [z7.ids],by simp,by simp,by simp⟩
 | .ref i p ep,a',cs,h,zR=>by
  simp only [z7.vU] at h;split at h
  ·rename_i t l e zg
   cases hb:Nat.beq e ep with
   | false=>rw [hb] at h;simp at h
   | true=>
    rw [hb] at h;have he:=zE hb;subst he;simp only [zD,wq] at h;obtain ⟨j,hj,rfl⟩:=h;have Jc:=vS hj;obtain ⟨v,hv,qL,hx⟩:=zR;refine ⟨⟨v,hv,qL,fun t' l' e' OO=>?_⟩,rfl,rfl,by simpa [z7.ids] using wj Jc,by simp,by simp,by simp⟩;obtain ⟨o,o',h1,h2,h3⟩:=ho.get j i Jc;rw [zg] at h1;simp only [zI] at h1;subst h1;simp only [Obj.vU,zI] at h2;subst h2;rw [h3] at OO;simp only [zI,Obj.row.injEq] at OO;obtain ⟨_,_,rfl⟩:=OO;exact ⟨yS _,fun _=>by rw [YG Jc];exact (hx _ _ _ zg).2 rfl⟩
  ·simp at h
 | .view i p ep x y,a',cs,h,zR=>by
  simp only [z7.vU] at h;split at h
  ·rename_i t l e zg
   cases hb:Nat.beq e ep with
   | false=>rw [hb] at h;simp at h
   | true=>
    rw [hb] at h;have he:=zE hb;subst he;simp only [zD,wq] at h;obtain ⟨j,hj,rfl⟩:=h;have Jc:=vS hj;obtain ⟨v,hv,qL,hx⟩:=zR;refine ⟨⟨v,hv,qL,fun t' l' e' OO=>?_⟩,rfl,rfl,by simpa [z7.ids] using wj Jc,by simp,by simp,by simp⟩;obtain ⟨o,o',h1,h2,h3⟩:=ho.get j i Jc;rw [zg] at h1;simp only [zI] at h1;subst h1;simp only [Obj.vU,zI] at h2;subst h2;rw [h3] at OO;simp only [zI,Obj.row.injEq] at OO;obtain ⟨rfl,hl,rfl⟩:=OO;have hl:=Z35 hl;subst hl;exact ⟨yS _,fun _=>by rw [YG Jc];exact (hx _ _ _ zg).2 rfl⟩
  ·simp at h
 | .zu i p,a',cs,h,zR=>by
  simp only [z7.vU,wq] at h;obtain ⟨j,hj,rfl⟩:=h;have Jc:=vS hj;obtain ⟨v,hv,qL,hx⟩:=zR;refine ⟨⟨v,hv,qL,fun y hy=>?_⟩,rfl,rfl,by simpa [z7.ids] using wj Jc,by simp,by simp,by simp⟩;obtain ⟨o,o',h1,h2,h3⟩:=ho.get j i Jc;rw [h3] at hy;simp only [zI] at hy;subst hy
  cases o with
  | row t l e=>simp [Obj.vU] at h2
  | map k v m=>simp [Obj.vU] at h2
  | nest t l e i h=>cases h <;> simp [Obj.vU] at h2
  | cell z=>
   simp only [Obj.vU,wq,Obj.cell.injEq] at h2;obtain ⟨z',hz,rfl⟩:=h2;obtain ⟨off,s,ju,gR⟩:=hx _ h1
   exact ⟨off,s,by rw [L4 hz];exact ju,by rw [wK Jc];exact gR⟩
 | .qA i,a',cs,h,zR=>by
  simp only [z7.vU,wq] at h;obtain ⟨j,hj,rfl⟩:=h;have Jc:=vS hj;obtain ⟨v,hv,qL,hx⟩:=zR;refine ⟨⟨v,hv,qL,fun kt vt m hm=>?_⟩,rfl,rfl,by simpa [z7.ids] using wj Jc,by simp,by simp,by simp⟩;obtain ⟨o,o',h1,h2,h3⟩:=ho.get j i Jc;rw [h3] at hm;simp only [zI] at hm;subst hm
  cases o with
  | row t l e=>simp [Obj.vU] at h2
  | cell z=>simp [Obj.vU] at h2
  | nest t l e i h=>cases h <;> simp [Obj.vU] at h2
  | map k' v' m'=>
   rw [wK Jc];exact hx _ _ _ h1
 | .nv pt i p ep,a',cs,h,zR=>by
  simp only [z7.vU] at h;split at h
  ·rename_i t l e i' zg
   cases hb:Nat.beq (F8 false p e i') ep with
   | false=>rw [hb] at h;simp at h
   | true=>
    rw [hb] at h;have he:=zE hb;simp only [zD,wq] at h;obtain ⟨j,hj,rfl⟩:=h;have Jc:=vS hj;obtain ⟨v,hv,qL,hx⟩:=zR;refine ⟨⟨v,hv,qL,fun t' l' e' i'' h'' OO=>?_⟩,rfl,rfl,by simpa [z7.ids] using wj Jc,by simp,by simp,by simp⟩;obtain ⟨o,o',h1,h2,h3⟩:=ho.get j i Jc;rw [zg] at h1;simp only [zI] at h1;subst h1;simp only [Obj.vU,zI] at h2;subst h2;rw [h3] at OO;simp only [zI,Obj.nest.injEq] at OO;obtain ⟨_,_,rfl,rfl,_⟩:=OO;refine ⟨jE _,fun _=>⟨fun _=>by rw [YG Jc];exact ((hx _ _ _ _ _ zg).2 he).1 rfl,fun h=>(by simp at h)⟩⟩
  ·simp at h
 | .yG f c,a',cs,h,zR=>by
  simp only [z7.vU,wq] at h;obtain ⟨c',hc,rfl⟩:=h;obtain ⟨vs,hv,hx⟩:=zR;obtain ⟨h1,h2,_,h3,_⟩:=QX hn ho hc hx
  exact ⟨⟨vs,hv,h1⟩,rfl,rfl,h3,by simp,by simp,by simp⟩
 | .JJ t c,a',cs,h,zR=>by
  simp only [z7.vU,wq] at h;obtain ⟨c',hc,rfl⟩:=h;obtain ⟨x,Bf,hv,hx,hxv⟩:=zR;obtain ⟨h1,h2,vl,h3,_⟩:=QX hn ho hc hx
  exact ⟨⟨x,Bf,hv,h1,by rw [vl];exact hxv⟩,rfl,rfl,h3,by simp,by simp,by simp⟩
 | .agg c,a',cs,h,zR=>by
  simp only [z7.vU,wq] at h;obtain ⟨c',hc,rfl⟩:=h;obtain ⟨h1,h2,_,h3,_⟩:=QX hn ho hc (show jV w g z6 c cs from zR)
  exact ⟨h1,h2,rfl,h3,by simp,by simp,by simp⟩
 | .pr a b,a',cs,h,zR=>by
  simp only [z7.vU] at h;split at h
  ·rename_i x y hx hy;simp only [zI] at h;subst h;obtain ⟨c1,c2,pN,ok1,ok2⟩:=zR;obtain ⟨h1,h2,_,h3,_⟩:=QX hn ho hx ok1;obtain ⟨k1,k2,_,k3,_⟩:=QX hn ho hy ok2;refine ⟨⟨c1,c2,pN,h1,k1⟩,by simp [z7.sk,h2,k2],rfl,fun m hm=>?_,by simp,fun _ _ _=>⟨a,b,rfl⟩,by simp⟩;simp only [z7.ids,Gt] at hm;rcases hm with hm | hm
   ·exact h3 m hm
   ·exact k3 m hm
  ·simp at h
 | .un,a',cs,h,zR=>by
  simp only [z7.vU,zI] at h;subst h
  exact ⟨zR,rfl,rfl,by simp [z7.ids],by simp,by simp,by simp⟩
 | .vW _ _ _,a',cs,h,_=>by simp [z7.vU] at h
 | .jC _,a',cs,h,_=>by simp [z7.vU] at h
theorem Lb {z6:qk} {os:List Obj} (hn:ids.Nodup) (ho:Jg z6 ids os) {a a':z7} {v:Value} (h:a.vU z6 (fun i=>qZ i ids 0)=some a') (hv:zl w g z6 a v) :
  zl w (wG g ids) (zF os) a' v/\∀ m∈a'.ids,m < ids.length:=by
 have ht:∀ c,a≠.jC c:=by intro c hc;subst hc;simp [z7.vU] at h
 obtain ⟨cs,zR,Qj⟩:=wc hv ht;obtain ⟨h1,h2,h3,h4,h5,h6,h7⟩:=QX hn ho h zR;refine ⟨yA h1 (by rw [h3];exact Qj) (fun x y he=>?_) (fun he=>?_),h4⟩
 ·obtain ⟨x',y',rfl⟩:=h6 x y he;simp only [zl] at hv
 ·have:=h7 he;subst this;simp only [zl] at hv
theorem Lc {z6:qk} {os:List Obj} (hn:ids.Nodup) (ho:Jg z6 ids os) {i j:Nat} (hj:zF ids j=some i) {o o':Obj} (h:o.vU z6 (fun i=>qZ i ids 0)=some o') (zR:zm w g z6 i o) :
  zm w (wG g ids) (zF os) j o'/\∀ y,o' = .cell y->∀ m∈y.ids,m < ids.length:=by
 cases o with
 | row t l e=>
  simp only [Obj.vU,zI] at h;subst h;refine ⟨⟨zR.1,?_⟩,by simp⟩;rw [YG hj]
  exact zC.move x6 (o:=some (i,[])) (o':=some (j,[])) (Ug hn hj) zR.2
 | cell y=>
  simp only [Obj.vU,wq] at h;obtain ⟨y',hy,rfl⟩:=h
  cases Qe:y.wk with
  | true=>
   cases gA:y.wg with
   | true=>
    obtain ⟨x,rfl⟩:=X4 gA;obtain ⟨c,e,h1,h2,h3⟩:=(zm.Jq gA).1 zR;simp only [xp,wq] at hy;obtain ⟨x',hx,rfl⟩:=hy;obtain ⟨k1,_,_,k2,_⟩:=QX hn ho hx h3;have FF:(z7.jC x').wg=true:=by
     cases x <;> simp [z7.wg] at gA
     ·simp only [z7.vU,wq] at hx;obtain ⟨x2,hx,rfl⟩:=hx;rfl
     ·simp only [z7.vU,wq] at hx;obtain ⟨x2,hx,rfl⟩:=hx;rfl
    refine ⟨(zm.Jq FF).2 ⟨c,e,by rw [wK hj];exact h1,?_,k1⟩,fun z hz=>?_⟩
    ·rw [wK hj];exact (x6 (w:=w).zt _ h2).1
    ·simp only [Obj.cell.injEq] at hz
     subst hz;exact k2
   | false=>
   obtain ⟨Kx,n,bm,seen,last,rfl,h1,h2,h3,h4⟩:=(zm.iter Qe gA).1 zR;obtain ⟨j',v7,rfl⟩:=De hy;have Jc:=vS v7;refine ⟨(zm.iter rfl).2 ⟨j',n,bm,seen,last,rfl,by rw [wK hj];exact h1,by rw [wK hj];exact Up hn hj h2,h3,fun kt vt m hm=>?_⟩,fun z hz=>?_⟩
   ·obtain ⟨o,o',k1,k2,k3⟩:=ho.get j' Kx Jc;rw [k3] at hm;simp only [zI] at hm;subst hm
    cases o with
    | row t l e=>simp [Obj.vU] at k2
    | cell z=>simp [Obj.vU] at k2
    | nest t l e i h=>cases h <;> simp [Obj.vU] at k2
    | map k' v' m'=>rw [wK Jc];exact h4 _ _ _ k1
   ·simp only [Obj.cell.injEq] at hz;subst hz
    simpa [pF,z7.ids] using wj Jc
  | false=>
  rw [GI Qe] at hy;obtain ⟨c,e,h1,h2,h3⟩:=zR.out Qe;obtain ⟨k1,_,_,k2,_⟩:=QX hn ho hy h3;refine ⟨zm.mk ⟨c,e,by rw [wK hj];exact h1,by rw [wK hj];exact Up hn hj h2,k1⟩,fun z hz=>?_⟩;simp only [Obj.cell.injEq] at hz
  subst hz;exact k2
 | map kt vt m=>
  simp only [Obj.vU,zI] at h;subst h;obtain ⟨es,ck,h1,h2,h3,h4,h5,h6⟩:=zR
  exact ⟨⟨es,ck,by rw [wK hj];exact h1,by rw [wK hj];exact Up hn hj h2,h3,h4,h5.kept x6,h6⟩,by simp⟩
 | nest t l e i' hole=>
  cases hole with
  | some p=>simp [Obj.vU] at h
  | none=>
   simp only [Obj.vU,zI] at h;subst h;refine ⟨?_,by simp⟩;show zC w (wG g ids) (some (j,[])) (.sl true t) l [(wG g ids).sv j []];rw [YG hj];exact zC.move x6 (o:=some (i,[])) (o':=some (j,[])) (Ug hn hj) (show zC w g (some (i,[])) (.sl true t) l [g.sv i []] from zR)
end
theorem JH {z6:qk} {Y:Nat->Option Nat}:{l l':List (Nat×z7)}->QA z6 Y l=some l'->∀ i a',yT l' i=some a'->∃ a,yT l i=some a/\a.vU z6 Y=some a'
 | [],l',h,i,a',hi=>by
  simp only [QA,zI] at h;subst h
  simp [yT] at hi
 | (j,a) :: l,l',h,i,a',hi=>by
  simp only [QA] at h;split at h
  ·rename_i a1 l1 h1 h2;simp only [zI] at h;subst h;simp only [yT] at hi ⊢
   cases hb:Nat.beq j i with
   | true=>
    rw [hb] at hi;simp only [zD,zI] at hi;subst hi
    exact ⟨a,by simp,h1⟩
   | false=>
    rw [hb] at hi;simp only [zW] at hi ⊢;exact JH h2 i a' hi
  ·simp at h
theorem QR {J:St}:{live:List Nat}->{l:List (Nat×z7)}->xe J live=some l->∀ i a,yT l i=some a->J.zj i=some a
 | [],l,h,i,a,hi=>by
  simp only [xe,zI] at h;subst h
  simp [yT] at hi
 | j :: live,l,h,i,a,hi=>by
  simp only [xe] at h;split at h
  ·rename_i a1 l1 h1 h2;simp only [zI] at h;subst h;simp only [yT] at hi
   cases hb:Nat.beq j i with
   | true=>
    rw [hb] at hi;simp only [zD,zI] at hi;subst hi
    rw [<-zE hb];exact h1
   | false=>
    rw [hb] at hi;exact QR h2 i a hi
  ·simp at h
section
variable {n:Nat} {w:World} {a:Act} {g:z8} {J:St} {r:R}
theorem Su {k:List (Nat×z7)->List Obj->Option R} {l:List (Nat×z7)} (hl:∀ i a,yT l i=some a->J.zj i=some a) (zq:zK n g w a J) (h:Iy l J k=some r) :
  ∃ sl os g',k sl os=some r/\zK n g' w a (St.of sl os)/\Ext w g w g'/\qY g' (St.of sl os):=by
 unfold Iy at h;simp only at h;split at h
 ·rename_i l' os hs Ry;have hnd:(k8 J.z6 100 (l.flatMap fun x=>x.2.ids) []).Nodup:=po _ _ _ (by simp);generalize gz:k8 J.z6 100 (l.flatMap fun x=>x.2.ids) []=ids at *;obtain ⟨hlen,gq⟩:=ZG Ry;have qv:Jg J.z6 ids os:=⟨hlen,gq⟩;have zab:∀ i av,yT l' i=some av->∃ v,a.tmps[i]? = some v/\zl w (wG g ids) (zF os) av v/\∀ m∈av.ids,m < ids.length:=by
   intro i av hi;obtain ⟨a0,h1,h2⟩:=JH hs i av hi;obtain ⟨v,hv,zR⟩:=zq.zj i a0 (hl i a0 h1);obtain ⟨k1,k2⟩:=Lb hnd qv h2 zR;exact ⟨v,hv,k1,k2⟩
  have zg:∀ j o',zF os j=some o'->zm w (wG g ids) (zF os) j o'/\∀ y,o' = .cell y->∀ m∈y.ids,m < ids.length:=by
   intro j o' hj;obtain ⟨i,hi⟩:=ux (l:=ids) (i:=j) (by rw [<-hlen];exact wj hj);obtain ⟨o,o2,h1,h2,h3⟩:=gq j i hi;rw [hj] at h3;simp only [zI] at h3;subst h3;exact Lc hnd qv hi h2 (zq.heap.z6 i o h1)
  refine ⟨l',os,wG g ids,h,⟨fun i av hi=>?_,⟨fun j o' hj=>(zg j o' hj).1,fun b hb=>zq.heap.tags b (Ij hb)⟩,zq.size,zq.defers,zq.known.kept x6⟩,Sx,fun m hm=>?_⟩
  ·obtain ⟨v,h1,h2,_⟩:=zab i av hi;exact ⟨v,h1,h2⟩
  ·have Xy:ids.length<=m:=by rw [<-hlen];exact hm
   refine ⟨?_,fun b p hb=>?_,fun b hb=>?_,fun i av hi hmem=>?_,fun j y hj hmem=>?_⟩
   ·cases hc:zF os m with
    | none=>exact hc
    | some o=>have:=wj hc;omega
   ·have:=CP (.inl ⟨p,hb⟩);omega
   ·have:=CP (.inr hb);omega
   ·obtain ⟨v,_,_,h3⟩:=zab i av hi;have:=h3 m hmem;omega
   ·have:=(zg j _ hj).2 y rfl m hmem;omega
 ·simp at h
end
theorem Rt {a b:Step} (h:S0 a b=true):a=b:=by
 cases a <;> cases b <;> simp [S0] at h <;> rfl
theorem Eh:{p q:Path}->Bv p q=true->p=q
 | [],[],_=>rfl
 | a :: p,b :: q,h=>by
  simp only [Bv,zA] at h
  rw [Rt h.1,Eh h.2]
 | [],_ :: _,h=>by simp [Bv] at h
 | _ :: _,[],h=>by simp [Bv] at h
theorem yX {b:Bool} {x:Option R} {r:R} (h:cond b x none=some r):b=true/\x=some r:=by
 cases b <;> simp_all
theorem zG.vC:(p:zG)->{a:z7}->{k:p.den->Option R}->{r:R}->p.take a k=some r->∃ d,a=p.mk d/\k d=some r
 | .val t,a,k,r,h=>by
  cases a with
  | data u d=>
   simp only [zG.take] at h;replace h:=qS h;obtain ⟨rfl,h⟩:=h
   exact ⟨d,rfl,h⟩
  | _=>simp [zG.take] at h
 | .qy,a,k,r,h=>by
  cases a with
  | qy=>exact ⟨(),rfl,h⟩
  | _=>simp [zG.take] at h
 | .ref id,a,k,r,h=>by
  cases a with
  | ref vu p ep=>
   cases p with
   | nil=>
    simp only [zG.take] at h;replace h:=yX h;obtain ⟨hb,h⟩:=h;simp only [zA,Q4] at hb;obtain ⟨rfl,rfl⟩:=hb
    exact ⟨(),rfl,h⟩
   | cons s q=>simp [zG.take] at h
  | _=>simp [zG.take] at h
 | .view id,a,k,r,h=>by
  cases a with
  | view vu p ep x y=>
   cases p with
   | nil=>
    simp only [zG.take] at h;replace h:=yX h;obtain ⟨hb,h⟩:=h;simp only [zA,Q4] at hb;obtain ⟨rfl,rfl⟩:=hb
    exact ⟨(x,y),rfl,h⟩
   | cons s q=>simp [zG.take] at h
  | _=>simp [zG.take] at h
 | .zu id p,a,k,r,h=>by
  cases a with
  | zu vu p'=>
   simp only [zG.take] at h;replace h:=yX h;obtain ⟨hb,h⟩:=h;simp only [zA,Q4] at hb;obtain ⟨rfl,hb⟩:=hb;obtain rfl:=Eh hb
   exact ⟨(),rfl,h⟩
  | _=>simp [zG.take] at h
 | .qA id,a,k,r,h=>by
  cases a with
  | qA vu=>
   simp only [zG.take] at h;replace h:=yX h;obtain ⟨hb,h⟩:=h;simp only [Q4] at hb;subst hb
   exact ⟨(),rfl,h⟩
  | _=>simp [zG.take] at h
 | .nv id,a,k,r,h=>by
  cases a with
  | nv pt vu p ep=>
   cases pt with
   | true=>simp [zG.take] at h
   | false=>
    cases p with
    | nil=>
     simp only [zG.take] at h;replace h:=yX h;obtain ⟨hb,h⟩:=h;simp only [zA,Q4] at hb;obtain ⟨rfl,rfl⟩:=hb
     exact ⟨(),rfl,h⟩
    | cons s q=>simp [zG.take] at h
  | _=>simp [zG.take] at h
 | .nvi id,a,k,r,h=>by
  cases a with
  | nv pt vu p ep=>
   cases pt with
   | true=>simp [zG.take] at h
   | false=>
    cases p with
    | nil=>simp [zG.take] at h
    | cons s q=>
     cases q with
     | cons s' q'=>cases s <;> simp [zG.take] at h
     | nil=>
      cases s with
      | fst=>simp [zG.take] at h
      | snd=>simp [zG.take] at h
      | idx i=>
       simp only [zG.take] at h;replace h:=yX h;obtain ⟨hb,h⟩:=h;simp only [zA,Q4] at hb;obtain ⟨rfl,rfl⟩:=hb
       exact ⟨i,rfl,h⟩
  | _=>simp [zG.take] at h
 | .yG f c,a,k,r,h=>by
  cases a with
  | yG g d=>
   simp only [zG.take] at h;replace h:=yX h;obtain ⟨hb,h⟩:=h;simp only [Q4] at hb;subst hb;replace h:=zG.vC c h;obtain ⟨d',rfl,h⟩:=h
   exact ⟨d',rfl,h⟩
  | _=>simp [zG.take] at h
 | .JJ f c,a,k,r,h=>by
  cases a with
  | JJ g d=>
   simp only [zG.take] at h;replace h:=yX h;obtain ⟨hb,h⟩:=h;simp only [Q4] at hb;subst hb;replace h:=zG.vC c h;obtain ⟨d',rfl,h⟩:=h
   exact ⟨d',rfl,h⟩
  | _=>simp [zG.take] at h
 | .agg c,a,k,r,h=>by
  cases a with
  | agg d=>
   simp only [zG.take] at h;replace h:=zG.vC c h;obtain ⟨d',rfl,h⟩:=h
   exact ⟨d',rfl,h⟩
  | _=>simp [zG.take] at h
 | .pr p q,a,k,r,h=>by
  cases a with
  | pr x y=>
   simp only [zG.take] at h;replace h:=zG.vC p h;obtain ⟨d,rfl,h⟩:=h;replace h:=zG.vC q h;obtain ⟨e,rfl,h⟩:=h
   exact ⟨(d,e),rfl,h⟩
  | _=>simp [zG.take] at h
 | .un,a,k,r,h=>by
  cases a with
  | un=>exact ⟨(),rfl,h⟩
  | _=>simp [zG.take] at h
theorem yK.vC (o:yK) {x:Obj} {k:o.den->Option R} {r:R} (h:o.take x k=some r):∃ d,x=o.mk d/\k d=some r:=by
 cases o with
 | row t=>
  cases x with
  | row u l ep=>
   simp only [yK.take] at h;replace h:=yX h;obtain ⟨hb,h⟩:=h;simp only [Q4] at hb;subst hb;replace h:=qS h;obtain ⟨he,h⟩:=h;simp only [Ty.sl.injEq,VL] at he;subst he
   exact ⟨l,rfl,h⟩
  | _=>simp [yK.take] at h
 | cell p=>
  cases x with
  | cell a=>
   simp only [yK.take] at h;replace h:=zG.vC p h;obtain ⟨d,rfl,h⟩:=h
   exact ⟨d,rfl,h⟩
  | _=>simp [yK.take] at h
 | map kt vt=>
  cases x with
  | map Ur Pe m=>
   simp only [yK.take,zb2] at h;split at h
   ·rename_i h1 h2 _ _;obtain rfl:=h1.down;obtain rfl:=h2.down;exact ⟨m,rfl,h⟩
   ·simp at h
  | _=>simp [yK.take] at h
 | nest t=>
  cases x with
  | nest u l e i hole=>
   cases hole with
   | some p=>simp [yK.take] at h
   | none=>
    simp only [yK.take] at h;replace h:=yX h;obtain ⟨hb,h⟩:=h;simp only [zA,Q4] at hb;obtain ⟨rfl,rfl⟩:=hb;replace h:=qS h;obtain ⟨he,h⟩:=h;simp only [Ty.sl.injEq,VL] at he;subst he
    exact ⟨l,rfl,h⟩
  | _=>simp [yK.take] at h
 | iter id=>
  cases x with
  | cell a=>
   simp only [yK.take] at h;split at h
   ·rename_i hq _ _;cases hq
   ·rename_i hq _ _;cases hq
   ·rename_i hq _ _;cases hq
   ·rename_i hq _ _;cases hq
   ·rename_i id1 id2 n left cur k1 hq1 HS;cases hq1;cases HS;replace h:=yX h;obtain ⟨hb,h⟩:=h;simp only [Q4] at hb;subst hb;exact ⟨(n,left,cur),rfl,h⟩
   ·rename_i hq _ _;cases hq
   ·simp at h
  | _=>simp [yK.take] at h
 | Jq p=>
  cases x with
  | cell a=>
   simp only [yK.take] at h;split at h
   ·rename_i hq _ _;cases hq
   ·rename_i hq _ _;cases hq
   ·rename_i hq _ _;cases hq
   ·rename_i hq _ _;cases hq
   ·rename_i hq _ _;cases hq
   ·rename_i p1 a1 k1 hq0 hq1 HS;cases hq0;cases hq1;cases HS;replace h:=zG.vC p h;obtain ⟨d,rfl,h⟩:=h;exact ⟨d,rfl,h⟩
   ·simp at h
  | _=>simp [yK.take] at h
theorem QQ:(l:List (Nat×zG))->{m:List (Nat×z7)}->{k:xD l->Option R}->{r:R}->KG l m k=some r->∃ d,m=vY l d/\k d=some r
 | [],[],k,r,h=>⟨(),rfl,h⟩
 | [],_ :: _,k,r,h=>by simp [KG] at h
 | _ :: _,[],k,r,h=>by simp [KG] at h
 | (i,p) :: l,(j,a) :: m,k,r,h=>by
  simp only [KG] at h;replace h:=yX h;obtain ⟨hb,h⟩:=h;simp only [Q4] at hb;subst hb;replace h:=zG.vC p h;obtain ⟨d,rfl,h⟩:=h;replace h:=QQ l h;obtain ⟨e,rfl,h⟩:=h;exact ⟨(d,e),rfl,h⟩
theorem x7:(l:List yK)->{m:List Obj}->{k:JN l->Option R}->{r:R}->V7 l m k=some r->∃ d,m=vr l d/\k d=some r
 | [],[],k,r,h=>⟨(),rfl,h⟩
 | [],_ :: _,k,r,h=>by simp [V7] at h
 | _ :: _,[],k,r,h=>by simp [V7] at h
 | o :: l,x :: m,k,r,h=>by
  simp only [V7] at h;replace h:=yK.vC o h;obtain ⟨d,rfl,h⟩:=h;replace h:=x7 l h;obtain ⟨e,rfl,h⟩:=h;exact ⟨(d,e),rfl,h⟩
end Go.Kz
namespace Go.Kz
variable {R:Type}
def yR (x:Bool) (g:z8) (ids:List Nat):z8:={ wG g ids with
 tag:=fun b=>match g.tag b with
  | .row i p=>(match qZ i ids 0 with
   | some j=>.row j p
   | none=>if x then .ro else .zn)
  | .box i=>(match qZ i ids 0 with
   | some j=>.box j
   | none=>if x then .ro else .zn)
  | t=>t }
section
variable {w:World} {g:z8} {ids:List Nat} {x:Bool}
theorem Ww {b:Nat} (h:(wG g ids).tag b≠.zn):(yR x g ids).tag b=(wG g ids).tag b:=by
 simp only [wG,yR] at h ⊢
 cases ht:g.tag b with
 | zn=>rfl
 | ro=>rfl
 | row i p=>
  rw [ht] at h
  cases hx:qZ i ids 0 with
  | none=>simp [hx] at h
  | some j=>simp [hx]
 | box i=>
  rw [ht] at h
  cases hx:qZ i ids 0 with
  | none=>simp [hx] at h
  | some j=>simp [hx]
theorem Wv:zO w (wG g ids) w (yR x g ids):=⟨fun b hb=>⟨by rw [Ww (by rw [hb];simp)];exact hb,rfl⟩⟩
theorem Ui (id:Nat):Zj w (wG g ids) w (yR x g ids) id:=by
 refine ⟨⟨fun _=>rfl,fun q b hb=>⟨by rw [Ww (by rw [hb];simp)];exact hb,rfl⟩⟩,rfl,fun hb=>⟨by rw [Ww (by rw [hb];simp)];exact hb,rfl⟩⟩
theorem Ul (id:Nat) (o:Option Obj):qz (wG g ids) (yR x g ids) id o o:=qz.same (w:=default) (w':=default) (Ui id)
theorem xf {b:Nat} (h:g.tag b = .zn\/g.tag b = .ro):(yR x g ids).tag b=g.tag b:=by
 rcases h with h | h <;> simp [yR,h]
theorem Fy {b:Nat} (h:(yR x g ids).tag b≠.zn):g.tag b≠.zn:=by
 intro h';simp [yR,h'] at h
theorem Fq {b m:Nat} (h:(∃ p,(yR x g ids).tag b = .row m p)\/(yR x g ids).tag b = .box m):m < ids.length:=by
 refine CP (g:=g) (b:=b) ?_;by_cases hr:(wG g ids).tag b = .zn
 ·exfalso;simp only [wG,yR] at h hr
  cases ht:g.tag b with
  | zn=>rw [ht] at h;simp at h
  | ro=>rw [ht] at hr;simp at hr
  | row i p=>
   rw [ht] at h hr
   cases hx:qZ i ids 0 with
   | none=>cases x <;> simp [hx] at h
   | some j=>simp [hx] at hr
  | box i=>
   rw [ht] at h hr
   cases hx:qZ i ids 0 with
   | none=>cases x <;> simp [hx] at h
   | some j=>simp [hx] at hr
 ·rw [Ww hr] at h;exact h
theorem uQ {b i:Nat} (h:(∃ p,g.tag b = .row i p)\/g.tag b = .box i) (hi:i∉ids):(yR x g ids).tag b=if x then .ro else .zn:=by
 have hx:qZ i ids 0=none:=by
  cases h':qZ i ids 0 with
  | none=>rfl
  | some j=>exact absurd (jH (vS h')) hi
 rcases h with ⟨p,h⟩ | h <;> simp [yR,h,hx]
theorem SO {t:Ty} {d:t.den} {cs:List Value} (h:zC w (B4 { g with tag:=fun b=>match g.tag b with
  | .row i p=>if i∈ids then .zn else .row i p
  | .box i=>if i∈ids then .zn else .box i
  | t=>t }) none t d cs):zC w (yR true g ids) none t d cs:=by
 refine h.kept ⟨fun b hb=>⟨?_,rfl⟩⟩;simp only [B4] at hb
 cases ht:g.tag b with
 | zn=>simp [ht] at hb
 | ro=>simp [yR,ht]
 | row i p=>
  by_cases hi:i∈ids
  ·simp [ht,hi] at hb
  ·rw [uQ (.inl ⟨p,ht⟩) hi];rfl
 | box i=>
  by_cases hi:i∈ids
  ·simp [ht,hi] at hb
  ·rw [uQ (.inr ht) hi];rfl
end
section
variable {w:World} {g:z8} {J:St}
def Jh (g:z8) (ids:List Nat):z8:={ g with tag:=fun b=>match g.tag b with
 | .row i p=>if i∈ids then .zn else .row i p
 | .box i=>if i∈ids then .zn else .box i
 | t=>t }
theorem FN {ids:List Nat}:zO w g w (Jh g ids):=⟨fun b hb=>⟨by simp [Jh,hb],rfl⟩⟩
theorem Xk {ids:List Nat} {id:Nat} (hi:id∉ids):Zj w g w (Jh g ids) id:=
 ⟨⟨fun _=>rfl,fun q b hb=>⟨by simp at hb;simp [Jh,hb,hi],rfl⟩⟩,rfl,fun hb=>⟨by simp [Jh,hb,hi],rfl⟩⟩
theorem Bp {ids:List Nat} (id:Nat):(J.only fun i=>!yD i ids).z6 id=if id∈ids then none else J.z6 id:=by
 simp only [St.only]
 cases h:yD id ids with
 | true=>rw [yW (jX.1 h)];rfl
 | false=>rw [qQ (jK.1 h)];rfl
theorem Bu {ids:List Nat} (id:Nat):qz g (Jh g ids) id (J.z6 id) ((J.only fun i=>!yD i ids).z6 id):=by
 rw [Bp];by_cases h:id∈ids
 ·rw [yW h];exact .inl rfl
 ·rw [qQ h];exact qz.same (w:=default) (w':=default) (Xk h)
theorem OZ {ids:List Nat} (hh:yZ w g J.z6):yZ w (Jh g ids) (J.only fun i=>!yD i ids).z6:=by
 refine ⟨fun id o ho=>?_,fun b hb=>hh.tags b fun h=>hb (by simp [Jh,h])⟩;rw [Bp] at ho;by_cases h:id∈ids
 ·rw [yW h] at ho;simp at ho
 ·rw [qQ h] at ho;exact zm.frame FN (Xk h) (fun _ _ vu _=>Bu vu) (hh.z6 id o ho)
variable {ids:List Nat} {os:List Obj} {x:Bool}
theorem UO (hn:ids.Nodup) (ho:Jg J.z6 ids os) (hh:yZ w g J.z6):(l:List (Nat×zG))->{all:z7}->{vs:List Value}->{i0:Nat}->{k:xD l->Option R}->{r:R}->
  Us l i0=true->jc all=true->(x=true\/ZA l all=true)->qj w g J.z6 all vs->
  gr (J.only fun i=>!yD i ids) J.z6 (fun i=>qZ i ids 0) l all k=some r->
  ∃ d,k d=some r/\(∀ i av,yT (vY l d) i=some av->i0<=i/\∃ v,vs[i-i0]? = some v/\zl w (yR x g ids) (zF os) av v/\∀ m∈av.ids,m < ids.length)/\
   (∀ n a p,j9 all n=some a->zF l n=some p->p.2.isVal=false->∃ a',a.vU J.z6 (fun i=>qZ i ids 0)=some a')/\vs.length=l.length
 | [],all,vs,i0,k,r,_,hv,_,KZ,h=>by
  cases all with
  | un=>
   simp only [qj] at KZ;subst KZ
   exact ⟨(),h,fun i av hi=>by simp [vY,yT] at hi,fun n a p hn=>by cases n <;> simp [j9] at hn,rfl⟩
  | _=>simp [gr] at h
 | (i1,p) :: l,all,vs,i0,k,r,hk,hv,hx,KZ,h=>by
  cases all with
  | pr a c=>
   simp only [Us,zA,Q4] at hk;obtain ⟨rfl,hk⟩:=hk;simp only [jc,zA] at hv;simp only [qj] at KZ;obtain ⟨v,rest,rfl,OX,uc⟩:=KZ;have fin:∀ (d:p.den),(gr (J.only fun i=>!yD i ids) J.z6 (fun i=>qZ i ids 0) l c fun e=>k (d,e))=some r->zl w (yR x g ids) (zF os) (p.mk d) v->(∀ m∈(p.mk d).ids,m < ids.length)->
     (p.isVal=false->∃ a',a.vU J.z6 (fun i=>qZ i ids 0)=some a')->(x=true\/ZA l c=true)->
     ∃ d,k d=some r/\(∀ i av,yT (vY ((i1,p) :: l) d) i=some av->i1<=i/\∃ u,(v :: rest)[i-i1]? = some u/\zl w (yR x g ids) (zF os) av u/\∀ m∈av.ids,m < ids.length)/\
      (∀ n b q,j9 (.pr a c) n=some b->zF ((i1,p) :: l) n=some q->q.2.isVal=false->∃ a',b.vU J.z6 (fun i=>qZ i ids 0)=some a')/\(v :: rest).length=((i1,p) :: l).length:=by
    intro d h hvd gz Cl hx;obtain ⟨e,hke,h1,h2,h3⟩:=UO hn ho hh l hk hv.2 hx uc h;refine ⟨(d,e),hke,fun i av hi=>?_,fun n b q hb hq HS=>?_,by simp [h3]⟩
    ·simp only [vY,yT] at hi
     cases hb:Nat.beq i1 i with
     | true=>
      rw [hb] at hi;simp only [zD,zI] at hi;subst hi;have:=zE hb;subst this
      exact ⟨yS _,v,by simp,hvd,gz⟩
     | false=>
      rw [hb] at hi;obtain ⟨q1,u,q2,q3,q4⟩:=h1 i av hi;refine ⟨by omega,u,?_,q3,q4⟩;have e:i-i1=(i-(i1+1))+1:=by omega
      rw [e];simpa using q2
    ·cases n with
     | zero=>
      simp only [j9,zI] at hb;simp only [zF,zI] at hq;subst hb;subst hq
      exact Cl HS
     | succ n=>exact h2 n b q hb hq HS
   cases p with
   | val t=>
    simp only [gr] at h;obtain ⟨vl,Zo,Xq,OH⟩:=w6 hv.1;obtain ⟨cs,zR,Qj⟩:=wc OX OH;have WY:jV w (Jh g ids) (J.only fun i=>!yD i ids).z6 a cs:=jV.frame FN (fun id _=>Bu id) zR;have hh':=OZ (ids:=ids) hh;have hd:∃ d,(gr (J.only fun i=>!yD i ids) J.z6 (fun i=>qZ i ids 0) l c fun e=>k (d,e))=some r/\t.zV=true/\zC w (yR x g ids) none t d cs:=by
     rcases hx with rfl | hx
     ·obtain ⟨d,h1,h2,h3⟩:=kf hh' 20 WY h;exact ⟨d,h1,h2,SO h3⟩
     ·simp only [ZA,zA,zG.isVal,pE,Bool.false_or] at hx;obtain ⟨d,h1,h2,h3⟩:=uV 20 hx.1 WY h;refine ⟨d,h1,h2,h3.kept ⟨fun b hb=>⟨?_,rfl⟩⟩⟩;have:g.tag b = .ro:=by
       simp only [Jh] at hb;cases ht:g.tag b <;> rw [ht] at hb <;> simp at hb <;> first | rfl | (split at hb <;> simp at hb)
      rw [xf (.inr this),this]
    obtain ⟨d,h1,h2,h3⟩:=hd;refine fin d h1 ?_ (by simp [zG.mk,z7.ids]) (by simp [zG.isVal]) (hx.imp _root_.id fun hx=>by simp only [ZA,zA] at hx;exact hx.2);simp only [zG.mk,zl]
    exact ⟨cs,⟨h2,h3⟩,by rw [Qj,Zc hh' hv.1 h];rfl⟩
   | _=>
    simp only [gr] at h;split at h
    ·rename_i a' ha';obtain ⟨d,he,h⟩:=zG.vC _ h;obtain ⟨h1,h2⟩:=Lb hn ho ha' OX;refine fin d h ?_ (by rw [<-he];exact h2) (fun _=>⟨a',ha'⟩) (hx.imp _root_.id fun hx=>by simp only [ZA,zA] at hx;exact hx.2);rw [<-he];exact zl.frame Wv (fun id _=>Ul id _) h1
    ·simp at h
  | _=>simp [gr] at h
end
end Go.Kz
namespace Go.Kz
variable {R:Type}
def Zs (M:List Nat):Tag->Tag
 | .row j p=>(match zF M j with
  | some id=>.row id p
  | none=>.zn)
 | .box j=>(match zF M j with
  | some id=>.box id
  | none=>.zn)
 | t=>t
def wH (g gc:z8) (ids M:List Nat) (size:Nat) (vj:Nat->Bool):z8 where
 tag:=fun b=>if b < size then (match g.tag b with
   | .row i p=>if i∈ids then Zs M (gc.tag b) else .row i p
   | .box i=>if i∈ids then Zs M (gc.tag b) else .box i
   | t=>t) else Zs M (gc.tag b)
 sv:=fun i p=>match qZ i M 0 with
  | some j=>if vj i then g.sv i p else gc.sv j p
  | none=>g.sv i p
 zt:=fun i=>match qZ i M 0 with
  | some j=>gc.zt j
  | none=>g.zt i
section
variable {w w':World} {g gc:z8} {ids M:List Nat} {x:Bool} {vj:Nat->Bool}
theorem uT (qM:Ext w (yR x g ids) w' gc) (b:Nat) :
  (b < w.heap.size/\(wH g gc ids M w.heap.size vj).tag b=g.tag b/\gc.tag b=(yR x g ids).tag b/\w'.heap[b]? = w.heap[b]?/\((yR x g ids).tag b = .zn\/(yR x g ids).tag b = .ro)/\
   ∀ i∈ids,(∀ p,g.tag b≠.row i p)/\g.tag b≠.box i)\/
  ((wH g gc ids M w.heap.size vj).tag b=Zs M (gc.tag b)/\(b < w.heap.size->∃ i∈ids,(∃ p,g.tag b = .row i p)\/g.tag b = .box i)):=by
 by_cases qJ:b < w.heap.size
 ·have key:∀ t,g.tag b=t->((yR x g ids).tag b = .zn\/(yR x g ids).tag b = .ro)->(wH g gc ids M w.heap.size vj).tag b=t->(∀ i∈ids,(∀ p,g.tag b≠.row i p)/\g.tag b≠.box i)->
    (b < w.heap.size/\(wH g gc ids M w.heap.size vj).tag b=g.tag b/\gc.tag b=(yR x g ids).tag b/\w'.heap[b]? = w.heap[b]?/\((yR x g ids).tag b = .zn\/(yR x g ids).tag b = .ro)/\
   ∀ i∈ids,(∀ p,g.tag b≠.row i p)/\g.tag b≠.box i):=by
   intro t ht hl hb hi;obtain ⟨h1,h2⟩:=qM.vj b qJ hl;exact ⟨qJ,hb.trans ht.symm,h2,h1,hl,hi⟩
  have zlt:g.tag b = .zn\/g.tag b = .ro\/(∃ i p,g.tag b = .row i p)\/∃ i,g.tag b = .box i:=by cases g.tag b <;> simp
  rcases zlt with ht | ht | ⟨i,p,ht⟩ | ⟨i,ht⟩
  ·left;exact key _ ht (by rw [xf (.inl ht),ht];simp) (by simp [wH,ht,qJ]) (by simp [ht])
  ·left;exact key _ ht (by rw [xf (.inr ht),ht];simp) (by simp [wH,ht,qJ]) (by simp [ht])
  ·by_cases hi:i∈ids
   ·right;exact ⟨by simp [wH,ht,qJ,hi],fun _=>⟨i,hi,.inl ⟨p,ht⟩⟩⟩
   ·left;refine key _ ht ?_ (by simp [wH,ht,qJ,hi]) (fun i' vf=>⟨fun p' he=>?_,by simp [ht]⟩)
    ·rw [uQ (.inl ⟨p,ht⟩) hi];cases x <;> simp
    ·rw [ht] at he;simp only [Tag.row.injEq] at he;rw [he.1] at hi;exact hi vf
  ·by_cases hi:i∈ids
   ·right;exact ⟨by simp [wH,ht,qJ,hi],fun _=>⟨i,hi,.inr ht⟩⟩
   ·left;refine key _ ht ?_ (by simp [wH,ht,qJ,hi]) (fun i' vf=>⟨fun p' he=>by simp [ht] at he,fun he=>?_⟩)
    ·rw [uQ (.inr ht) hi];cases x <;> simp
    ·rw [ht] at he;simp only [Tag.box.injEq] at he;rw [he] at hi;exact hi vf
 ·right;exact ⟨by simp [wH,qJ],fun h=>absurd h qJ⟩
theorem z1t (qM:Ext w (yR x g ids) w' gc) {b j id:Nat} {p:Path} (h:gc.tag b = .row j p) (hm:zF M j=some id):(wH g gc ids M w.heap.size vj).tag b = .row id p:=by
 rcases uT (M:=M) (vj:=vj) qM b with ⟨_,_,h2,_,h3,_⟩ | ⟨h1,_⟩
 ·rw [h] at h2;rw [<-h2] at h3;simp at h3
 ·rw [h1,h];simp [Zs,hm]
theorem z1u (qM:Ext w (yR x g ids) w' gc) {b j id:Nat} (h:gc.tag b = .box j) (hm:zF M j=some id):(wH g gc ids M w.heap.size vj).tag b = .box id:=by
 rcases uT (M:=M) (vj:=vj) qM b with ⟨_,_,h2,_,h3,_⟩ | ⟨h1,_⟩
 ·rw [h] at h2;rw [<-h2] at h3;simp at h3
 ·rw [h1,h];simp [Zs,hm]
theorem Hw (qM:Ext w (yR x g ids) w' gc):Ext w g w' (wH g gc ids M w.heap.size vj):=by
 refine ⟨qM.os,qM.tape,qM.output,qM.drawn,qM.size,fun b hb ht=>?_⟩;obtain ⟨h1,h2⟩:=qM.vj b hb (by rw [xf ht];exact ht);refine ⟨h1,?_⟩;rcases ht with ht | ht <;> simp [wH,hb,ht]
theorem z8n (qM:Ext w (yR x g ids) w' gc) (ht:∀ b,g.tag b≠.zn->b < w.heap.size):zO w g w' (wH g gc ids M w.heap.size vj):=(Hw qM).ro ht
theorem L8 (qM:Ext w (yR false g ids) w' gc):zO w' gc w' (wH g gc ids M w.heap.size vj):=by
 refine ⟨fun b hb=>⟨?_,rfl⟩⟩;rcases uT (M:=M) (vj:=vj) qM b with ⟨_,h1,h2,_,h3,hi⟩ | ⟨h1,_⟩
 ·rw [h1];rw [hb] at h2
  cases ht:g.tag b with
  | ro=>rfl
  | zn=>rw [xf (.inl ht),ht] at h2;simp at h2
  | row i p=>
   by_cases hm:i∈ids
   ·exact absurd ht ((hi i hm).1 p)
   ·rw [uQ (.inl ⟨p,ht⟩) hm] at h2;simp at h2
  | box i=>
   by_cases hm:i∈ids
   ·exact absurd ht (hi i hm).2
   ·rw [uQ (.inr ht) hm] at h2;simp at h2
 ·rw [h1,hb];rfl
theorem R1 (qM:Ext w (yR x g ids) w' gc) (hc:∀ b,gc.tag b≠.zn->b < w'.heap.size) (b:Nat) (hb:(wH g gc ids M w.heap.size vj).tag b≠.zn):b < w'.heap.size:=by
 rcases uT (M:=M) (vj:=vj) qM b with ⟨h0,_⟩ | ⟨h1,_⟩
 ·exact Z21 h0 qM.size
 ·refine hc b fun h=>hb ?_
  rw [h1,h];rfl
theorem Qc {i:Nat}:{l:List Nat}->{k:Nat}->i∉l->qZ i l k=none
 | [],_,_=>rfl
 | y :: l,k,h=>by
  simp only [gX,not_or] at h;have:Nat.beq y i=false:=by
   cases hb:Nat.beq y i with
   | true=>exact absurd (zE hb).symm h.1
   | false=>rfl
  simp only [qZ,this,zW];exact Qc h.2
theorem C0 (qM:Ext w (yR x g ids) w' gc) (ht:∀ b,g.tag b≠.zn->b < w.heap.size) {id:Nat} (hi:id∉ids) (hM:id∉M):Zj w g w' (wH g gc ids M w.heap.size vj) id:=by
 have hx:=Qc (k:=0) hM;have hb:∀ b,((∃ p,g.tag b = .row id p)\/g.tag b = .box id)->(wH g gc ids M w.heap.size vj).tag b=g.tag b/\w'.heap[b]? = w.heap[b]? := by
  intro b h;rcases uT (M:=M) (vj:=vj) qM b with ⟨_,h1,_,h2,_⟩ | ⟨_,h1⟩
  ·exact ⟨h1,h2⟩
  ·have qJ:=ht b (by rcases h with ⟨p,h⟩ | h <;> rw [h] <;> simp);obtain ⟨i,him,Jd⟩:=h1 qJ;exfalso;rcases h with ⟨p,h⟩ | h <;> rcases Jd with ⟨q,h2⟩ | h2 <;> rw [h] at h2 <;> simp at h2
   ·rw [h2.1] at hi;exact hi him
   ·rw [h2] at hi;exact hi him
 refine ⟨⟨fun q=>by simp [wH,hx],fun q b h=>?_⟩,by simp [wH,hx],fun h=>?_⟩
 ·simp only [Zu] at h ⊢;obtain ⟨h1,h2⟩:=hb b (.inl ⟨q,h⟩);exact ⟨h1.trans h,h2⟩
 ·obtain ⟨h1,h2⟩:=hb _ (.inr h);exact ⟨h1.trans h,h2⟩
end
def zn9 (e:Nat×Nat) (y y':Obj):Prop:=
 (∃ t l,y = .row t l 0/\y' = .row t l e.1)\/(∃ a a',y = .cell a/\y' = .cell a'/\a'.sk=a.sk)\/(∃ k v m,y = .map k v m/\y' = .map k v m)\/(∃ t l,y = .nest t l 0 0 none/\y' = .nest t l e.1 e.2 none)
structure Bk (gc G:z8) (oc o':qk) (M:List Nat) (E:Nat->Nat×Nat):Prop where
 obj:∀ j id,zF M j=some id->∀ y',o' id=some y'->∃ y,oc j=some y/\zn9 (E j) y y'
 svr:∀ j id,zF M j=some id->∀ t l,oc j=some (.row t l 0)->G.sv id []=gc.sv j []
 svn:∀ j id,zF M j=some id->∀ t l,oc j=some (.nest t l 0 0 none)->∀ p,G.sv id p=gc.sv j p
 zt:∀ j id,zF M j=some id->G.zt id=gc.zt j
 row:∀ b j p id,gc.tag b = .row j p->zF M j=some id->G.tag b = .row id p
 box:∀ b j id,gc.tag b = .box j->zF M j=some id->G.tag b = .box id
section
variable {w:World} {gc G:z8} {oc o':qk} {M:List Nat} {E:Nat->Nat×Nat}
theorem Wu:(p:zG)->{d:p.den}->{a:z7}->p.inst M E d=some a->a.sk=(p.mk d).sk
 | .val t,d,a,h=>by simp only [zG.inst,zI] at h;subst h;rfl
 | .qy,d,a,h=>by simp only [zG.inst,zI] at h;subst h;rfl
 | .ref j,d,a,h=>by simp only [zG.inst,wq] at h;obtain ⟨id,_,rfl⟩:=h;rfl
 | .view j,d,a,h=>by simp only [zG.inst,wq] at h;obtain ⟨id,_,rfl⟩:=h;rfl
 | .zu j p,d,a,h=>by simp only [zG.inst,wq] at h;obtain ⟨id,_,rfl⟩:=h;rfl
 | .qA j,d,a,h=>by simp only [zG.inst,wq] at h;obtain ⟨id,_,rfl⟩:=h;rfl
 | .nv j,d,a,h=>by simp only [zG.inst,wq] at h;obtain ⟨id,_,rfl⟩:=h;rfl
 | .nvi j,d,a,h=>by simp only [zG.inst,wq] at h;obtain ⟨id,_,rfl⟩:=h;rfl
 | .yG f c,d,a,h=>by simp only [zG.inst,wq] at h;obtain ⟨a',_,rfl⟩:=h;rfl
 | .JJ f c,d,a,h=>by simp only [zG.inst,wq] at h;obtain ⟨a',_,rfl⟩:=h;rfl
 | .agg c,d,a,h=>by
  simp only [zG.inst,wq] at h;obtain ⟨a',h,rfl⟩:=h
  simpa only [zG.mk,z7.sk] using Wu c h
 | .pr p q,d,a,h=>by
  simp only [zG.inst] at h;split at h
  ·rename_i y z h1 h2;simp only [zI] at h;subst h;simp only [zG.mk,z7.sk,Wu p h1,Wu q h2]
  ·simp at h
 | .un,d,a,h=>by simp only [zG.inst,zI] at h;subst h;rfl
theorem vH:(p:zG)->{d:p.den}->{a:z7}->p.inst M E d=some a->a.isAgg=(p.mk d).isAgg/\(∀ c,(p.mk d)≠.jC c)/\(∀ y z,a = .pr y z->∃ y' z',p.mk d = .pr y' z')/\(a = .un->p.mk d = .un)/\∀ m∈a.ids,m∈M
 | .val t,d,a,h=>by simp only [zG.inst,zI] at h;subst h;simp [zG.mk,z7.isAgg,z7.ids]
 | .qy,d,a,h=>by simp only [zG.inst,zI] at h;subst h;simp [zG.mk,z7.ids]
 | .ref j,d,a,h=>by simp only [zG.inst,wq] at h;obtain ⟨id,hm,rfl⟩:=h;simp [zG.mk,z7.isAgg,z7.ids,jH hm]
 | .view j,d,a,h=>by simp only [zG.inst,wq] at h;obtain ⟨id,hm,rfl⟩:=h;simp [zG.mk,z7.isAgg,z7.ids,jH hm]
 | .zu j p,d,a,h=>by simp only [zG.inst,wq] at h;obtain ⟨id,hm,rfl⟩:=h;simp [zG.mk,z7.isAgg,z7.ids,jH hm]
 | .qA j,d,a,h=>by simp only [zG.inst,wq] at h;obtain ⟨id,hm,rfl⟩:=h;simp [zG.mk,z7.isAgg,z7.ids,jH hm]
 | .nv j,d,a,h=>by simp only [zG.inst,wq] at h;obtain ⟨id,hm,rfl⟩:=h;simp [zG.mk,z7.isAgg,z7.ids,jH hm]
 | .nvi j,d,a,h=>by simp only [zG.inst,wq] at h;obtain ⟨id,hm,rfl⟩:=h;simp [zG.mk,z7.isAgg,z7.ids,jH hm]
 | .yG f c,d,a,h=>by
  simp only [zG.inst,wq] at h;obtain ⟨a',h,rfl⟩:=h;have:=(vH c h).2.2.2.2
  simpa [zG.mk,z7.isAgg,z7.ids] using this
 | .JJ f c,d,a,h=>by
  simp only [zG.inst,wq] at h;obtain ⟨a',h,rfl⟩:=h;have:=(vH c h).2.2.2.2
  simpa [zG.mk,z7.isAgg,z7.ids] using this
 | .agg c,d,a,h=>by
  simp only [zG.inst,wq] at h;obtain ⟨a',h,rfl⟩:=h;have:=(vH c h).2.2.2.2
  simpa [zG.mk,z7.isAgg,z7.ids] using this
 | .pr p q,d,a,h=>by
  simp only [zG.inst] at h;split at h
  ·rename_i y z h1 h2;simp only [zI] at h;subst h;have k1:=(vH p h1).2.2.2.2;have k2:=(vH q h2).2.2.2.2;refine ⟨rfl,by simp [zG.mk],fun _ _ _=>⟨_,_,rfl⟩,by simp,fun m hm=>?_⟩;simp only [z7.ids,Gt] at hm;rcases hm with hm | hm
   ·exact k1 m hm
   ·exact k2 m hm
  ·simp at h
 | .un,d,a,h=>by simp only [zG.inst,zI] at h;subst h;simp [zG.mk,z7.ids]
theorem pv (hb:Bk gc G oc o' M E):(p:zG)->{d:p.den}->{a:z7}->{cs:List Value}->(zO w gc w G\/p.flat=true)->p.inst M E d=some a->jV w gc oc (p.mk d) cs->jV w G o' a cs
 | .val t,d,a,cs,hf,h,zR=>by
  simp only [zG.inst,zI] at h;subst h;refine ⟨zR.1,?_⟩;rcases hf with hf | hf
  ·exact zR.2.kept hf
  ·exact zC.qn hf zR.2
 | .qy,d,a,cs,hf,h,zR=>by simp only [zG.inst,zI] at h;subst h;exact zR
 | .ref j,d,a,cs,hf,h,zR=>by
  simp only [zG.inst,wq] at h;obtain ⟨id,hm,rfl⟩:=h;obtain ⟨v,hv,qL,hx⟩:=zR;refine ⟨v,hv,qL,fun t l e ho=>?_⟩;obtain ⟨y,hy,hk⟩:=hb.obj j id hm _ ho;rcases hk with ⟨t',l',rfl,h2⟩ | ⟨a1,a2,_,h2,_⟩ | ⟨k,v',m,_,h2⟩ | ⟨t',l',_,h2⟩
  ·simp only [Obj.row.injEq] at h2;obtain ⟨rfl,_,rfl⟩:=h2;exact ⟨yS _,fun _=>by rw [hb.svr j id hm _ _ hy];exact (hx _ _ _ hy).2 rfl⟩
  ·simp at h2
  ·simp at h2
  ·simp at h2
 | .view j,d,a,cs,hf,h,zR=>by
  simp only [zG.inst,wq] at h;obtain ⟨id,hm,rfl⟩:=h;obtain ⟨v,hv,qL,hx⟩:=zR;refine ⟨v,hv,qL,fun t l e ho=>?_⟩;obtain ⟨y,hy,hk⟩:=hb.obj j id hm _ ho;rcases hk with ⟨t',l',rfl,h2⟩ | ⟨a1,a2,_,h2,_⟩ | ⟨k,v',m,_,h2⟩ | ⟨t',l',_,h2⟩
  ·simp only [Obj.row.injEq] at h2;obtain ⟨rfl,hl,rfl⟩:=h2;have hl:=Z35 hl;subst hl;refine ⟨yS _,fun _=>?_⟩;rw [hb.svr j id hm _ _ hy];exact (hx _ _ _ hy).2 rfl
  ·simp at h2
  ·simp at h2
  ·simp at h2
 | .zu j p,d,a,cs,hf,h,zR=>by
  simp only [zG.inst,wq] at h;obtain ⟨id,hm,rfl⟩:=h;obtain ⟨v,hv,qL,hx⟩:=zR;refine ⟨v,hv,qL,fun a ho=>?_⟩;obtain ⟨y,hy,hk⟩:=hb.obj j id hm _ ho;rcases hk with ⟨t',l',_,h2⟩ | ⟨a1,a2,rfl,h2,hs⟩ | ⟨k,v',m,_,h2⟩ | ⟨t',l',_,h2⟩
  ·simp at h2
  ·simp only [Obj.cell.injEq] at h2;subst h2;obtain ⟨off,s,h3,h4⟩:=hx _ hy;exact ⟨off,s,by rw [hs];exact h3,by rw [hb.zt j id hm];exact h4⟩
  ·simp at h2
  ·simp at h2
 | .qA j,d,a,cs,hf,h,zR=>by
  simp only [zG.inst,wq] at h;obtain ⟨id,hm,rfl⟩:=h;obtain ⟨v,hv,qL,hx⟩:=zR;refine ⟨v,hv,qL,fun kt vt mm ho=>?_⟩;obtain ⟨y,hy,hk⟩:=hb.obj j id hm _ ho;rcases hk with ⟨t',l',_,h2⟩ | ⟨a1,a2,_,h2,_⟩ | ⟨k,v',m,rfl,h2⟩ | ⟨t',l',_,h2⟩
  ·simp at h2
  ·simp at h2
  ·rw [hb.zt j id hm];exact hx _ _ _ hy
  ·simp at h2
 | .nv j,d,a,cs,hf,h,zR=>by
  simp only [zG.inst,wq] at h;obtain ⟨id,hm,rfl⟩:=h;obtain ⟨v,hv,qL,hx⟩:=zR;refine ⟨v,hv,qL,fun t l e i hh ho=>?_⟩;obtain ⟨y,hy,hk⟩:=hb.obj j id hm _ ho;rcases hk with ⟨t',l',_,h2⟩ | ⟨a1,a2,_,h2,_⟩ | ⟨k,v',m,_,h2⟩ | ⟨t',l',rfl,h2⟩
  ·simp at h2
  ·simp at h2
  ·simp at h2
  ·simp only [Obj.nest.injEq] at h2;obtain ⟨_,_,rfl,rfl,_⟩:=h2;refine ⟨yS _,fun _=>⟨fun _=>?_,fun h=>(by simp at h)⟩⟩
   rw [hb.svn j id hm _ _ hy];exact ((hx _ _ _ _ _ hy).2 rfl).1 rfl
 | .nvi j,d,a,cs,hf,h,zR=>by
  simp only [zG.inst,wq] at h;obtain ⟨id,hm,rfl⟩:=h;obtain ⟨v,hv,qL,hx⟩:=zR;refine ⟨v,hv,qL,fun t l e i hh ho=>?_⟩;obtain ⟨y,hy,hk⟩:=hb.obj j id hm _ ho;rcases hk with ⟨t',l',_,h2⟩ | ⟨a1,a2,_,h2,_⟩ | ⟨k,v',m,_,h2⟩ | ⟨t',l',rfl,h2⟩
  ·simp at h2
  ·simp at h2
  ·simp at h2
  ·simp only [Obj.nest.injEq] at h2;obtain ⟨_,_,rfl,rfl,_⟩:=h2;refine ⟨yS _,fun _=>⟨fun _=>?_,fun h=>(by simp at h)⟩⟩
   rw [hb.svn j id hm _ _ hy];exact ((hx _ _ _ _ _ hy).2 rfl).1 rfl
 | .yG f c,d,a,cs,hf,h,zR=>by
  simp only [zG.inst,wq] at h;obtain ⟨a',h,rfl⟩:=h;obtain ⟨vs,hv,hx⟩:=zR
  exact ⟨vs,hv,pv hb c hf h hx⟩
 | .JJ t c,d,a,cs,hf,h,zR=>by
  simp only [zG.inst,wq] at h;obtain ⟨a',h,rfl⟩:=h;obtain ⟨x,Bf,hv,hx,hxv⟩:=zR
  exact ⟨x,Bf,hv,pv hb c hf h hx,by rw [(vH c h).1];exact hxv⟩
 | .agg c,d,a,cs,hf,h,zR=>by
  simp only [zG.inst,wq] at h;obtain ⟨a',h,rfl⟩:=h;show jV w G o' a' cs
  exact pv hb c hf h (show jV w gc oc (c.mk d) cs from zR)
 | .pr p q,d,a,cs,hf,h,zR=>by
  simp only [zG.inst] at h;split at h
  ·rename_i y z h1 h2;simp only [zI] at h;subst h;obtain ⟨c1,c2,pN,k1,k2⟩:=zR;have Q7:zO w gc w G\/p.flat=true:=hf.imp _root_.id fun h=>by simp only [zG.flat,zA] at h;exact h.1
   have Gl:zO w gc w G\/q.flat=true:=hf.imp _root_.id fun h=>by simp only [zG.flat,zA] at h;exact h.2
   exact ⟨c1,c2,pN,pv hb p Q7 h1 k1,pv hb q Gl h2 k2⟩
  ·simp at h
 | .un,d,a,cs,hf,h,zR=>by simp only [zG.inst,zI] at h;subst h;exact zR
theorem Fk (hb:Bk gc G oc o' M E) {p:zG} {d:p.den} {a:z7} {v:Value} (hf:zO w gc w G\/p.flat=true) (h:p.inst M E d=some a) (zR:zl w gc oc (p.mk d) v):zl w G o' a v:=by
 obtain ⟨h1,h2,h3,h4,_⟩:=vH p h;obtain ⟨cs,pN,Qj⟩:=wc zR h2;refine yA (pv hb p hf h pN) (by rw [h1];exact Qj) (fun y z he=>?_) (fun he=>?_)
 ·obtain ⟨y',z',he⟩:=h3 y z he;rw [he] at zR;simp only [zl] at zR
 ·rw [h4 he] at zR;simp only [zl] at zR
theorem zC.Wj {w w':World} {g g':z8}:{o o':AR}->{t:Ty}->{d:t.den}->{cs:List Value}->
  (hm:Gp w g w' g' o o')->t.wI=true->zC w g o t d cs->zC w' g' o' t d cs
 | _,_,.int _,_,_,_,_,h=>h
 | _,_,.bool,_,_,_,_,h=>h
 | _,_,.str,_,_,_,_,h=>h
 | _,_,.unit,_,_,_,_,h=>h
 | _,_,.pair a b,(x,y),_,hm,ht,h=>by
  obtain ⟨c1,c2,rfl,h1,h2⟩:=h;simp only [Ty.wI,zA] at ht
  exact ⟨c1,c2,rfl,zC.Wj (hm.step _) ht.1 h1,zC.Wj (hm.step _) ht.2 h2⟩
 | _,_,.arr n t,_,_,hm,ht,h=>⟨h.1,h.2.1,fun i hi=>zC.Wj (hm.step _) (by simpa [Ty.wI] using ht) (h.2.2 i hi)⟩
 | _,_,.sl false t,l,_,_,ht,h=>by simp [Ty.wI,Ty.qn] at ht
 | some (id,p),some (vu,p'),.sl true t,l,_,hm,ht,h=>by
  obtain ⟨a,cap,rfl,h0,h1,h2,h3⟩:=h;have Xy:xZ w g w' g' id p vu p':=hm;refine ⟨a,cap,rfl,?_,h1,h2,?_⟩
  ·have:=Xy.sv [];simp only [AL] at this;rw [this];exact h0
  ·rcases h3 with h3 | ⟨b,off,c,e,ha,JV,hb,hs,he⟩
   ·exact .inl h3
   ·have hk:=Xy.zt [] b (by simpa using JV);simp only [AL] at hk
    exact .inr ⟨b,off,c,e,ha,hk.1,hk.2.trans hb,hs,fun i hi=>zC.Wj (o:=some (id,p++[Step.idx (i:Int)])) (o':=some (vu,p'++[Step.idx (i:Int)])) (Xy.step _) (by simpa [Ty.wI] using ht) (he i hi)⟩
 | some _,none,.sl true _,_,_,hm,_,_=>hm.elim
 | none,_,.sl true _,_,_,_,_,h=>h.elim
 | _,_,.ptr t,_,_,_,ht,_=>by simp [Ty.wI,Ty.qn] at ht
 | _,_,.fn f t,_,_,_,ht,_=>by simp [Ty.wI,Ty.qn] at ht
 | _,_,.tree _,_,_,_,ht,_=>by simp [Ty.wI,Ty.qn] at ht
theorem yE.qn {w w':World} {g g':z8} {kt vt:Ty} (hk:kt.qn=true) (hv:vt.qn=true):{es:List MapEntry}->{m:List (kt.den×vt.den)}->yE w g kt vt es m->yE w' g' kt vt es m
 | [],[],_=>trivial
 | _ :: _,(_,_) :: _,⟨⟨c1,h1,e1⟩,⟨c2,h2,e2⟩,h⟩=>⟨⟨c1,zC.qn hk h1,e1⟩,⟨c2,zC.qn hv h2,e2⟩,yE.qn hk hv h⟩
 | [],_ :: _,h=>h.elim
 | _ :: _,[],h=>h.elim
theorem Tx (hb:Bk gc G oc o' M E) {o:yK} {d:o.den} {y:Obj} {j id:Nat} (hm:zF M j=some id) (hf:zO w gc w G\/o.flat=true) (hj:oc j=some (o.mk d)) (h:o.inst M E j d=some y) (zR:zm w gc oc j (o.mk d)):zm w G o' id y:=by
 cases o with
 | row t=>
  simp only [yK.inst,zI] at h;subst h;obtain ⟨ht,hr⟩:=zR;refine ⟨ht,?_⟩;rw [hb.svr j id hm _ _ hj];obtain ⟨a,cap,hv,h0,h1,h2,h3⟩:=hr;refine ⟨a,cap,hv,(hb.svr j id hm _ _ hj).trans h0,h1,h2,?_⟩;rcases h3 with h3 | ⟨b,off,c,e,ha,JV,JW,hs,he⟩
  ·exact .inl h3
  ·refine .inr ⟨b,off,c,e,ha,hb.row b j [] id JV hm,JW,hs,fun i hi=>?_⟩;rcases hf with hf | hf
   ·exact zC.qt ht ((zC.qt (o':=none) ht (he i hi)).kept hf)
   ·exact zC.qn hf (he i hi)
 | cell p=>
  simp only [yK.inst,wq] at h;obtain ⟨a,h,rfl⟩:=h;have hnt:(p.mk d).wk=false:=by
   have:=(vH p h).2.1;cases Qj:p.mk d <;> first | rfl | exact absurd Qj (this _)
  obtain ⟨c,e,h1,h2,h3⟩:=zR.out hnt
  exact zm.mk ⟨c,e,by rw [hb.zt j id hm];exact h1,by rw [hb.zt j id hm];exact hb.box _ j id h2 hm,pv hb p hf h h3⟩
 | map kt vt=>
  simp only [yK.inst,zI] at h;subst h;obtain ⟨es,ck,h1,h2,h3,h4,h5,h6⟩:=zR;refine ⟨es,ck,by rw [hb.zt j id hm];exact h1,by rw [hb.zt j id hm];exact hb.box _ j id h2 hm,h3,h4,?_,h6⟩;rcases hf with hf | hf
  ·exact h5.kept hf
  ·simp only [yK.flat,zA] at hf
   exact h5.qn hf.1 hf.2
 | iter Kx=>simp [yK.inst] at h
 | Jq p=>
  simp only [yK.inst] at h
  cases gA:(z7.jC (p.mk d)).wg with
  | false=>rw [gA] at h;simp at h
  | true=>
   rw [gA] at h;simp only [zD,wq] at h;obtain ⟨a,h,rfl⟩:=h;obtain ⟨c,e,h1,h2,h3⟩:=(zm.Jq gA).1 zR;have hf:zO w gc w G:=hf.resolve_right (by simp [yK.flat]);have FF:(z7.jC a).wg=true:=by
    cases p <;> simp [zG.mk,z7.wg] at gA
    ·simp only [zG.inst,wq] at h;obtain ⟨x,_,rfl⟩:=h;rfl
    ·simp only [zG.inst,wq] at h;obtain ⟨x,_,rfl⟩:=h;rfl
   exact (zm.Jq FF).2 ⟨c,e,by rw [hb.zt j id hm];exact h1,by rw [hb.zt j id hm];exact (hf.zt _ h2).1,pv hb p (.inl hf) h h3⟩
 | nest t=>
  simp only [yK.inst,zI] at h;subst h;show zC w G (some (id,[])) (.sl true t) d [G.sv id []];have qT:=hb.svn j id hm _ _ hj;rw [qT];have hmv:Gp w gc w G (some (j,[])) (some (id,[])):=⟨fun q=>qT _,fun q b hq=>⟨hb.row b j q id (by simpa using hq) hm,rfl⟩⟩;have zR:zC w gc (some (j,[])) (.sl true t) d [gc.sv j []]:=zR;rcases hf with hf | hf
  ·exact zC.move hf hmv zR
  ·exact zC.Wj hmv (show (Ty.sl true t).wI=true from hf) zR
end
end Go.Kz
namespace Go.Kz
variable {R:Type}
def Ident (g gc:z8) (oc so:qk) (j id:Nat):Prop:=
 (∀ t l,oc j=some (.row t l 0)->∀ t' l' e,so id=some (.row t' l' e)->gc.sv j []=g.sv id [])/\
 (∀ a,oc j=some (.cell a)->∀ a',so id=some (.cell a')->gc.zt j=g.zt id)/\
 (∀ k v m,oc j=some (.map k v m)->∀ k' v' m',so id=some (.map k' v' m')->gc.zt j=g.zt id)/\
 (∀ t l,oc j=some (.nest t l 0 0 none)->∀ t' l' e i h,so id=some (.nest t' l' e i h)->gc.sv j []=g.sv id [])
theorem Za {b b':Qq} {i id:Nat} (h:GM b i id some=some b'):∀ j vu,yT b' j=some vu->yT b j=some vu\/(j=i/\vu=id):=by
 unfold GM at h;intro j vu hj;split at h
 ·rename_i j0 h0
  cases hb:Nat.beq j0 id with
  | false=>rw [hb] at h;simp at h
  | true=>
   rw [hb] at h;simp only [zD,zI] at h;subst h;exact .inl hj
 ·cases hb:IT b id with
  | true=>rw [hb] at h;simp at h
  | false=>
   rw [hb] at h;simp only [zW,zI] at h;subst h;simp only [yT] at hj
   cases he:Nat.beq i j with
   | true=>
    rw [he] at hj;simp only [zD,zI] at hj
    exact .inr ⟨(zE he).symm,hj.symm⟩
   | false=>rw [he] at hj;exact .inl hj
section
variable {w w':World} {g gc:z8} {oc so:qk} {Y:Nat->Option Nat}
theorem kP {a:z7} {u:Value} (h:zl w g so a u) (ht:∀ c,a≠.jC c) (hg:a.isAgg=false):∃ cs,jV w g so a cs/\u=cs.headD undef:=by
 obtain ⟨cs,h1,h2⟩:=wc h ht;exact ⟨cs,h1,by rw [h2,hg];rfl⟩
theorem K9 {a a':z7} {p:zG} {d:p.den} {b b':Qq} {u:Value} (h:Q0 so a p b=some b') (hv:zl w g so a u) (hr:a.vU so Y=some a') (hx:zl w' gc oc (p.mk d) u)
  (hI:∀ j id,yT b j=some id->Ident g gc oc so j id):∀ j id,yT b' j=some id->Ident g gc oc so j id:=by
 intro j id hj;unfold Q0 at h;split at h
 ·rename_i id0 ep j0;rcases Za h j id hj with h1 | ⟨rfl,rfl⟩
  ·exact hI j id h1
  ·simp only [z7.vU] at hr;split at hr
   ·rename_i t0 l0 e0 _ zg
    cases hb:Nat.beq e0 ep with
    | false=>rw [hb] at hr;simp at hr
    | true=>
     have he:=zE hb;subst he;obtain ⟨cs,⟨v,rfl,_,h1⟩,rfl⟩:=kP hv (by simp) rfl;obtain ⟨Bf,⟨v',rfl,_,h2⟩,hu⟩:=kP hx (by simp [zG.mk]) rfl;simp only [Z2j] at hu;subst hu;refine ⟨fun t l ho t' l' e hs=>?_,fun a ho a' hs=>by rw [zg] at hs;simp at hs,fun _ _ _ _ _ _ _ hs=>by rw [zg] at hs;simp at hs,fun _ _ _ _ _ _ _ _ hs=>by rw [zg] at hs;simp at hs⟩;rw [<-(h2 _ _ _ ho).2 rfl,<-(h1 _ _ _ zg).2 rfl]
   ·simp at hr
 ·rename_i id0 j0;split at h
  ·rename_i a0 zg;rcases Za h j id hj with h1 | ⟨rfl,rfl⟩
   ·exact hI j id h1
   ·obtain ⟨cs,⟨v,rfl,_,h1⟩,rfl⟩:=kP hv (by simp) rfl;obtain ⟨Bf,⟨v',rfl,_,h2⟩,hu⟩:=kP hx (by simp [zG.mk]) rfl;simp only [Z2j] at hu;subst hu;have zQ:∀ a,oc j=some (.cell a)->∀ a',so id=some (.cell a')->gc.zt j=g.zt id:=by
     intro a ho a' hs;obtain ⟨o1,s1,q1,q2⟩:=h1 _ hs;obtain ⟨o2,s2,q3,q4⟩:=h2 _ ho;rw [q2] at q4;simp only [Value.pointer.injEq,zI,Addr.mk.injEq] at q4;exact q4.1.symm
    exact ⟨fun t l ho t' l' e hs=>by rw [zg] at hs;simp at hs,zQ,fun _ _ _ ho _ _ _ hs=>by rw [zg] at hs;simp at hs,fun _ _ ho _ _ _ _ _ hs=>by rw [zg] at hs;simp at hs⟩
  ·simp at h
 ·rename_i id0 j0;split at h
  ·rename_i k0 v0 m0 zg;rcases Za h j id hj with h1 | ⟨rfl,rfl⟩
   ·exact hI j id h1
   ·obtain ⟨cs,⟨v,rfl,_,h1⟩,rfl⟩:=kP hv (by simp) rfl;obtain ⟨Bf,⟨v',rfl,_,h2⟩,hu⟩:=kP hx (by simp [zG.mk]) rfl;simp only [Z2j] at hu;subst hu;refine ⟨fun t l ho t' l' e hs=>by rw [zg] at hs;simp at hs,fun _ _ _ hs=>by rw [zg] at hs;simp at hs,fun _ _ _ ho _ _ _ hs=>?_,fun _ _ ho _ _ _ _ _ hs=>by rw [zg] at hs;simp at hs⟩;have q1:=h1 _ _ _ hs;have q2:=h2 _ _ _ ho;rw [q1] at q2;simp only [Value.map.injEq,zI] at q2;exact q2.symm
  ·simp at h
 ·rename_i id0 ep j0;rcases Za h j id hj with h1 | ⟨rfl,rfl⟩
  ·exact hI j id h1
  ·simp only [z7.vU] at hr;split at hr
   ·rename_i t0 l0 e0 i0 _ zg
    cases hb:Nat.beq (F8 false [] e0 i0) ep with
    | false=>rw [hb] at hr;simp at hr
    | true=>
     have he:=zE hb;obtain ⟨cs,⟨v,rfl,_,h1⟩,rfl⟩:=kP hv (by simp) rfl;obtain ⟨Bf,⟨v',rfl,_,h2⟩,hu⟩:=kP hx (by simp [zG.mk]) rfl;simp only [Z2j] at hu;subst hu;refine ⟨fun t l ho t' l' e hs=>by rw [zg] at hs;simp at hs,fun a ho a' hs=>by rw [zg] at hs;simp at hs,fun _ _ _ _ _ _ _ hs=>by rw [zg] at hs;simp at hs,fun _ _ ho _ _ _ _ _ hs=>?_⟩;rw [<-((h2 _ _ _ _ _ ho).2 rfl).1 rfl,<-((h1 _ _ _ _ _ zg).2 he).1 rfl]
   ·simp at hr
 ·simp at h
theorem Lk {a:z7} {p:zG} {d:p.den} {b b':Qq} (h:Q0 so a p b=some b'):((∀ y z,a≠.pr y z)/\a≠.un/\a.sk = .leaf/\a.isAgg=false)/\(∀ y z,p.mk d≠.pr y z)/\p.mk d≠.un/\(p.mk d).sk = .leaf/\(p.mk d).isAgg=false:=by
 unfold Q0 at h;split at h
 ·simp [zG.mk,z7.sk,z7.isAgg]
 ·simp [zG.mk,z7.sk,z7.isAgg]
 ·simp [zG.mk,z7.sk,z7.isAgg]
 ·simp [zG.mk,z7.sk,z7.isAgg]
 ·simp at h
theorem Hp:{c c':z7}->{q:zG}->{d:q.den}->{b b':Qq}->{vs:List Value}->Zt so c q b=some b'->jV w g so c vs->c.vU so Y=some c'->jV w' gc oc (q.mk d) vs->
  (∀ j id,yT b j=some id->Ident g gc oc so j id)->∀ j id,yT b' j=some id->Ident g gc oc so j id:=by
 intro c
 induction c with
 | pr a c iha ihc=>
  intro c' q d b b' vs h hv hr hx hI
  cases q with
  | pr p q=>
   obtain ⟨c1,c2,rfl,h1,h2⟩:=hv;obtain ⟨e1,e2,he,k1,k2⟩:=hx;simp only [z7.vU] at hr;split at hr
   ·rename_i a' cc' ha hc;have zuh:∀ t x,a = .data t x->Zt so (.pr a c) (.pr p q) b=some b'->∀ j id,yT b' j=some id->Ident g gc oc so j id:=by
     rintro t x rfl h
     cases p with
     | val u=>
      simp only [Zt] at h;have hb:=yX h;obtain ⟨hs,hb⟩:=hb;obtain ⟨hs,_⟩:=Z3a.1 hs;obtain rfl:=hs.down;have hl:c1.length=e1.length:=by rw [h1.len,k1.len];rfl
      obtain ⟨_,rfl⟩:=Z3s he hl
      exact ihc hb h2 hc k2 hI
     | _=>simp [Zt,Q0] at h
    by_cases hd:∃ t x,a = .data t x
    ·obtain ⟨t,x,hd⟩:=hd;exact zuh t x hd h
    ·have h':(match Q0 so a p b with
      | some b=>Zt so c q b
      | none=>none)=some b':=by
      cases a <;> first | exact h | exact absurd ⟨_,_,rfl⟩ hd
     split at h'
     ·rename_i b1 WG;obtain ⟨⟨f1,f2,f3,f4⟩,g1,g2,g3,g4⟩:=Lk (d:=d.1) WG;have l1:c1.length=1:=by rw [h1.len,f3];rfl
      have l2:e1.length=1:=by rw [k1.len,g3];rfl
      obtain ⟨rfl,rfl⟩:=Z3s he (l1.trans l2.symm);have hI1:=K9 WG (yA h1 rfl f1 f2) ha (yA k1 (by rw [f4,g4]) g1 g2) hI;exact ihc h' h2 hc k2 hI1
     ·simp at h'
   ·simp at hr
  | _=>cases a <;> simp [Zt] at h
 | un=>
  intro c' q d b b' vs h hv hr hx hI;cases q <;> simp [Zt] at h
  subst h;exact hI
 | _=>intro c' q d b b' vs h;cases q <;> simp [Zt] at h
theorem z1y {a a':z7} {p:zG} {d:p.den} {b b':Qq} {u:Value} (h:z1z so a p b=some b') (hv:zl w g so a u) (hr:a.vU so Y=some a') (hx:zl w' gc oc (p.mk d) u)
  (hI:∀ j id,yT b j=some id->Ident g gc oc so j id):∀ j id,yT b' j=some id->Ident g gc oc so j id:=by
 unfold z1z at h;split at h
 ·rename_i t1 a1 t2 p1;simp only [z7.vU,wq] at hr;obtain ⟨a1',hr,_⟩:=hr;obtain ⟨cs,⟨x,Bf,rfl,h1,h2⟩,h3⟩:=kP hv (by simp) rfl;obtain ⟨cs2,⟨x2,cs2',rfl,k1,k2⟩,k3⟩:=kP hx (by simp [zG.mk]) rfl;simp only [Z2j] at h3 k3;rw [h3] at k3;simp only [Value.iface.injEq] at k3;obtain ⟨_,rfl⟩:=k3;have zlh:(∃ id ep,a1 = .ref id [] ep)\/(∃ id,a1 = .zu id [])\/(∃ id,a1 = .qA id)\/(∃ id ep,a1 = .nv false id [] ep):=by
   unfold Q0 at h;split at h
   ·exact .inl ⟨_,_,rfl⟩
   ·exact .inr (.inl ⟨_,rfl⟩)
   ·exact .inr (.inr (.inl ⟨_,rfl⟩))
   ·exact .inr (.inr (.inr ⟨_,_,rfl⟩))
   ·simp at h
  have hp:(∀ y z,p1.mk d≠.pr y z)/\p1.mk d≠.un:=by
   unfold Q0 at h;split at h
   ·simp [zG.mk]
   ·simp [zG.mk]
   ·simp [zG.mk]
   ·simp [zG.mk]
   ·simp at h
  have ha:(∀ y z,a1≠.pr y z)/\a1≠.un:=by
   rcases zlh with ⟨_,_,rfl⟩ | ⟨_,rfl⟩ | ⟨_,rfl⟩ | ⟨_,_,rfl⟩ <;> simp
  exact K9 h (yA h1 h2 ha.1 ha.2) hr (yA k1 k2 hp.1 hp.2) hI
 ·rename_i f c f' q;obtain ⟨hb,h⟩:=yX h;simp only [z7.vU,wq] at hr;obtain ⟨c',hr,_⟩:=hr;obtain ⟨cs,⟨vs,rfl,h1⟩,h3⟩:=kP hv (by simp) rfl;obtain ⟨cs2,⟨vs2,rfl,k1⟩,k3⟩:=kP hx (by simp [zG.mk]) rfl;simp only [Z2j] at h3 k3;rw [h3] at k3;simp only [Value.func.injEq] at k3;have KZ:vs=vs2:=by
   have:=C6 Array.toList k3.2.2;simpa using this
  subst KZ;exact Hp h h1 hr k1 hI
 ·exact K9 h hv hr hx hI
theorem Hg {J:St} {all:z7} {vs:List Value} (Ek:so=J.z6):(jI:List Nat)->(out:List (Nat×zG))->(d:xD out)->{b b':Qq}->Xs so all jI out b=some b'->
  (∀ i∈jI,∀ a,j9 all i=some a->(∃ a',a.vU so Y=some a')/\∀ u,vs[i]? = some u->zl w g so a u)->
  (∀ k i av,zF jI k=some i->zF ((vY out d).map Prod.snd) k=some av->∃ u,vs[i]? = some u/\zl w' gc oc av u)->
  (∀ j id,yT b j=some id->Ident g gc oc so j id)->∀ j id,yT b' j=some id->Ident g gc oc so j id
 | [],_,_,b,b',h,_,_,hI=>by
  simp only [Xs,zI] at h
  subst h;exact hI
 | i :: l,[],_,b,b',h,_,_,_=>by simp [Xs] at h
 | i :: l,(i2,p) :: out,d,b,b',h,OM,hex,hI=>by
  simp only [Xs] at h;split at h
  ·rename_i a ha;split at h
   ·rename_i b1 WG;obtain ⟨⟨a',hr⟩,hv⟩:=OM i (by simp) a ha;obtain ⟨u,hu,hx⟩:=hex 0 i (p.mk d.1) rfl rfl;exact Hg Ek l out d.2 h (fun i' vf=>OM i' (by simp [vf])) (fun k i' av h1 h2=>hex (k+1) i' av h1 h2) (z1y WG (hv u hu) hr hx hI)
   ·simp at h
  ·simp at h
end
end Go.Kz
namespace Go.Kz
variable {R:Type}
theorem X5 {M:List Nat} {E:Nat->Nat×Nat} {j:Nat} {p:zG} {d:p.den} {y:Obj} (h:(yK.Jq p).inst M E j d=some y):∃ a',p.inst M E d=some a'/\y = .cell (.jC a'):=by
 simp only [yK.inst] at h
 cases hc:(z7.jC (p.mk d)).wg with
 | false=>rw [hc] at h;simp at h
 | true=>
  rw [hc] at h;simp only [zD,wq] at h;obtain ⟨a',h1,h2⟩:=h;exact ⟨a',h1,h2.symm⟩
theorem uq {I:Type}:(l:List I)->(i:Nat)->zF l i=l[i]?
 | [],i=>by cases i <;> rfl
 | x :: l,0=>rfl
 | x :: l,i+1=>by simp only [zF,uq l i];simp
theorem x8 {J:St} {ids:List Nat} {b:Qq}:{os:List Obj}->{j0:Nat}->UB J ids b os j0=true->∀ j y id,zF os j=some y->yT b (j0+j)=some id->id∈ids/\sameKind (J.z6 id) y=true
 | [],j0,_,j,y,id,h,_=>by cases j <;> simp [zF] at h
 | o :: os,j0,hk,j,y,id,h,hb=>by
  simp only [UB,zA] at hk
  cases j with
  | zero=>
   simp only [zF,zI] at h;subst h;rw [RG] at hb;have h1:=hk.1;rw [hb] at h1;simp only [zA] at h1
   exact ⟨jX.1 h1.1,h1.2⟩
  | succ j=>exact x8 hk.2 j y id h (by rw [<-hb];congr 1;omega)
theorem Zb {b:Qq} {n:Nat}:{m j0:Nat}->∀ j id,zF (xu b n m j0) j=some id->j < m/\(yT b (j0+j)=some id\/(yT b (j0+j)=none/\id=n+(j0+j)))
 | 0,j0,j,id,h=>by cases j <;> simp [xu,zF] at h
 | m+1,j0,0,id,h=>by
  simp only [xu,zF,zI] at h;refine ⟨by omega,?_⟩;rw [RG];split at h
  ·rename_i i hi;subst h;exact .inl hi
  ·rename_i hi;exact .inr ⟨hi,h.symm⟩
 | m+1,j0,j+1,id,h=>by
  simp only [xu,zF] at h;obtain ⟨h1,h2⟩:=Zb (m:=m) j id h;have e:j0+1+j=j0+(j+1):=by omega
  rw [e] at h2;exact ⟨by omega,h2⟩
theorem kO {M:List Nat} {E:Nat->Nat×Nat}:(l:List yK)->(d:JN l)->{j0:Nat}->{os:List Obj}->KM M E l d j0=some os->
  os.length=l.length/\∀ j y,zF os j=some y->∃ (o:yK) (e:o.den),zF (vr l d) j=some (o.mk e)/\o.inst M E (j0+j) e=some y/\(ZM l=true->o.flat=true)
 | [],d,j0,os,h=>by
  simp only [KM,zI] at h;subst h
  exact ⟨rfl,fun j y h=>by cases j <;> simp [zF] at h⟩
 | o :: l,d,j0,os,h=>by
  simp only [KM] at h;split at h
  ·rename_i x y h1 h2;simp only [zI] at h;subst h;obtain ⟨h3,h4⟩:=kO l d.2 h2;refine ⟨by simp [h3],fun j z hj=>?_⟩
   cases j with
   | zero=>
    simp only [zF,zI] at hj;subst hj
    exact ⟨o,d.1,rfl,h1,fun h=>by simp only [ZM,zA] at h;exact h.1⟩
   | succ j=>
    obtain ⟨o',e,k1,k2,k3⟩:=h4 j z hj;refine ⟨o',e,k1,?_,fun h=>k3 (by simp only [ZM,zA] at h;exact h.2)⟩;rw [<-k2];congr 1;omega
  ·simp at h
theorem Ka:{l:List Nat}->QM l=true->l.Nodup
 | [],_=>by simp
 | x :: l,h=>by
  simp only [QM,zA,A1] at h;exact Z2s.2 ⟨jK.1 h.1,Ka h.2⟩
theorem BQ {I:Type}:{l:List I}->{i:Nat}->l.length<=i->zF l i=none
 | [],i,_=>by cases i <;> rfl
 | _ :: _,0,h=>by simp at h
 | _ :: l,i+1,h=>BQ (l:=l) (by simpa using h)
theorem W4:(l:List yK)->(d:JN l)->(vr l d).length=l.length
 | [],_=>rfl
 | _ :: l,d=>by simp only [vr,GO,W4 l]
def JT (J:St) (i:Nat):Bool:=match J.z6 i with
 | some (.row _ _ _)=>true
 | _=>false
structure jw (w:World) (g:z8) (J:St) (n:Nat) (x:Bool) (ids:List Nat) (b:Qq) (zi:vO) (r:zi.den) (os:List Obj) (w':World) (gc:z8):Prop where
 ext:Ext w (yR x g ids) w' gc
 heap:yZ w' gc (zF (vr zi.z6 r.2))
 ident:∀ j id,yT b j=some id->Ident g gc (zF (vr zi.z6 r.2)) J.z6 j id
 inst:KM (xu b n zi.z6.length 0) (K4 J b) zi.z6 r.2 0=some os
 nodup:QM (xu b n zi.z6.length 0)=true
 back:UB J ids b os 0=true
 fresh:∀ m,n<=m->m < n+8->zY g J m
 len:zi.z6.length<=8
 flat:x=false\/(pC zi.zj=true/\ZM zi.z6=true)
 had:∀ i∈ids,J.z6 i≠none
section
variable {nt:Nat} {w:World} {g:z8} {a:Act} {J:St} {n:Nat} {x:Bool} {ids:List Nat} {b:Qq} {zi:vO} {r:zi.den} {os:List Obj} {w':World} {gc:z8}
abbrev jw.M (_:jw w g J n x ids b zi r os w' gc):List Nat:=xu b n zi.z6.length 0
abbrev jw.G (_:jw w g J n x ids b zi r os w' gc):z8:=wH g gc ids (xu b n zi.z6.length 0) w.heap.size (JT J)
abbrev jw.st (_:jw w g J n x ids b zi r os w' gc):St:=z1v J ids (xu b n zi.z6.length 0) os
theorem jw.idx (H:jw w g J n x ids b zi r os w' gc) {j id:Nat} (h:zF H.M j=some id):qZ id H.M 0=some j:=by
 have:=ZE (k:=0) (Ka H.nodup) h
 rwa [Zp] at this
theorem jw.zdl (H:jw w g J n x ids b zi r os w' gc) {j id:Nat} (h:zF H.M j=some id):(yT b j=some id/\id∈ids)\/(yT b j=none/\id=n+j/\j < 8):=by
 obtain ⟨h1,h2⟩:=Zb j id h;rw [Zp] at h2;rcases h2 with h2 | ⟨h2,h3⟩
 ·obtain ⟨y,hy⟩:=ux (l:=os) (i:=j) (by rw [(kO _ _ H.inst).1];exact h1);exact .inl ⟨h2,(x8 H.back j y id hy (by rw [Zp];exact h2)).1⟩
 ·exact .inr ⟨h2,h3,by have:=H.len;omega⟩
theorem jw.z63 (H:jw w g J n x ids b zi r os w' gc) {j id:Nat} (h:zF H.M j=some id):H.st.z6 id=zF os j:=by
 show (match qZ id H.M 0 with
  | some j=>zF os j
  | none=>cond (yD id ids) none (J.z6 id))=_
 rw [H.idx h]
theorem jw.z62 (H:jw w g J n x ids b zi r os w' gc) {id:Nat} (h:id∉H.M):H.st.z6 id=if id∈ids then none else J.z6 id:=by
 show (match qZ id H.M 0 with
  | some j=>zF os j
  | none=>cond (yD id ids) none (J.z6 id))=_
 rw [Qc h]
 cases hm:yD id ids with
 | true=>simp [jX.1 hm]
 | false=>simp [jK.1 hm]
theorem jw.new (H:jw w g J n x ids b zi r os w' gc) {id:Nat} (h:J.z6 id≠none) {j:Nat} (hm:zF H.M j=some id):yT b j=some id/\id∈ids:=by
 rcases H.zdl hm with h1 | ⟨_,rfl,h2⟩
 ·exact h1
 ·exact absurd (H.fresh _ (by omega) (by omega)).z6 h
theorem jw.bk (H:jw w g J n x ids b zi r os w' gc):Bk gc H.G (zF (vr zi.z6 r.2)) H.st.z6 H.M (K4 J b):=by
 obtain ⟨hlen,gq⟩:=kO _ _ H.inst;refine ⟨fun j id hm y' hy=>?_,fun j id hm t l ho=>?_,fun j id hm t l ho p=>?_,fun j id hm=>?_,fun b j p id hb hm=>z1t H.ext hb hm,fun b j id hb hm=>z1u H.ext hb hm⟩
 ·rw [H.z63 hm] at hy;obtain ⟨o,e,h1,h2,_⟩:=gq j y' hy;rw [Zp] at h2;refine ⟨_,h1,?_⟩
  cases o with
  | row t=>simp only [yK.inst,zI] at h2;exact .inl ⟨t,e,rfl,h2.symm⟩
  | cell p=>
   simp only [yK.inst,wq] at h2;obtain ⟨a',h2,rfl⟩:=h2
   exact .inr (.inl ⟨_,a',rfl,rfl,Wu p h2⟩)
  | map kt vt=>simp only [yK.inst,zI] at h2;exact .inr (.inr (.inl ⟨kt,vt,e,rfl,h2.symm⟩))
  | nest t=>simp only [yK.inst,zI] at h2;exact .inr (.inr (.inr ⟨t,e,rfl,h2.symm⟩))
  | iter Kx=>simp [yK.inst] at h2
  | Jq p=>
   obtain ⟨a',h2b,rfl⟩:=X5 h2;exact .inr (.inl ⟨_,_,rfl,rfl,by simp only [z7.sk];exact Wu p h2b⟩)
 ·show (match qZ id H.M 0 with
   | some j=>if JT J id then g.sv id [] else gc.sv j []
   | none=>g.sv id [])=_
  rw [H.idx hm];simp only;split
  ·rename_i hk;unfold JT at hk;split at hk
   ·rename_i t' l' e' zg;obtain ⟨h1,_⟩:=H.new (by rw [zg];simp) hm;exact ((H.ident j id h1).1 t l ho t' l' e' zg).symm
   ·simp at hk
  ·rfl
 ·show (match qZ id H.M 0 with
   | some j=>if JT J id then g.sv id p else gc.sv j p
   | none=>g.sv id p)=_
  rw [H.idx hm];simp only;split
  ·rename_i hk;exfalso;unfold JT at hk;split at hk
   ·rename_i t' l' e' zg;obtain ⟨h1,_⟩:=H.new (by rw [zg];simp) hm;obtain ⟨y,hy⟩:=ux (l:=os) (i:=j) (by rw [hlen];exact (Zb j id hm).1);have hs:=(x8 H.back j y id hy (by rw [Zp];exact h1)).2;obtain ⟨o,e,h3,h4,_⟩:=gq j y hy;rw [h3] at ho
    cases o with
    | nest t=>simp only [yK.inst,zI] at h4;subst h4;rw [zg] at hs;simp [sameKind] at hs
    | row t=>simp [yK.mk] at ho
    | cell p=>simp [yK.mk] at ho
    | map kt vt=>simp [yK.mk] at ho
    | iter Kx=>simp [yK.mk] at ho
    | Jq p=>simp [yK.mk] at ho
   ·simp at hk
  ·rfl
 ·show (match qZ id H.M 0 with
   | some j=>gc.zt j
   | none=>g.zt id)=_
  rw [H.idx hm]
theorem jw.carry (H:jw w g J n x ids b zi r os w' gc):zO w' gc w' H.G\/(pC zi.zj=true/\ZM zi.z6=true):=by
 rcases H.flat with h | h
 ·left;have he:=H.ext;rw [h] at he;exact L8 he
 ·exact .inr h
theorem jw.kept (H:jw w g J n x ids b zi r os w' gc) (zq:zK nt g w a J) (id:Nat) (h:J.z6 id≠none\/id < n\/n+8<=id):qz g H.G id (J.z6 id) (H.st.z6 id):=by
 by_cases hM:id∈H.M
 ·obtain ⟨j,hm⟩:∃ j,zF H.M j=some id:=by
   obtain ⟨j,hj,he⟩:=VI.1 hM;exact ⟨j,by rw [uq,gj hj,he]⟩
  rcases H.zdl hm with ⟨h1,h2⟩ | ⟨h1,rfl,h2⟩
  ·rw [H.z63 hm];obtain ⟨hlen,gq⟩:=kO _ _ H.inst;obtain ⟨y,hy⟩:=ux (l:=os) (i:=j) (by rw [hlen];exact (Zb j id hm).1);rw [hy];obtain ⟨_,hs⟩:=x8 H.back j y id hy (by rw [Zp];exact h1);obtain ⟨o,e,h3,h4,_⟩:=gq j y hy;rw [Zp] at h4;have hid:=H.ident j id h1;have WK:=H.bk;have zkn:=H.heap.z6 j _ h3
   cases Ek:J.z6 id with
   | none=>exact absurd Ek (H.had id h2)
   | some so=>
    rw [Ek] at hs;have pI:=zq.heap.z6 id _ Ek
    have hE:K4 J b j=(match so with
     | .row _ _ e=>(e,0)
     | .nest _ _ e i _=>(e,i+1)
     | _=>(0,0)):=by
     cases so <;> simp [K4,h1,Ek]
    cases o with
    | row t=>
     simp only [yK.inst,zI] at h4;subst h4
     cases so with
     | row u l e0=>
      simp only [sameKind,Z3a] at hs;obtain ⟨hs,_⟩:=hs;obtain rfl:=hs.down;have qT:=hid.1 _ _ h3 _ _ _ Ek;simp only at hE;refine .inr (.inl ⟨u,l,e,e0,(K4 J b j).1,rfl,rfl,.inr ⟨by rw [hE],?_,fun p=>?_⟩⟩)
      ·obtain ⟨_,a1,c1,_,q1,_⟩:=pI;obtain ⟨_,a2,c2,_,q2,_⟩:=zkn;rw [<-qT,q2] at q1;simp only [Value.slice.injEq] at q1;exact q1.2.1
      ·show (match qZ id H.M 0 with
        | some j=>if JT J id then g.sv id p else gc.sv j p
        | none=>g.sv id p)=_
       rw [H.idx hm]
       simp [JT,Ek]
     | _=>simp [sameKind] at hs
    | cell p=>
     simp only [yK.inst,wq] at h4;obtain ⟨a',h4,rfl⟩:=h4
     cases so with
     | cell a0=>
      simp only [sameKind] at hs;refine .inr (.inr (.inl ⟨a0,a',rfl,rfl,Sk.qw hs,?_⟩));rw [WK.zt j id hm]
      exact hid.2.1 _ h3 _ Ek
     | _=>simp [sameKind] at hs
    | map kt vt=>
     simp only [yK.inst,zI] at h4;subst h4
     cases so with
     | map Ur Pe m0=>
      simp only [sameKind,zA,Z3a] at hs;obtain ⟨⟨e1,_⟩,⟨e2,_⟩⟩:=hs;obtain rfl:=e1.down;obtain rfl:=e2.down;refine .inr (.inr (.inr (.inl ⟨_,_,m0,e,rfl,rfl,?_⟩)));rw [WK.zt j id hm]
      exact hid.2.2.1 _ _ _ h3 _ _ _ Ek
     | _=>simp [sameKind] at hs
    | nest t=>
     simp only [yK.inst,zI] at h4;subst h4
     cases so with
     | nest u l e0 i0 hole=>
      cases hole with
      | some p=>simp [sameKind] at hs
      | none=>
       simp only [sameKind,Z3a] at hs;obtain ⟨hs,_⟩:=hs;obtain rfl:=hs.down;have qT:=hid.2.2.2 _ _ h3 _ _ _ _ _ Ek;simp only at hE;refine .inr (.inr (.inr (.inr ⟨u,l,e,e0,(K4 J b j).1,i0,(K4 J b j).2,none,none,rfl,rfl,by rw [hE];exact yS _,by rw [hE];exact Z1o _,fun _=>?_,fun hi=>?_⟩)))
       ·rw [WK.svn j id hm _ _ h3 []];exact qT
       ·rw [hE] at hi;simp at hi
     | _=>simp [sameKind] at hs
    | iter Kx=>simp [yK.inst] at h4
    | Jq p=>
     obtain ⟨a',h4b,rfl⟩:=X5 h4
     cases so with
     | cell a0=>
      simp only [sameKind] at hs;refine .inr (.inr (.inl ⟨a0,_,rfl,rfl,Sk.qw hs,?_⟩));rw [WK.zt j id hm]
      exact hid.2.1 _ h3 _ Ek
     | _=>simp [sameKind] at hs
  ·exfalso;rcases h with h | h | h
   ·exact h (H.fresh _ (by omega) (by omega)).z6
   ·omega
   ·omega
 ·rw [H.z62 hM];by_cases hi:id∈ids
  ·rw [yW hi];exact .inl rfl
  ·rw [qQ hi]
   cases ho:J.z6 id with
   | none=>exact .inl rfl
   | some o=>exact qz.same (C0 H.ext zq.heap.tags hi hM)
end
end Go.Kz
namespace Go.Kz
variable {R:Type}
section
variable {nt:Nat} {w:World} {g:z8} {a:Act} {J:St} {n:Nat} {x:Bool} {ids:List Nat} {b:Qq} {zi:vO} {r:zi.den} {os:List Obj} {w':World} {gc:z8}
theorem jw.notM (H:jw w g J n x ids b zi r os w' gc) {m:Nat} (hm:m < n\/n+8<=m) (hf:zY g J m):m∉H.M:=by
 intro hM;obtain ⟨j,hj,he⟩:=VI.1 hM;rcases H.zdl (j:=j) (id:=m) (by rw [uq,gj hj,he]) with ⟨_,h2⟩ | ⟨_,rfl,_⟩
 ·exact H.had m h2 hf.z6
 ·omega
theorem jw.ok (H:jw w g J n x ids b zi r os w' gc) (zq:zK nt g w a J):zK nt H.G w' a H.st:=by
 have qv:=z8n (M:=H.M) (vj:=JT J) H.ext zq.heap.tags;have zjw:∀ m,¬ zY g J m->J.z6 m≠none\/m < n\/n+8<=m:=by
  intro m hm;by_cases h:n<=m/\m < n+8
  ·exact absurd (H.fresh m h.1 h.2) hm
  ·right;omega
 refine ⟨fun i av hi=>?_,⟨fun id y hy=>?_,fun b hb=>R1 H.ext H.heap.tags b hb⟩,zq.size,zq.defers,zq.known.kept qv⟩
 ·obtain ⟨v,h1,h2⟩:=zq.zj i av hi;exact ⟨v,h1,zl.frame qv (fun id hid=>H.kept zq id (zjw id fun hf=>hf.zj i av hi hid)) h2⟩
 ·by_cases hM:id∈H.M
  ·obtain ⟨j,hj,he⟩:=VI.1 hM;have hm:zF H.M j=some id:=by rw [uq,gj hj,he]
   rw [H.z63 hm] at hy;obtain ⟨_,gq⟩:=kO _ _ H.inst;obtain ⟨o,e,h3,h4,h5⟩:=gq j y hy;rw [Zp] at h4;exact Tx H.bk hm (H.carry.imp _root_.id fun h=>h5 h.2) h3 h4 (H.heap.z6 j _ h3)
  ·rw [H.z62 hM] at hy;by_cases hi:id∈ids
   ·rw [yW hi] at hy;simp at hy
   ·rw [qQ hi] at hy;refine zm.frame qv (C0 H.ext zq.heap.tags hi hM) (fun av ha vu IL=>H.kept zq vu (zjw vu fun hf=>?_)) (zq.heap.z6 id y hy);subst ha;exact hf.cells id av hy IL
theorem jw.free (H:jw w g J n x ids b zi r os w' gc) {m:Nat} (hm:m < n\/n+8<=m) (hf:zY g J m):zY H.G H.st m:=by
 have hM:=H.notM hm hf;have zaq:∀ {t:Tag},((∃ p,Zs H.M t = .row m p)\/Zs H.M t = .box m)->False:=by
  intro t ht
  cases t with
  | zn=>simp [Zs] at ht
  | ro=>simp [Zs] at ht
  | row j p=>
   simp only [Zs] at ht
   cases hj:zF H.M j with
   | none=>simp [hj] at ht
   | some id=>simp [hj] at ht;subst ht;exact hM (jH hj)
  | box j=>
   simp only [Zs] at ht
   cases hj:zF H.M j with
   | none=>simp [hj] at ht
   | some id=>simp [hj] at ht;subst ht;exact hM (jH hj)
 refine ⟨?_,fun bb p hb=>?_,fun bb hb=>?_,hf.zj,fun id av ho hmem=>?_⟩
 ·rw [H.z62 hM,hf.z6];split <;> rfl
 ·rcases uT (M:=H.M) (vj:=JT J) H.ext bb with ⟨_,h1,_⟩ | ⟨h1,_⟩
  ·exact hf.row bb p (h1.symm.trans hb)
  ·exact zaq (.inl ⟨p,h1.symm.trans hb⟩)
 ·rcases uT (M:=H.M) (vj:=JT J) H.ext bb with ⟨_,h1,_⟩ | ⟨h1,_⟩
  ·exact hf.box bb (h1.symm.trans hb)
  ·exact zaq (.inr (h1.symm.trans hb))
 ·by_cases hI:id∈H.M
  ·obtain ⟨j,hj,he⟩:=VI.1 hI;have hmj:zF H.M j=some id:=by rw [uq,gj hj,he]
   rw [H.z63 hmj] at ho;obtain ⟨_,gq⟩:=kO _ _ H.inst;obtain ⟨o,e,h3,h4,h5⟩:=gq j _ ho
   cases o with
   | cell p=>
    simp only [yK.inst,wq,Obj.cell.injEq] at h4;obtain ⟨a',h4,rfl⟩:=h4
    exact hM ((vH p h4).2.2.2.2 m hmem)
   | Jq p=>
    obtain ⟨a',h4b,h6⟩:=X5 h4;simp only [Obj.cell.injEq] at h6;subst h6
    exact hM ((vH p h4b).2.2.2.2 m (by simpa [z7.ids] using hmem))
   | _=>simp [yK.inst] at h4
  ·rw [H.z62 hI] at ho;by_cases hi:id∈ids
   ·rw [yW hi] at ho;simp at ho
   ·rw [qQ hi] at ho;exact hf.cells id av ho hmem
theorem U8 {M:List Nat} {E:Nat->Nat×Nat}:(l:List (Nat×zG))->(d:xD l)->{vs:List z7}->gu M E l d=some vs->∀ m,m∈(jR vs).ids->m∈M
 | [],d,vs,h,m,hm=>by
  simp only [gu,zI] at h;subst h
  simp [jR,z7.ids] at hm
 | (i,p) :: l,d,vs,h,m,hm=>by
  simp only [gu] at h;split at h
  ·rename_i a vs' h1 h2;simp only [zI] at h;subst h;simp only [jR,z7.ids,Gt] at hm;rcases hm with hm | hm
   ·exact (vH p h1).2.2.2.2 m hm
   ·exact U8 l d.2 h2 m hm
  ·simp at h
theorem Xh:(n:Nat)->(l:List z7)->∀ m,m∈(jR (ke n l)).ids->m∈(jR l).ids
 | 0,_,_,h=>h
 | _+1,[],_,h=>h
 | n+1,a :: l,m,h=>by
  simp only [ke] at h;simp only [jR,z7.ids,Gt];exact .inr (Xh n l m h)
theorem Iq (l:List z7) (m:Nat) (h:m∈(kF l).ids):m∈(jR l).ids:=by
 match l,h with
 | [],h=>simp [kF,z7.ids,jR] at h
 | [a],h=>simp only [jR,z7.ids,Gt];exact .inl h
 | a :: c :: l,h=>exact h
theorem Ao {G:z8} {oc o':qk} {M:List Nat} {E:Nat->Nat×Nat} (hb:Bk gc G oc o' M E):(l:List (Nat×zG))->(d:xD l)->{vs:List z7}->{us:List Value}->(zO w gc w G\/pC l=true)->gu M E l d=some vs->
  qj w gc oc (jR ((vY l d).map Prod.snd)) us->qj w G o' (jR vs) us
 | [],d,vs,us,_,h,hv=>by
  simp only [gu,zI] at h;subst h
  simpa [vY,jR,qj] using hv
 | (i,p) :: l,d,vs,us,hf,h,hv=>by
  simp only [gu] at h;split at h
  ·rename_i a vs' h1 h2;simp only [zI] at h;subst h;simp only [vY,JU,jR,qj] at hv ⊢;obtain ⟨v,rest,rfl,k1,k2⟩:=hv;exact ⟨v,rest,rfl,Fk hb (hf.imp _root_.id fun h=>by simp only [pC,zA] at h;exact h.1) h1 k1,
    Ao hb l d.2 (hf.imp _root_.id fun h=>by simp only [pC,zA] at h;exact h.2) h2 k2⟩
  ·simp at h
theorem U7 {G:z8} {oc o':qk} {M:List Nat} {E:Nat->Nat×Nat} (hb:Bk gc G oc o' M E):(k:Nat)->(l:List (Nat×zG))->(d:xD l)->{vs:List z7}->{u:Value}->(zO w gc w G\/pC l=true)->gu M E l d=some vs->
  zl w gc oc (kF (ke k ((vY l d).map Prod.snd))) u->zl w G o' (kF (ke k vs)) u
 | 0,l,d,vs,u,hf,h,hv=>by
  simp only [ke] at hv ⊢
  match l,d,hf,h,hv with
  | [],d,hf,h,hv=>
   simp only [gu,zI] at h;subst h
   simpa [vY,kF,jR,zl,qj] using hv
  | [(i,p)],d,hf,h,hv=>
   simp only [gu] at h;split at h
   ·rename_i a vs' h1 h2;simp only [zI] at h h2;subst h2;subst h;simp only [vY,JU,Z2i,kF] at hv ⊢;exact Fk hb (hf.imp _root_.id fun h=>by simp only [pC,zA] at h;exact h.1) h1 hv
   ·simp at h
  | (i,p) :: (i2,p2) :: l,d,hf,h,hv=>
   have hlen:∃ a1 a2 vs',vs=a1 :: a2 :: vs':=by
    simp only [gu] at h;split at h
    ·rename_i a vs' h1 h2;split at h2
     ·simp only [zI] at h h2;subst h2;subst h;exact ⟨_,_,_,rfl⟩
     ·simp at h2
    ·simp at h
   obtain ⟨a1,a2,vs',rfl⟩:=hlen;have jb:zl w gc oc (.jC (jR ((vY ((i,p) :: (i2,p2) :: l) d).map Prod.snd))) u:=hv;show zl w G o' (.jC (jR (a1 :: a2 :: vs'))) u;simp only [zl] at jb ⊢;obtain ⟨us,rfl,jb⟩:=jb
   exact ⟨us,rfl,Ao hb _ d hf h jb⟩
 | k+1,[],d,vs,u,hf,h,hv=>by
  simp only [gu,zI] at h;subst h
  simpa [vY,ke,kF,jR,zl,qj] using hv
 | k+1,(i,p) :: l,d,vs,u,hf,h,hv=>by
  simp only [gu] at h;split at h
  ·rename_i a vs' h1 h2;simp only [zI] at h;subst h;simp only [vY,JU,ke] at hv ⊢;exact U7 hb k l d.2 (hf.imp _root_.id fun h=>by simp only [pC,zA] at h;exact h.2) h2 hv
  ·simp at h
end
end Go.Kz
namespace Go.Kz
variable {R:Type}
theorem Xo {l:List (Nat×zG)}:{an:List Nat}->Xr l an=true->∀ i∈an,∃ p,zF l i=some p/\p.2.isVal=false
 | [],_,i,h=>by simp at h
 | j :: an,hk,i,h=>by
  simp only [Xr,zA] at hk;rcases gX.1 h with rfl | h
  ·have h1:=hk.1;split at h1
   ·rename_i k p hp;exact ⟨_,hp,by simpa using h1⟩
   ·simp at h1
  ·exact Xo hk.2 i h
section
variable {P:Program} {o:Oper} {a:Act} {w:World} {K:Act->World->Prop} {Q:Exit->Act->World->Prop} {c:Ctx} {J:St} {g:z8} {k:St->Option R} {r:R} {base:Nat}
theorem N8 {n:Nat} {J:St} {i:Nat} {x:z7} (zq:zK n g w a J) (ho:J.z6 i=some (.cell x)) (gA:(z7.jC x).wg=true) :
  ∃ g',zK n g' w a (J.setObj i (.cell (.jC x)))/\Ext w g w g'/\zO w g w g'/\(∀ m,zY g J m->zY g' (J.setObj i (.cell (.jC x))) m)/\
   ∀ j,qz g g' j (J.z6 j) ((J.setObj i (.cell (.jC x))).z6 j):=by
 obtain ⟨c,e,h1,h2,h3⟩:=(zq.heap.z6 i _ ho).out (Fw gA);let g':z8:={ g with tag:=fun b=>if b=g.zt i then .ro else g.tag b };have qv:zO w g w g':=⟨fun b hb=>⟨by simp only [g'];split <;> first | rfl | exact hb,rfl⟩⟩;have gV:∀ j,j≠i->Zj w g w g' j:=fun j hj=>by
  refine ⟨⟨fun q=>rfl,fun q b hb=>⟨?_,rfl⟩⟩,rfl,fun hb=>⟨?_,rfl⟩⟩
  ·simp only [g'];rw [qQ (fun he=>by subst he;rw [h2] at hb;simp at hb)];exact hb
  ·simp only [g'];rw [qQ (fun he=>by rw [he,h2] at hb;simp only [Tag.box.injEq] at hb;exact hj hb.symm)];exact hb
 have hki:qz g g' i (J.z6 i) (some (.cell (.jC x))):=.inr (.inr (.inl ⟨_,_,ho,rfl,rfl,rfl⟩));have hk:∀ j,qz g g' j (J.z6 j) ((J.setObj i (.cell (.jC x))).z6 j):=by
  intro j;by_cases hj:j=i
  ·subst hj;simp only [St.setObj,zN];exact hki
  ·simp only [St.setObj];rw [ze _ _ hj];exact qz.same (gV j hj)
 refine ⟨g',zq.p9 qv gV (.inl hki) ((zm.Jq gA).2 ⟨c,e,h1,by simp [g'],jV.frame qv (fun j _=>hk j) h3⟩) (fun b hb=>?_),?_,qv,fun m hm=>?_,hk⟩
 ·simp only [g'] at hb;split at hb
  ·rename_i he;subst he;exact zq.heap.tags _ (by rw [h2];simp)
  ·exact zq.heap.tags b hb
 ·refine ⟨rfl,rfl,rfl,yS _,yS _,fun b _ hb=>⟨rfl,?_⟩⟩;simp only [g'];rw [qQ (fun he=>by subst he;rw [h2] at hb;simp at hb)]
 ·have hmi:m≠i:=fun he=>by subst he;have:=hm.z6;rw [ho] at this;simp at this
  refine ⟨by simp only [St.setObj];rw [ze _ _ hmi];exact hm.z6,fun b p hb=>?_,fun b hb=>?_,hm.zj,fun j av hj=>?_⟩
  ·simp only [g'] at hb;split at hb
   ·simp at hb
   ·exact hm.row b p hb
  ·simp only [g'] at hb;split at hb
   ·simp at hb
   ·exact hm.box b hb
  ·by_cases Pk:j=i
   ·subst Pk;simp only [St.setObj,zN,zI,Obj.cell.injEq] at hj;subst hj;have:=hm.cells j _ ho;simpa [z7.ids] using this
   ·simp only [St.setObj] at hj;rw [ze _ _ Pk] at hj;exact hm.cells j av hj
theorem Db {n:Nat}:(os:List yK)->(is:List Nat)->{J:St}->{g:z8}->{k:St->Option R}->{r:R}->zK n g w a J->AF os is J k=some r->
  ∃ J' g',k J'=some r/\zK n g' w a J'/\Ext w g w g'/\zO w g w g'/\(∀ m,zY g J m->zY g' J' m)/\J'.next=J.next/\∀ al vs,qj w g J.z6 al vs->qj w g' J'.z6 al vs
 | [],is,J,g,k,r,zq,h=>⟨J,g,by cases is <;> simpa [AF] using h,zq,Ext.refl w g,⟨fun b hb=>⟨hb,rfl⟩⟩,fun m hm=>hm,rfl,fun _ _ h=>h⟩
 | o :: os,[],J,g,k,r,zq,h=>⟨J,g,by cases o <;> simpa [AF] using h,zq,Ext.refl w g,⟨fun b hb=>⟨hb,rfl⟩⟩,fun m hm=>hm,rfl,fun _ _ h=>h⟩
 | o :: os,i :: is,J,g,k,r,zq,h=>by
  have plain:AF os is J k=some r->∃ J' g',k J'=some r/\zK n g' w a J'/\Ext w g w g'/\zO w g w g'/\(∀ m,zY g J m->zY g' J' m)/\J'.next=J.next/\∀ al vs,qj w g J.z6 al vs->qj w g' J'.z6 al vs:=fun h=>Db os is zq h
  cases o with
  | Jq p=>
   simp only [AF] at h;split at h
   ·rename_i x ho
    cases gA:(z7.jC x).wg with
    | false=>rw [gA] at h;exact plain h
    | true=>
    rw [gA] at h;simp only [zD] at h;obtain ⟨g1,h1,h2,h2r,h3,h4⟩:=N8 zq ho gA;obtain ⟨J',g',k1,k2,k3,k3r,k4,k5,k6⟩:=Db os is h1 h;exact ⟨J',g',k1,k2,h2.trans k3,⟨fun b hb=>let z:=k3r.zt b (h2r.zt b hb).1;⟨z.1,rfl⟩⟩,fun m hm=>k4 m (h3 m hm),k5,fun al vs hv=>k6 al vs (qj.frame h2r (fun j _=>h4 j) hv)⟩
   ·exact plain h
  | row _=>exact plain h
  | cell _=>exact plain h
  | map _ _=>exact plain h
  | nest _=>exact plain h
  | iter _=>exact plain h
theorem El:(l:List yK)->(d:JN l)->{j:Nat}->{o:yK}->zF l j=some o->∃ e:o.den,zF (vr l d) j=some (o.mk e)
 | o :: l,d,0,o',h=>by
  simp only [zF,zI] at h;subst h
  exact ⟨d.1,rfl⟩
 | o :: l,d,j+1,o',h=>El l d.2 h
 | [],_,j,o',h=>by cases j <;> simp [zF] at h
theorem Wt {so:qk} {ids:List Nat} {g gc:z8} {w w':World} {xx:Bool} {fo:List yK} {fd:JN fo} (hh:yZ w g so) (qM:Ext w (yR xx g ids) w' gc) (wm:yZ w' gc (zF (vr fo fd)))
  (Cl:∀ id o,id∈ids->so id=some o->∃ o',o.vU so (fun i=>qZ i ids 0)=some o') :
  (l:Qq)->{b b':Qq}->H8 so ids fo l b=some b'->(∀ j id,yT b j=some id->Ident g gc (zF (vr fo fd)) so j id)->∀ j id,yT b' j=some id->Ident g gc (zF (vr fo fd)) so j id
 | [],b,b',h,hI=>by
  simp only [H8,zI] at h
  subst h;exact hI
 | (j,_) :: l,b,b',h,hI=>by
  simp only [H8] at h;split at h
  ·rename_i id hj;split at h
   ·rename_i q x hq ho;have hm:=(yX h).1;replace h:=(yX h).2;simp only [zA] at hm;obtain ⟨hm,gA⟩:=hm;split at h
    ·rename_i b1 WG;obtain ⟨d,hd⟩:=El fo fd hq;have FF:(z7.jC (q.mk d)).wg=true:=by
      unfold z1x at WG;split at WG
      ·rfl
      ·rfl
      ·simp at WG
     obtain ⟨c,e,h1,h2,h3⟩:=(zm.Jq gA).1 (hh.z6 id _ ho);obtain ⟨c',e',k1,k2,k3⟩:=(zm.Jq FF).1 (wm.z6 j _ hd);have hblk:=(hI j id hj).2.1 _ hd _ ho;rw [hblk] at k1;have qJ:=hh.tags (g.zt id) (by rw [h2];simp);have GU:=(qM.vj (g.zt id) qJ (.inr ((Wv (w:=w) (x:=xx)).zt _ ((x6 (w:=w) (ids:=ids)).zt _ h2).1).1)).1;rw [GU,h1] at k1;simp only [zI,Go.Obj.cells.injEq] at k1;obtain ⟨rfl,_⟩:=k1;obtain ⟨o',hr⟩:=Cl id _ (jX.1 hm) ho;simp only [Obj.vU,xp,wq] at hr;obtain ⟨y1,⟨y2,hr,_⟩,_⟩:=hr;unfold z1x at WG;split at WG
     ·simp only [z7.vU,wq] at hr;obtain ⟨y3,hr,_⟩:=hr;exact Wt hh qM wm Cl l h (Hp WG h3 hr k3 hI)
     ·exact Wt hh qM wm Cl l h (K9 WG (yA h3 rfl (by simp) (by simp)) hr (yA k3 rfl (by simp [zG.mk]) (by simp [zG.mk])) hI)
     ·simp at WG
    ·simp at h
   ·exact Wt hh qM wm Cl l h hI
  ·exact Wt hh qM wm Cl l h hI
theorem z5t {fid:Nat} {all:z7} {vals:List Value} {fin:vO} {jI:List Nat} {zi:vO} {F:fin.den->Option zi.den} (hco:qD P fid (.mut fin jI zi F))
  (zb:(execOp a.eval o).run P w=(callFunc fid vals.toArray).run P w) (hall:qj w g J.z6 all vals) (zq:zK c.ntmps g w a J) (vQ:∀ m,base<=m->m < base+8->zY g J m)
  (h:(cond (jc all && Us fin.zj 0 && Xr fin.zj jI && (ZA fin.zj all || (pC zi.zj && ZM zi.z6)) && Nat.ble zi.z6.length 8)
  (match (Xs J.z6 all jI zi.zj []).bind fun b=>H8 J.z6 (k8 J.z6 100 (p4 fin.zj all) []) zi.z6 b b with
   | some b=>Ss J all fin (k8 J.z6 100 (p4 fin.zj all) []) fun d=>(F d).bind fun r=>IW J base (k8 J.z6 100 (p4 fin.zj all) []) b jI zi r fun v J=>J.qe c o.dst v k
   | none=>none) none)=some r) (hK:jt c.ntmps k r g w J base true K):o.wp P a w K Q:=by
 replace h:=yX h;obtain ⟨hb,h⟩:=h;simp only [zA,HJ] at hb;obtain ⟨⟨⟨⟨hval,zl1⟩,zlx⟩,To⟩,hlen⟩:=hb;have hlen:=zL hlen;split at h
 ·rename_i b zf8;obtain ⟨b0,Rp,WG⟩:=VN.1 zf8;generalize gz:k8 J.z6 100 (p4 fin.zj all) []=ids at h WG;have hnd:ids.Nodup:=by rw [<-gz];exact po _ _ _ (by simp)
  unfold Ss at h;split at h
  ·rename_i os Ry;obtain ⟨hol,hog⟩:=ZG Ry;have qv:Jg J.z6 ids os:=⟨hol,hog⟩;obtain ⟨xx,hxx,hxf⟩:∃ xx:Bool,(xx=true\/ZA fin.zj all=true)/\(xx=false\/(pC zi.zj=true/\ZM zi.z6=true)):=by
    rcases To with hf | hf
    ·exact ⟨false,.inr hf,.inl rfl⟩
    ·exact ⟨true,.inl rfl,.inr hf⟩
   obtain ⟨d,h,Fx,Cl,X7⟩:=UO (x:=xx) hnd qv zq.heap fin.zj zl1 hval hxx hall h;obtain ⟨e,he,h9⟩:=x7 fin.z6 h;subst he;simp only [VN] at h9;obtain ⟨rv,hF,h8⟩:=h9;replace h:=h8;have zg:∀ j o',zF (vr fin.z6 e) j=some o'->zm w (wG g ids) (zF (vr fin.z6 e)) j o'/\∀ y,o' = .cell y->∀ m∈y.ids,m < ids.length:=by
    intro j o' hj;obtain ⟨i,hi⟩:=ux (l:=ids) (i:=j) (by rw [<-hol];exact wj hj);obtain ⟨o,o2,h1,h2,h3⟩:=hog j i hi;rw [hj] at h3;simp only [zI] at h3;subst h3;exact Lc hnd qv hi h2 (zq.heap.z6 i o h1)
   have zkm:fin.z6.length=ids.length:=by rw [<-hol,W4]
   have OM:zK vals.length (yR xx g ids) w ⟨vals.toArray,[]⟩ (St.of (vY fin.zj d) (vr fin.z6 e)):=by
    refine ⟨fun i av hi=>?_,⟨fun j o' hj=>?_,fun bb hbb=>zq.heap.tags bb (Fy hbb)⟩,by simp,rfl,(zq.known.kept x6).kept Wv⟩
    ·obtain ⟨_,v,h2,h3,_⟩:=Fx i av hi;exact ⟨v,by simpa using h2,h3⟩
    ·exact zm.frame Wv (Ui j) (fun _ _ vu _=>Ul vu _) (zg j o' hj).1
   have Je:∀ m,fin.z6.length<=m->zY (yR xx g ids) (St.of (vY fin.zj d) (vr fin.z6 e)) m:=by
    intro m hm;rw [zkm] at hm;refine ⟨?_,fun bb p hbb=>?_,fun bb hbb=>?_,fun i av hi hmem=>?_,fun j y hj hmem=>?_⟩
    ·exact BQ (by rw [W4,zkm];exact hm)
    ·have:=Fq (.inl ⟨p,hbb⟩);omega
    ·have:=Fq (.inr hbb);omega
    ·obtain ⟨_,v,_,_,h4⟩:=Fx i av hi;have:=h4 m hmem;omega
    ·have:=(zg j _ hj).2 y rfl m hmem;omega
   have uL:∀ v w',(∃ g',Ext w (yR xx g ids) w' g'/\yZ w' g' (zF (vr zi.z6 rv.2))/\
     (∀ k i av,zF jI k=some i->zF ((vY zi.zj rv.1).map Prod.snd) k=some av->∃ u,vals[i]? = some u/\zl w' g' (zF (vr zi.z6 rv.2)) av u)/\
     zl w' g' (zF (vr zi.z6 rv.2)) (kF (ke jI.length ((vY zi.zj rv.1).map Prod.snd))) v)->K (a.put o.dst v) w':=by
    intro v w' ⟨gc,qM,wm,hex,VZ⟩;unfold IW at h;split at h
    ·rename_i os' vs zti KZ;replace h:=yX h;obtain ⟨vT,h⟩:=h;simp only [zA] at vT;have zu3:=Hg (so:=J.z6) (g:=g) (gc:=gc) (w:=w) (w':=w') (oc:=zF (vr zi.z6 rv.2)) (Y:=fun i=>qZ i ids 0) (vs:=vals) rfl jI zi.zj rv.1 Rp (fun i hi av Gr=>by
      obtain ⟨p,hp1,hp2⟩:=Xo zlx i hi;obtain ⟨u,IA,hu2,_⟩:=V2 hall Gr;refine ⟨Cl i av p Gr hp1 hp2,fun u' hu'=>?_⟩;rw [IA] at hu';simp only [zI] at hu';subst hu';exact hu2) hex (fun j id hj=>by simp [yT] at hj)
     have hid:=Wt (fd:=rv.2) zq.heap qM wm (fun id o hid ho=>by
      obtain ⟨j,hj,he⟩:=VI.1 hid;obtain ⟨o1,o2,h1,h2,_⟩:=hog j id (by rw [uq,gj hj,he]);rw [ho] at h1;simp only [zI] at h1;subst h1;exact ⟨o2,h2⟩) b0 WG zu3
     have H:jw w g J base xx ids b zi rv os' w' gc:=⟨qM,wm,hid,zti,vT.1,vT.2,vQ,hlen,hxf,fun i hi=>by
      obtain ⟨j,hj,he⟩:=VI.1 hi;obtain ⟨o1,_,h1,_⟩:=hog j i (by rw [uq,gj hj,he]);rw [h1];simp⟩
     refine z1f (w:=w) (g:=g) (H.ok zq) (Hw qM) (fun m hm hf=>⟨H.free hm hf,fun hmem=>?_⟩) rfl ?_ h (fun hh=>by simp at hh) hK
     ·exact H.notM hm hf (U8 _ _ KZ m (Xh _ _ m (Iq _ m hmem)))
     ·exact U7 H.bk jI.length zi.zj rv.1 (H.carry.imp _root_.id fun h=>h.1) KZ VZ
    ·simp at h
   rcases hco w (yR xx g ids) (d,e) vals rv X7 OM Je hF with ⟨OC,A8⟩ | ⟨v,w',OC,A8⟩
   ·unfold Oper.wp;rw [zb,OC,Oper.upon_enter];refine Calls.mono A8 (fun e' w' he=>?_);obtain ⟨v,rfl,hv⟩:=he;exact uL v w' hv
   ·unfold Oper.wp;rw [zb,OC,Oper.upon_value];exact uL v w' A8
  ·simp at h
 ·simp at h
theorem Ow (FC:A5 P c.env) {fid:Nat} {all:z7} {vals:List Value} (zb:(execOp a.eval o).run P w=(callFunc fid vals.toArray).run P w) (hall:qj w g J.z6 all vals)
  (zq:zK c.ntmps g w a J) (vQ:∀ m,base<=m->m < base+8->zY g J m)
  (h:(match GV all (c.env fid) with
   | some (.pure p res F)=>Z8 J base all p res F fun v J=>J.qe c o.dst v k
   | some (.mut fin jI zi F)=>zdi J base all fin jI zi F fun v J=>J.qe c o.dst v k
   | none=>none)=some r) (hK:jt c.ntmps k r g w J base true K):o.wp P a w K Q:=by
 split at h
 ·rename_i p res F FZ;have hco:=FC fid _ (YX FZ);unfold Z8 at h
  cases hb:(pR res || wv all) with
  | true=>
   rw [hb] at h
   exact W6 hco zb hall zq vQ h hK
  | false=>
   rw [hb] at h;obtain ⟨z29,J1,g1,Zk,h1,h2,h3,KZ⟩:=GC p all zq.heap hall h;refine W6 (mo:=true) hco zb KZ (h3.st h1 zq) (fun m hm1 hm2=>h3.fresh h1 (vQ m hm1 hm2)) Zk ?_;intro J' g' a' w' A9 qP qM Tl IH vl;exact hK J' g' a' w' A9 qP (h3.ext.trans qM) (fun m hm hf=>Tl m hm (h3.fresh h1 hf)) (IH.trans h2) vl
 ·rename_i fin jI zi F FZ;have hco:=FC fid _ (YX FZ);unfold zdi at h;obtain ⟨J0,g0,h0,Gf,Ts,_,zlg,ztl,zsm⟩:=Db _ _ zq h;clear h;have hK0:jt c.ntmps k r g0 w J0 base true K:=by
   intro J' g' a' w' A9 qP gD Tl IH vl;exact hK J' g' a' w' A9 qP (Ts.trans gD) (fun m hm hf=>Tl m hm (zlg m hf)) (IH.trans ztl) vl
  exact z5t hco zb (zsm _ _ hall) Gf (fun m h1 h2=>zlg m (vQ m h1 h2)) h0 hK0
 ·simp at h
theorem SD (FC:A5 P c.env) {cl:Call} {x:Operand} (ho:o.op = .call cl) (pO:cl.callee = .value x)
  (zq:zK c.ntmps g w a J) (vQ:∀ m,base<=m->m < base+8->zY g J m) {gv args:z7} (hx:ev J x=some gv) (hargs:RZ J cl.args.toList=some args)
  (h:(z1n c J base gv args fun v J=>J.qe c o.dst v k)=some r) (hK:jt c.ntmps k r g w J base true K):o.wp P a w K Q:=by
 obtain ⟨eg,_⟩:=qG zq hx;obtain ⟨ea,_⟩:=VU zq hargs;unfold z1n at h;split at h
 ·rename_i fid all D0;obtain ⟨us,hfv,hall⟩:=Bo eg ea D0;refine Ow FC (fid:=fid) (all:=all) (vals:=(cl.args.toList.map a.eval)++us) ?_ hall zq vQ h hK;have e1:cl.args.map a.eval=(cl.args.toList.map a.eval).toArray:=by apply Dr.1;rw [Z2u]
  simp [execOp,ho,resolve,pO,hfv,Deferred.ofValue,invoke,e1]
 ·simp at h
theorem z9x {q:Bool} {n:Nat} (hy:IP o=true):Ox q c J n o k=Rz c J n o k:=by
 unfold Ox;split
 ·rename_i ho;simp [IP,Ks,ho] at hy
 ·rename_i ho;simp [IP,Ks,ho] at hy
 ·rename_i ho;simp [IP,Ks,ho] at hy
 ·rename_i ho;simp [IP,Ks,ho] at hy
 ·rename_i ho;simp [IP,Ks,ho] at hy
 ·rfl
theorem SN {q:Bool} (hc:ub P c) (zq:zK c.ntmps g w a J) (vQ:∀ m,base<=m->m < base+8->zY g J m) (h:Ox q c J base o k=some r) (hK:jt c.ntmps k r g w J base (Q5 q o) K):o.wp P a w K Q:=by
 have hK':jt c.ntmps k r g w J base (M9 o) K:=by
  intro J' g' a' w' h1 h2 h3 h4 h5 h6;refine hK J' g' a' w' h1 h2 h3 h4 h5 fun hm=>h6 ?_
  cases q with
  | false=>exact hm
  | true=>
   simp only [Q5,zD,VH] at hm;exact hm.1
 unfold Ox at h;split at h
 ·rename_i x args ts ho
  cases q with
  | false=>exact Bg hc zq vQ h hK'
  | true=>
   simp only [zD] at h;split at h
   ·rename_i gv av hx ha;refine SD hc.env ho rfl zq vQ hx ha h ?_;intro J' g' a' w' h1 h2 h3 h4 h5 _;exact hK J' g' a' w' h1 h2 h3 h4 h5 (fun hh=>by simp [Q5,Ca,ho] at hh)
   ·simp at h
 ·rename_i t x ho
  cases q with
  | false=>exact Bg hc zq vQ h hK'
  | true=>
   simp only [zD] at h;split at h
   ·rename_i av hx;exact SU hc.mt ho zq (vQ base (yS _) (by omega)) hx h hK
   ·simp at h
 ·rename_i x ho
  cases q with
  | false=>exact Bg hc zq vQ h hK'
  | true=>
   simp only [zD] at h;split at h
   ·rename_i av hx;refine z5r (base:=base) ho zq hx h ?_;intro J' g' a' w' h1 h2 h3 h4 h5 _;exact hK J' g' a' w' h1 h2 h3 h4 h5 (fun hh=>by simp [Q5,Ca,ho] at hh)
   ·simp at h
 ·rename_i x ho
  cases q with
  | false=>exact Bg hc zq vQ h hK'
  | true=>
   simp only [zD] at h;split at h
   ·rename_i av hx;refine SC (base:=base) ho zq hx h ?_;intro J' g' a' w' h1 h2 h3 h4 h5 _;exact hK J' g' a' w' h1 h2 h3 h4 h5 (fun hh=>by simp [Q5,Ca,ho] at hh)
   ·simp at h
 ·rename_i args ts ho
  cases hd:(q && zaw c o.dst) with
  | false=>rw [hd] at h;exact Bg hc zq vQ h hK'
  | true=>
   rw [hd] at h;simp only [zD] at h;split at h
   ·rename_i x y t t' hargs pB;split at h
    ·rename_i av bv ow u hx hy kp
     cases hb:Nat.beq t t' with
     | false=>rw [hb] at h;simp at h
     | true=>
      rw [hb] at h;have htq:=zE hb;subst htq;simp only [zD] at h;refine Ix hc.tt ho hargs pB kp hx hy zq (vQ base (yS _) (by omega)) h ?_;intro J' g' a' w' h1 h2 h3 h4 h5 _;exact hK J' g' a' w' h1 h2 h3 h4 h5 (fun hh=>by
       cases q <;> simp [Q5,M9,ho] at hh)
    ·simp at h
   ·simp at h
 ·exact Bg hc zq vQ h hK'
end
end Go.Kz
namespace Go.Kz
variable {R:Type}
section
variable {P:Program} {ops:Array Oper} {Q:Exit->Act->World->Prop} {q:Bool}
theorem IX {q:Bool} {o:Oper} (h:Q5 q o=false):Q5 false o=false:=by
 cases q with
 | false=>exact h
 | true=>
  simp only [Q5,zD,VH] at h;exact h.1
def ql (q:Bool) (P:Program) (ops:Array Oper) (Q:Exit->Act->World->Prop) (o:Oper) (K:Act->World->Prop) (a:Act) (w:World):Prop:=
 if Region.wanted o (yielded ops a.tmps)=true then
  (IP o=true/\∃ v,(∀ w',LP o w w'->(execOp a.eval o).run P w' = .ok (.value v) w')/\K (a.put o.dst v) w)\/
  (IP o=false/\o.wp P a w (fun a' w'=>(Q5 q o=false->jT w w')/\K a' w') Q)
 else K (a.put o.dst undef) w
def YZ (q:Bool) (P:Program) (ops:Array Oper) (Q:Exit->Act->World->Prop) (K:Act->World->Prop):List (Nat×Oper)->Act->World->Prop
 | [],a,w=>K a w
 | (_,o) :: l,a,w=>ql q P ops Q o (YZ q P ops Q K l) a w
theorem Pc {K:Act->World->Prop}:(l m:List (Nat×Oper))->YZ q P ops Q K (l++m)=YZ q P ops Q (YZ q P ops Q K m) l
 | [],m=>rfl
 | (i,o) :: l,m=>by
  funext a w;simp only [ue,YZ,Pc l m]
def C9 (l:List (Nat×Oper)) (a a':Act):Prop:=∀ i,(∀ x∈l,x.2.dst≠some i)->a'.tmps[i]? = a.tmps[i]?
theorem Oper.RE {o:Oper} {a:Act} {w:World} {K:Act->World->Prop} (h:o.wp P a w K Q) :
  o.wp P a w (fun a' w'=>(∀ i,o.dst≠some i->a'.tmps[i]? = a.tmps[i]?)/\K a' w') Q:=by
 have WQ:∀ (b:Act) (v:Value),b.tmps=a.tmps->∀ i,o.dst≠some i->(b.put o.dst v).tmps[i]? = a.tmps[i]? := by
  intro b v hb i hi;rw [YP,qQ (fun h=>hi h.1),hb]
 unfold Oper.wp at *;generalize (execOp a.eval o).run P w=x at *
 cases x with
 | ok n w'=>
  cases n <;> simp only [Oper.upon] at h ⊢
  case value v=>exact ⟨WQ a v rfl,h⟩
  case skip=>exact ⟨WQ a _ rfl,h⟩
  case defer d=>exact ⟨WQ _ _ rfl,h⟩
  case enter f args=>
   refine Calls.mono h fun e w'' he=>?_
   cases e with
   | returned v=>exact ⟨WQ a v rfl,he⟩
   | panicked c=>exact he
   | outgrown=>exact he
  case row row args=>exact Rows.mono h fun v w'' he=>⟨WQ a v rfl,he⟩
 | halt x w'=>cases x <;> simp only [Oper.upon] at h ⊢ <;> exact h
theorem ql.frame {o:Oper} {K:Act->World->Prop} {a:Act} {w:World} (h:ql q P ops Q o K a w) :
  ql q P ops Q o (fun a' w'=>((Q5 q o=false->jT w w')/\∀ i,o.dst≠some i->a'.tmps[i]? = a.tmps[i]?)/\K a' w') a w:=by
 have WQ:∀ v,∀ i,o.dst≠some i->(a.put o.dst v).tmps[i]? = a.tmps[i]? := by
  intro v i hi;rw [YP,qQ (fun h=>hi h.1)]
 unfold ql at *;split
 ·rename_i hw;rw [yW hw] at h;rcases h with ⟨hy,v,h1,h2⟩ | ⟨hy,h1⟩
  ·exact .inl ⟨hy,v,h1,⟨fun _=>jT.refl w,WQ v⟩,h2⟩
  ·exact .inr ⟨hy,Oper.wp_mono (fun a' w' hh=>⟨hh.2.1,⟨hh.2.1,hh.1⟩,hh.2.2⟩) (Oper.RE h1)⟩
 ·rename_i hw;rw [qQ hw] at h;exact ⟨⟨fun _=>jT.refl w,WQ _⟩,h⟩
theorem ql.mono {o:Oper} {K K':Act->World->Prop} {a:Act} {w:World} (hk:∀ a w,K a w->K' a w) (h:ql q P ops Q o K a w):ql q P ops Q o K' a w:=by
 unfold ql at *;split
 ·rename_i hw;rw [yW hw] at h;rcases h with ⟨hy,v,h1,h2⟩ | ⟨hy,h1⟩
  ·exact .inl ⟨hy,v,h1,hk _ _ h2⟩
  ·exact .inr ⟨hy,Oper.wp_mono (fun a' w' hh=>⟨hh.1,hk _ _ hh.2⟩) h1⟩
 ·rename_i hw;rw [qQ hw] at h;exact hk _ _ h
theorem jT.size {w w':World} (h:jT w w'):w.heap.size<=w'.heap.size:=by
 rcases Z3v w.heap.size with h0 | h0
 ·omega
 ·have:=h (w.heap.size-1) (by omega);have h2:w.heap[w.heap.size-1]?≠none:=by simp;omega
  rw [<-this] at h2;simp at h2;omega
theorem jT.trans {w w' w'':World} (h:jT w w') (k:jT w' w''):jT w w'':=fun b hb=>(k b (by have:=h.size;omega)).trans (h b hb)
theorem Ab {K:Act->World->Prop}:(l:List (Nat×Oper))->noM l=true->(a:Act)->(w:World)->YZ false P ops Q K l a w->
  YZ false P ops Q (fun a' w'=>(jT w w'/\C9 l a a')/\K a' w') l a w
 | [],_,a,w,h=>⟨⟨jT.refl w,fun _ _=>rfl⟩,h⟩
 | (i,o) :: l,hm,a,w,h=>by
  simp only [noM,zA,A1] at hm;have h1:=ql.frame (show ql false P ops Q o (YZ false P ops Q K l) a w from h);refine ql.mono (fun a1 w1 hh=>?_) h1;obtain ⟨⟨vl,Fx⟩,pk⟩:=hh;have h2:=Ab l hm.2 a1 w1 pk;have mono:∀ (l:List (Nat×Oper)) (K K':Act->World->Prop),(∀ a w,K a w->K' a w)->∀ a w,YZ false P ops Q K l a w->YZ false P ops Q K' l a w:=by
   intro l
   induction l with
   | nil=>exact fun K K' hk a w h=>hk a w h
   | cons x l ih=>exact fun K K' hk a w h=>ql.mono (fun a w h=>ih K K' hk a w h) h
  refine mono l _ _ (fun a2 w2 hh=>?_) a1 w1 h2;obtain ⟨⟨zuv,zt5⟩,hk⟩:=hh;refine ⟨⟨(vl hm.1).trans zuv,fun j hj=>?_⟩,hk⟩;rw [zt5 j (fun x hx=>hj x (by simp [hx])),Fx j (hj (i,o) (by simp))]
theorem ql.zoz {o:Oper} {K:Act->World->Prop} {a:Act} {w:World} (h:ql false P ops Q o K a w):ql q P ops Q o K a w:=by
 unfold ql at *;split
 ·rename_i hw;rw [yW hw] at h;rcases h with h1 | ⟨hy,h1⟩
  ·exact .inl h1
  ·exact .inr ⟨hy,Oper.wp_mono (fun a' w' hh=>⟨fun hm=>hh.1 (IX hm),hh.2⟩) h1⟩
 ·rename_i hw;rw [qQ hw] at h;exact h
theorem EV {K:Act->World->Prop}:(l:List (Nat×Oper))->(a:Act)->(w:World)->YZ false P ops Q K l a w->YZ q P ops Q K l a w
 | [],a,w,h=>h
 | (_,_) :: l,a,w,h=>ql.zoz (ql.mono (fun a w h=>EV l a w h) h)
theorem Aa {K:Act->World->Prop}:(l:List (Nat×Oper))->(a:Act)->(w:World)->YZ q P ops Q K l a w->YZ q P ops Q (fun a' w'=>C9 l a a'/\K a' w') l a w
 | [],a,w,h=>⟨fun _ _=>rfl,h⟩
 | (i,o) :: l,a,w,h=>by
  refine ql.mono (fun a1 w1 hh=>?_) (ql.frame (show ql q P ops Q o (YZ q P ops Q K l) a w from h));obtain ⟨⟨_,Fx⟩,pk⟩:=hh;have mono:∀ (l:List (Nat×Oper)) (K K':Act->World->Prop),(∀ a w,K a w->K' a w)->∀ a w,YZ q P ops Q K l a w->YZ q P ops Q K' l a w:=by
   intro l
   induction l with
   | nil=>exact fun K K' hk a w h=>hk a w h
   | cons x l ih=>exact fun K K' hk a w h=>ql.mono (fun a w h=>ih K K' hk a w h) h
  refine mono l _ _ (fun a2 w2 hh=>⟨fun j hj=>?_,hh.2⟩) a1 w1 (Aa l a1 w1 pk);rw [hh.1 j (fun x hx=>hj x (by simp [hx])),Fx j (hj (i,o) (by simp))]
theorem Pb {K K':Act->World->Prop} (hk:∀ a w,K a w->K' a w):(l:List (Nat×Oper))->(a:Act)->(w:World)->YZ q P ops Q K l a w->YZ q P ops Q K' l a w
 | [],a,w,h=>hk a w h
 | (_,_) :: l,_,_,h=>ql.mono (fun a w h=>Pb hk l a w h) h
end
theorem splitAt_eq {p:Oper->Bool}:{l acc:List (Nat×Oper)}->{GB rest:List (Nat×Oper)}->{d:Option Nat}->splitAt p l acc=some (GB,d,rest)->acc++l=GB++rest
 | [],_,_,_,_,h=>by simp [splitAt] at h
 | (i,o) :: l,acc,GB,rest,d,h=>by
  simp only [splitAt] at h
  cases hp:p o with
  | true=>
   rw [hp] at h;simp only [zD,zI,gB] at h;obtain ⟨rfl,_,rfl⟩:=h
   simp
  | false=>
   rw [hp] at h;have:=splitAt_eq (l:=l) h;rw [<-this];simp
theorem gp:{l:List (Nat×Oper)}->{J:St}->{i:Nat}->{av:z7}->(vo l J).zj i=some av->J.zj i=some av/\∀ x∈l,x.2.dst≠some i
 | [],J,i,av,h=>⟨h,by simp⟩
 | (j,o) :: l,J,i,av,h=>by
  simp only [vo] at h;obtain ⟨h1,h2⟩:=gp (l:=l) h
  cases hd:o.dst with
  | none=>
   rw [hd] at h1
   exact ⟨h1,fun x hx=>(gX.1 hx).elim (fun e=>by subst e;simp [hd]) (fun hx=>h2 x hx)⟩
  | some d=>
   rw [hd] at h1;simp only [St.wh,KK] at h1
   cases hb:Nat.beq i d with
   | true=>rw [hb] at h1;simp at h1
   | false=>
    rw [hb] at h1;refine ⟨h1,fun x hx=>?_⟩;rcases gX.1 hx with rfl | hx
    ·rw [hd];intro he;simp only [zI] at he;subst he;rw [Lu] at hb;simp at hb
    ·exact h2 x hx
theorem JC:(l:List (Nat×Oper))->(J:St)->(vo l J).z6=J.z6/\(vo l J).next=J.next
 | [],_=>⟨rfl,rfl⟩
 | (_,o) :: l,J=>by
  simp only [vo];obtain ⟨h1,h2⟩:=JC l (J.wh o.dst);cases hd:o.dst <;> rw [hd] at h1 h2 <;> exact ⟨h1,h2⟩
end Go.Kz
namespace Go.Kz
def zh1 (g:z8) (J:St) (base:Nat) (l:List (Nat×Oper)):Prop:=∀ x∈l,∀ m,base+8*x.1<=m->m < base+8*x.1+8->zY g J m
def Out (base:Nat) (l:List (Nat×Oper)) (m:Nat):Prop:=∀ x∈l,m < base+8*x.1\/base+8*x.1+8<=m
theorem ON {n:Nat} {g:z8} {w w':World} {a a':Act} {J:St} (zq:zK n g w a J) (vl:jT w w') (hd:a'.defers=[]) (hs:a'.tmps.size=n)
  (zj:∀ i av,J.zj i=some av->a'.tmps[i]? = a.tmps[i]?):zK n g w' a' J:=by
 have ht:=zq.heap.tags;have hr:zO w g w' g:=⟨fun b hb=>⟨hb,vl b (ht b (by rw [hb];simp))⟩⟩;have gV:∀ id,Zj w g w' g id:=fun id=>⟨⟨fun _=>rfl,fun _ b hb=>⟨hb,vl b (ht b (by rw [hb];simp))⟩⟩,rfl,fun hb=>⟨hb,vl _ (ht _ (by rw [hb];simp))⟩⟩
 have hk:∀ id,qz g g id (J.z6 id) (J.z6 id):=fun id=>qz.refl g id _
 refine ⟨fun i av hi=>?_,⟨fun id x hx=>?_,fun b hb=>?_⟩,hs,hd,zq.known.kept hr⟩
 ·obtain ⟨u,hu,zR⟩:=zq.zj i av hi;exact ⟨u,by rw [zj i av hi];exact hu,zl.frame hr (fun id _=>hk id) zR⟩
 ·exact zm.frame hr (gV id) (fun _ _ vu _=>hk vu) (zq.heap.z6 id x hx)
 ·have:=ht b hb;have:=vl.size;omega
theorem Hv {J:St} {d:Nat} {b:Bool} (h:Xi J d=some b):J.zj d=some (.data .bool b):=by
 unfold Xi at h;split at h
 ·rename_i x hx;simp only [zI] at h;subst h;exact hx
 ·simp at h
section
variable {P:Program} {ops:Array Oper} {Q:Exit->Act->World->Prop} {c:Ctx} {base:Nat} {dst:Nat->Option Nat}
theorem um {o:Oper} {f:Nat->Option Bool} (h:o.guard=none):Region.wanted o f=true:=by simp [Region.wanted,h]
theorem VS {o:Oper} {a:Act} {j t:Nat} {want b:Bool} (h:o.guard=some (j,want)) (hd:(ops[j]?).bind (·.dst)=some t) (hv:a.tmps[t]? = some (.bool b)) :
  Region.wanted o (yielded ops a.tmps)=(b == want):=by
 simp [Region.wanted,h,yielded,hd,hv]
theorem Cu {n:Nat} {g:z8} {w:World} {a:Act} {J:St} (zq:zK n g w a J) {t:Nat} {b:Bool} (h:J.zj t=some (.data .bool b)):a.tmps[t]? = some (.bool b):=by
 obtain ⟨v,hv,zR⟩:=zq.zj t _ h;rw [hv,ua zR]
theorem Uz {n:Nat} {g:z8} {w:World} {a:Act} {J:St} (zq:zK n g w a J) {t:Nat} {av:z7} (h:J.zj t=some av):zK n g w a (J.set t av):=by
 refine ⟨fun i x hi=>?_,zq.heap,zq.size,zq.defers,zq.known⟩;simp only [St.set,KK] at hi
 cases hb:Nat.beq i t with
 | true=>
  rw [hb] at hi;simp only [zD,zI] at hi;subst hi;have:=zE hb;subst this
  exact zq.zj _ _ h
 | false=>rw [hb] at hi;exact zq.zj i x hi
theorem Ki {x:Nat}:{l:List Nat}->(yD x l=true↔x∈l)
 | []=>by simp [yD]
 | y :: l=>by
  simp only [yD,gX]
  cases h:Nat.beq y x with
  | true=>simp [zE h]
  | false=>
   have vI:x≠y:=by intro he;subst he;rw [Lu] at h;simp at h
   simp [vI,Ki (l:=l)]
def Und (a:Act) (gF:List Nat):Prop:=∀ s∈gF,∀ b,a.tmps[s]?≠some (.bool b)
theorem Pd {o:Oper} {a:Act} {j t:Nat} {want:Bool} (h:o.guard=some (j,want)) (hd:(ops[j]?).bind (·.dst)=some t) (hv:∀ b,a.tmps[t]?≠some (.bool b)) :
  Region.wanted o (yielded ops a.tmps)=false:=by
 have hy:yielded ops a.tmps j=none:=by
  cases hx:a.tmps[t]? with
  | none=>simp [yielded,hd,hx]
  | some v=>
   cases v with
   | bool b=>exact absurd hx (hv b)
   | _=>simp [yielded,hd,hx]
 simp [Region.wanted,h,hy]
theorem CW {d s:Nat}:{l:List Nat}->s∈rmN d l->s∈l/\s≠d
 | [],h=>by simp [rmN] at h
 | x :: l,h=>by
  simp only [rmN] at h
  cases hb:Nat.beq x d with
  | true=>
   rw [hb] at h;have:=CW (l:=l) h
   exact ⟨by simp [this.1],this.2⟩
  | false=>
   rw [hb] at h;rcases gX.1 h with rfl | h
   ·exact ⟨by simp,fun he=>by subst he;rw [Lu] at hb;simp at hb⟩
   ·have:=CW (l:=l) h;exact ⟨by simp [this.1],this.2⟩
theorem Bb {d:Option Nat} {s:Nat} {l:List Nat} (h:s∈Zr d l):s∈l/\d≠some s:=by
 cases d with
 | none=>exact ⟨h,by simp⟩
 | some d=>
  have:=CW h;exact ⟨this.1,by simp;exact fun he=>this.2 he.symm⟩
theorem Wo {s:Nat}:{l:List (Nat×Oper)}->{u:List Nat}->s∈XO l u->s∈u/\∀ x∈l,x.2.dst≠some s
 | [],u,h=>⟨h,by simp⟩
 | (i,o) :: l,u,h=>by
  obtain ⟨h1,h2⟩:=Wo (l:=l) h;obtain ⟨h3,h4⟩:=Bb h1;refine ⟨h3,fun x hx=>?_⟩;rcases gX.1 hx with rfl | hx
  ·exact h4
  ·exact h2 x hx
theorem Und.vj {a a':Act} {u:List Nat} {d:Option Nat} (h:Und a u) (hs:∀ i,d≠some i->a'.tmps[i]? = a.tmps[i]?):Und a' (Zr d u):=by
 intro s hm b;obtain ⟨h1,h2⟩:=Bb hm;rw [hs s h2];exact h s h1 b
theorem Und.skip {a:Act} {u:List Nat} {d:Option Nat} (h:Und a u):Und (a.put d undef) (Dm d u):=by
 intro s hm b;rw [YP];split
 ·intro he;cases he
 ·rename_i vI
  cases d with
  | none=>exact h s hm b
  | some d=>
   rcases gX.1 hm with rfl | hm
   ·have AA:a.tmps.size<=s:=by
     by_cases qJ:s < a.tmps.size
     ·exact absurd ⟨rfl,qJ⟩ vI
     ·omega
    rw [Z3g AA];simp
   ·exact h s hm b
theorem YB (hc:ub P c) (Qn:∀ j,dst j=(ops[j]?).bind (·.dst)):(q:Bool)->(n:Nat)->{R:Type}->{opened gF:List Nat}->{l:List (Nat×Oper)}->{J:St}->{g:z8}->{a:Act}->{w:World}->{k:St->Option R}->{r:R}->
  {K:Act->World->Prop}->xO c base dst q n R opened gF l J k=some r->zK c.ntmps g w a J->Und a gF->(l.map Prod.fst).Nodup->zh1 g J base l->
  (∀ J' g' a' w',k J'=some r->zK c.ntmps g' w' a' J'->Ext w g w' g'->(∀ m,Out base l m->zY g J m->zY g' J' m)->J'.next=J.next->K a' w')->
  YZ q P ops Q K l a w
 | _,0,_,_,_,_,_,_,_,_,_,_,_,h,_,_,_,_,_=>by simp [xO] at h
 | q,n+1,R,opened,gF,[],J,g,a,w,k,r,K,h,zq,_,_,_,hK=>by
  simp only [xO] at h
  exact hK J g a w h zq (Ext.refl _ _) (fun m _ hf=>hf) rfl
 | q,n+1,R,opened,gF,(i,o) :: l,J,g,a,w,k,r,K,h,zq,YO,hnd,vQ,hK=>by
  simp only [JU,Z2s] at hnd;have one:Ox q c J (base+8*i) o (fun J=>xO c base dst q n R opened (Zr o.dst gF) l J k)=some r->Region.wanted o (yielded ops a.tmps)=true->YZ q P ops Q K ((i,o) :: l) a w:=by
   intro h hw;have TF:∀ J1 g1 a1 w1,xO c base dst q n R opened (Zr o.dst gF) l J1 k=some r->zK c.ntmps g1 w1 a1 J1->Ext w g w1 g1->
     (∀ m,(m < base+8*i\/base+8*i+8<=m)->zY g J m->zY g1 J1 m)->J1.next=J.next->(∀ s,o.dst≠some s->a1.tmps[s]? = a.tmps[s]?)->YZ q P ops Q K l a1 w1:=by
    intro J1 g1 a1 w1 h1 yC yP Q7 Zo Qm;refine YB hc Qn q n h1 yC (YO.vj Qm) hnd.2 (fun x hx m h1 h2=>Q7 m ?_ (vQ x (by simp [hx]) m h1 h2)) (fun J2 g2 a2 w2 h2 wY w3 Gl Xq=>?_)
    ·have vI:x.1≠i:=fun he=>hnd.1 (by rw [<-he];exact Jo.2 ⟨x,hx,rfl⟩)
     omega
    ·exact hK J2 g2 a2 w2 h2 wY (yP.trans w3) (fun m hm hf=>Gl m (fun x hx=>hm x (by simp [hx])) (Q7 m (hm (i,o) (by simp)) hf)) (Xq.trans Zo)
   show ql q P ops Q o (YZ q P ops Q K l) a w;refine ql.mono (fun a1 w1 hh=>hh.2 hh.1.2) (ql.frame (K:=fun a1 w1=>(∀ s,o.dst≠some s->a1.tmps[s]? = a.tmps[s]?)->YZ q P ops Q K l a1 w1) ?_);unfold ql;rw [yW hw]
   cases hy:IP o with
   | true=>
    left;obtain ⟨av,v,h1,h2,h3,h4⟩:=(UA hc hy zq (by rw [<-z9x hy];exact h)).out;refine ⟨rfl,v,h1,fun Qm=>?_⟩;rcases gM h4 with ⟨hd,hk⟩ | ⟨d,hd,qJ,hk⟩
    ·rw [hd] at Qm ⊢;exact TF J g a w hk zq (Ext.refl _ _) (fun _ _ hm=>hm) rfl (by rw [hd];exact Qm)
    ·rw [hd] at Qm ⊢;exact TF _ g _ w hk (zq.put qJ h2) (Ext.refl _ _) (fun m _ hm=>hm.set d (h3 m hm)) rfl (by rw [hd];exact Qm)
   | false=>
    right;refine ⟨rfl,SN (base:=base+8*i) hc zq (fun m h1 h2=>vQ (i,o) (by simp) m h1 h2) h ?_⟩;intro J1 g1 a1 w1 h1 yC yP Q7 Zo vl;exact ⟨fun h1=>vl h1,fun Qm=>TF J1 g1 a1 w1 h1 yC yP Q7 Zo Qm⟩
  have skip:xO c base dst q n R opened (Dm o.dst gF) l (J.wh o.dst) k=some r->Region.wanted o (yielded ops a.tmps)=false->YZ q P ops Q K ((i,o) :: l) a w:=by
   intro h hw;show ql q P ops Q o (YZ q P ops Q K l) a w;unfold ql;rw [hw];simp only [Z25,Lp];refine YB hc Qn q n h (zq.zd2 o.dst undef) YO.skip hnd.2 (fun x hx m h1 h2=>(vQ x (by simp [hx]) m h1 h2).wh o.dst) (fun J2 g2 a2 w2 h2 wY w3 Gl Xq=>?_);refine hK J2 g2 a2 w2 h2 wY w3 (fun m hm hf=>Gl m (fun x hx=>hm x (by simp [hx])) (hf.wh o.dst)) (Xq.trans ?_);cases o.dst <;> rfl
  simp only [xO] at h;split at h
  ·rename_i hg;exact one h (um hg)
  ·rename_i j want hg;split at h
   ·simp at h
   ·rename_i t hdt;rw [Qn] at hdt;split at h
    ·rename_i b hb;have hw:=VS (o:=o) (a:=a) hg hdt (Cu zq hb)
     cases hm:yD j opened with
     | true=>
      rw [hm] at h;simp only [zD] at h
      cases OR:(b == want) with
      | true=>
       rw [OR] at h hw
       exact one h hw
      | false=>
       rw [OR] at h hw
       exact skip h hw
     | false=>
      rw [hm] at h;simp only [zW] at h;split at h
      ·rename_i GB d rest hsp;have hl:=splitAt_eq hsp;rw [Zu] at hl
       cases Mg:(q && D3 c J GB) with
       | true=>
        rw [Mg] at h;simp only [zD] at h;have h':xO c base dst q n R (j :: opened) gF ((i,o) :: l) (J.set t (.data .bool b)) k=some r:=by
         cases b <;> exact h
        exact YB hc Qn q n h' (Uz zq hb) YO (by simp only [JU,Z2s];exact hnd) (fun x hx m h1 h2=>(vQ x hx m h1 h2).set t (by simp [z7.ids])) (fun J2 g2 a2 w2 h2 wY w3 Gl Xq=>hK J2 g2 a2 w2 h2 wY w3 (fun m hm hf=>Gl m hm (hf.set t (by simp [z7.ids]))) Xq)
       | false=>
       rw [Mg] at h;simp only [zW] at h
       cases BI:noM GB with
       | false=>rw [BI] at h;simp at h
       | true=>
        rw [BI] at h;simp only [zD,VN] at h;obtain ⟨v,hv,h⟩:=h;have jb:xO c base dst false n Bool (j :: opened) gF GB (J.set t (.data .bool b)) (fun J=>Xi J d)=some v:=by
         cases b <;> exact hv
        cases qJ:Nat.blt d c.ntmps with
        | false=>rw [qJ] at h;simp at h
        | true=>
         rw [qJ] at h;simp only [zD] at h;rw [hl,Pc];have zkq:(GB.map Prod.fst).Nodup/\(rest.map Prod.fst).Nodup/\∀ x∈GB.map Prod.fst,x∉rest.map Prod.fst:=by
          have:(((i,o) :: l).map Prod.fst).Nodup:=by simp only [JU,Z2s];exact hnd
          rw [hl,RK,Z4p] at this;exact ⟨this.1,this.2.1,fun x hx hy=>this.2.2 x hx x hy rfl⟩
         have hmem:∀ x,x∈GB\/x∈rest->x∈(i,o) :: l:=by
          intro x hx;rw [hl];exact Gt.2 hx
         have Gf:=Uz zq hb;have zu7:=YB (K:=fun a' w'=>a'.tmps[d]? = some (.bool v)/\a'.defers=[]/\a'.tmps.size=c.ntmps/\w'.os=w.os/\w'.tape=w.tape/\w'.output=w.output/\w.drawn<=w'.drawn) hc Qn false n jb Gf YO zkq.1
          (fun x hx m h1 h2=>(vQ x (hmem x (.inl hx)) m h1 h2).set t (by simp [z7.ids]))
          (fun J' g' a' w' h' qP gD _ _=>⟨Cu qP (Hv h'),qP.defers,qP.size,gD.os,gD.tape,gD.output,gD.drawn⟩)
         refine Pb (fun a1 w1 hh=>?_) GB a w (EV GB a w (Ab GB BI a w zu7));obtain ⟨⟨vl,Fx⟩,h1,h2,h3,h4,h5,h6,h7⟩:=hh;have pI:=JC GB J;have zt2:zK c.ntmps g w a (vo GB J):=by
          refine ⟨fun i av hi=>?_,?_,zq.size,zq.defers,zq.known⟩
          ·rw [pI.1];exact zq.zj i av (gp hi).1
          ·rw [pI.1];exact zq.heap
         have yC:zK c.ntmps g w1 a1 (vo GB J):=ON zt2 vl h2 h3 (fun i av hi=>Fx i (gp hi).2);have wY:zK c.ntmps g w1 a1 ((vo GB J).set d (.data .bool v)):=by
          refine ⟨fun i x hi=>?_,yC.heap,yC.size,yC.defers,yC.known⟩;simp only [St.set,KK] at hi
          cases hbq:Nat.beq i d with
          | true=>
           rw [hbq] at hi;simp only [zD,zI] at hi;subst hi;have:=zE hbq;subst this
           exact ⟨_,h1,wL v⟩
          | false=>rw [hbq] at hi;exact yC.zj i x hi
         have zlf:∀ m,zY g J m->zY g ((vo GB J).set d (.data .bool v)) m:=by
          intro m hf;have:zY g (vo GB J) m:=⟨by rw [pI.1];exact hf.z6,hf.row,hf.box,fun i av hi=>hf.zj i av (gp hi).1,fun id av hi=>hf.cells id av (by rw [<-pI.1];exact hi)⟩;exact this.set d (by simp [z7.ids])
         have yP:Ext w g w1 g:=⟨h4,h5,h6,h7,vl.size,fun b hb _=>⟨vl b hb,rfl⟩⟩;refine YB hc Qn q n h wY (fun s hs b=>by
          obtain ⟨q1,q2⟩:=Wo hs;rw [Fx s q2];exact YO s q1 b) zkq.2.1 (fun x hx m q1 q2=>zlf m (vQ x (hmem x (.inr hx)) m q1 q2)) (fun J2 g2 a2 w2 q2 wY w3 Gl Xq=>?_)
         refine hK J2 g2 a2 w2 q2 wY (yP.trans w3) (fun m hm hf=>Gl m (fun x hx=>hm x (hmem x (.inr hx))) (zlf m hf)) (Xq.trans pI.2)
      ·simp at h
    ·cases hmu:yD t gF with
     | false=>rw [hmu] at h;simp at h
     | true=>
      rw [hmu] at h;simp only [zD] at h;exact skip h (Pd hg hdt (YO t (Ki.1 hmu)))
    ·simp at h
end
end Go.Kz
