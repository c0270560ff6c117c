/-
  Cuts: what is forgotten, and how objects are numbered anew.
-/
import Derived.Test.YtmoggdcmpoobpaaGreatDoorKzY
set_option linter.unusedVariables false
set_option linter.unusedSimpArgs false
namespace Go.Kz
variable {R:Type}
theorem jB {x:Nat}:{l:List Nat}->(yE x l=true↔x∈l)
 | []=>by simp [yE]
 | y :: l=>by
  simp only [yE,pK]
  cases h:Nat.beq y x with
  | true=>simp [zE h]
  | false=>
   have je:x≠y:=by intro he;subst he;rw [Nc] at h;simp at h
   simp [je,jB (l:=l)]
theorem jG {x:Nat} {l:List Nat}:yE x l=false↔x∉l:=by
 rw [<-jB];simp
def qP (g:z8) (J:St):Prop:=∀ m,J.next<=m->zJ g J m
theorem PW {x:Nat}:{l:List Nat}->{k j:Nat}->qG x l k=some j->∃ d,j=k+d/\zF l d=some x
 | [],_,_,h=>by simp [qG] at h
 | y :: l,k,j,h=>by
  simp only [qG] at h
  cases hb:Nat.beq y x with
  | true=>
   rw [hb] at h;simp only [zB,zI] at h
   exact ⟨0,by omega,by simp [zF,zE hb]⟩
  | false=>
   rw [hb] at h;obtain ⟨d,hd,hn⟩:=PW (l:=l) h;exact ⟨d+1,by omega,hn⟩
theorem vr {x j:Nat} {l:List Nat} (h:qG x l 0=some j):zF l j=some x:=by
 obtain ⟨d,hd,hn⟩:=PW h;rw [hd,Zf];exact hn
theorem Qw {x:Nat}:{l:List Nat}->{k d:Nat}->l.Nodup->zF l d=some x->qG x l k=some (k+d)
 | [],_,d,_,h=>by cases d <;> simp [zF] at h
 | y :: l,k,0,_,h=>by
  simp only [zF,zI] at h;subst h
  simp [qG,Nc]
 | y :: l,k,d+1,hn,h=>by
  simp only [Z2u] at hn;have hm:x∈l:=jH h;have je:Nat.beq y x=false:=by
   cases hb:Nat.beq y x with
   | true=>rw [zE hb] at hn;exact absurd hm hn.1
   | false=>rfl
  simp only [qG,je,zU];rw [Qw (l:=l) hn.2 h];congr 1;omega
theorem ud {I:Type}:{l:List I}->{i:Nat}->i < l.length->∃ x,zF l i=some x
 | [],_,h=>by simp at h
 | x :: _,0,_=>⟨x,rfl⟩
 | _ :: l,i+1,h=>ud (l:=l) (by simpa using h)
theorem uH {z6:Nat->Option Obj}:(n:Nat)->(todo seen:List Nat)->seen.Nodup->(kH z6 n todo seen).Nodup
 | 0,_,_,h=>h
 | _+1,[],_,h=>h
 | n+1,x :: todo,seen,h=>by
  simp only [kH]
  cases hm:yE x seen with
  | true=>exact uH n _ _ h
  | false=>
   have hx:(seen++[x]).Nodup:=by
    rw [Z58];refine ⟨h,by simp,fun a ha b hb=>?_⟩;simp only [Mp] at hb;subst hb;intro he;subst he;exact jG.1 hm ha
   simp only [zU];split <;> exact uH n _ _ hx
def we (g:z8) (ids:List Nat):z8 where
 tag:=fun b=>match g.tag b with
  | .row i p=>(match qG i ids 0 with
   | some j=>.row j p
   | none=>.zt)
  | .box i=>(match qG i ids 0 with
   | some j=>.box j
   | none=>.zt)
  | t=>t
 sv:=fun j p=>match zF ids j with
  | some i=>g.sv i p
  | none=>undef
 qj:=fun j=>match zF ids j with
  | some i=>g.qj i
  | none=>0
section
variable {w:World} {g:z8} {ids:List Nat}
theorem xI:zT w g w (we g ids):=⟨fun b hb=>⟨by simp [we,hb],rfl⟩⟩
theorem z1v:Ext w g w (we g ids):=by
 refine ⟨rfl,rfl,rfl,yN _,yN _,fun b _ ht=>⟨rfl,?_⟩⟩;rcases ht with ht | ht <;> simp [we,ht]
theorem JD {i j:Nat} (h:zF ids j=some i) (p:Path):(we g ids).sv j p=g.sv i p:=by simp [we,h]
theorem wc {i j:Nat} (h:zF ids j=some i):(we g ids).qj j=g.qj i:=by simp [we,h]
theorem XD (hn:ids.Nodup) {i j:Nat} (h:zF ids j=some i):xl w g w (we g ids) i [] j []:=by
 have hx:=Qw (k:=0) hn h;rw [Zf] at hx;exact ⟨fun q=>JD h _,fun q b hb=>⟨by simp [we,hb,hx],rfl⟩⟩
theorem XE (hn:ids.Nodup) {i j:Nat} (h:zF ids j=some i) {b:Nat} (hb:g.tag b = .box i):(we g ids).tag b = .box j:=by
 have hx:=Qw (k:=0) hn h;rw [Zf] at hx;simp [we,hb,hx]
theorem EW {b m:Nat} (h:(∃ p,(we g ids).tag b = .row m p)\/(we g ids).tag b = .box m):m < ids.length:=by
 have key:∀ i j,qG i ids 0=some j->j < ids.length:=fun i j h=>wF (vr h)
 simp only [we] at h
 cases ht:g.tag b with
 | zt=>rw [ht] at h;simp at h
 | ro=>rw [ht] at h;simp at h
 | row i p=>
  rw [ht] at h
  cases hx:qG i ids 0 with
  | none=>simp [hx] at h
  | some j=>simp [hx] at h;rw [<-h];exact key i j hx
 | box i=>
  rw [ht] at h
  cases hx:qG i ids 0 with
  | none=>simp [hx] at h
  | some j=>simp [hx] at h;rw [<-h];exact key i j hx
theorem MR {b:Nat} (h:(we g ids).tag b≠.zt):g.tag b≠.zt:=by
 intro h';simp [we,h'] at h
structure Js (z6:qp) (ids:List Nat) (os:List Obj):Prop where
 len:os.length=ids.length
 get:∀ j i,zF ids j=some i->∃ o o',z6 i=some o/\o.vF z6 (fun i=>qG i ids 0)=some o'/\zF os j=some o'
theorem Q6 {Y:Nat->Option Nat} {z6:qp}:{l:List Nat}->{os:List Obj}->JC Y z6 l=some os->
  os.length=l.length/\∀ j i,zF l j=some i->∃ o o',z6 i=some o/\o.vF z6 Y=some o'/\zF os j=some o'
 | [],os,h=>by
  simp only [JC,zI] at h;subst h
  exact ⟨rfl,fun j i h=>by simp [zF] at h⟩
 | x :: l,os,h=>by
  simp only [JC] at h;split at h
  ·rename_i o os' ho hos;simp only [zI] at h;subst h;obtain ⟨h1,h2⟩:=Q6 hos;refine ⟨by simp [h1],fun j i hj=>?_⟩
   cases j with
   | zero=>
    simp only [zF,zI] at hj;subst hj;simp only [WB] at ho;obtain ⟨o0,h3,h4⟩:=ho
    exact ⟨o0,o,h3,h4,rfl⟩
   | succ j=>exact h2 j i hj
  ·simp at h
theorem XC {z6:qp} {Y:Nat->Option Nat}:{a a':z7}->a.vF z6 Y=some a'->a'.sk=a.sk
 | .data t d,a',h=>by simp only [z7.vF,zI] at h;subst h;rfl
 | .qD,a',h=>by simp only [z7.vF,zI] at h;subst h;rfl
 | .ref i p ep,a',h=>by
  simp only [z7.vF] at h;split at h
  ·rename_i t l e zp
   cases hb:Nat.beq e ep with
   | false=>rw [hb] at h;simp at h
   | true=>rw [hb] at h;simp only [zB,wU] at h;obtain ⟨j,hj,rfl⟩:=h;rfl
  ·simp at h
 | .view i p ep x y,a',h=>by
  simp only [z7.vF] at h;split at h
  ·rename_i t l e zp
   cases hb:Nat.beq e ep with
   | false=>rw [hb] at h;simp at h
   | true=>rw [hb] at h;simp only [zB,wU] at h;obtain ⟨j,hj,rfl⟩:=h;rfl
  ·simp at h
 | .zq i p,a',h=>by simp only [z7.vF,wU] at h;obtain ⟨j,hj,rfl⟩:=h;rfl
 | .qz i,a',h=>by simp only [z7.vF,wU] at h;obtain ⟨j,hj,rfl⟩:=h;rfl
 | .nv pt i p ep,a',h=>by
  simp only [z7.vF] at h;split at h
  ·rename_i t l e i' zp
   cases hb:Nat.beq (Iy false p e i') ep with
   | false=>rw [hb] at h;simp at h
   | true=>rw [hb] at h;simp only [zB,wU] at h;obtain ⟨j,hj,rfl⟩:=h;rfl
  ·simp at h
 | .qd f c,a',h=>by simp only [z7.vF,wU] at h;obtain ⟨j,hj,rfl⟩:=h;rfl
 | .V7 f c,a',h=>by simp only [z7.vF,wU] at h;obtain ⟨j,hj,rfl⟩:=h;rfl
 | .agg c,a',h=>by
  simp only [z7.vF,wU] at h;obtain ⟨c',hc,rfl⟩:=h
  simp only [z7.sk,XC hc]
 | .pr a b,a',h=>by
  simp only [z7.vF] at h;split at h
  ·rename_i x y hx hy;simp only [zI] at h;subst h;simp only [z7.sk,XC hx,XC hy]
  ·simp at h
 | .un,a',h=>by simp only [z7.vF,zI] at h;subst h;rfl
 | .vA _ _ _,a',h=>by simp [z7.vF] at h
 | .jV _,a',h=>by simp [z7.vF] at h
theorem PI {z6:qp} {Y:Nat->Option Nat} {a:z7} (h:a.wI=false):xe z6 Y a=a.vF z6 Y:=by
 cases a <;> first | rfl | simp [z7.wI] at h
theorem NB {z6:qp} {Y:Nat->Option Nat} {a a':z7} (h:xe z6 Y a=some a'):a'.sk=a.sk:=by
 cases ht:a.wI with
 | false=>rw [PI ht] at h;exact XC h
 | true=>
  cases a <;> simp [z7.wI] at ht;simp only [xe,wU] at h;obtain ⟨c,hc,rfl⟩:=h;simp only [z7.sk,XC hc]
theorem Fb {z6:qp} {Y:Nat->Option Nat} {Gx:Nat} {n:Int} {left:List Int} {cur:Int} {a':z7} (h:xe z6 Y (uV Gx n left cur)=some a'):∃ j,Y Gx=some j/\a'=uV j n left cur:=by
 simp only [uV,xe,z7.vF,wU] at h;obtain ⟨c,hc,rfl⟩:=h
 cases hm:Y Gx with
 | none=>rw [hm] at hc;simp at hc
 | some j=>
  rw [hm] at hc;simp only [Z23,zI] at hc;exact ⟨j,rfl,by rw [<-hc];rfl⟩
theorem Y9 {z6:qp} {os:List Obj} (hn:ids.Nodup) (ho:Js z6 ids os):{a a':z7}->{cs:List Value}->a.vF z6 (fun i=>qG i ids 0)=some a'->jK w g z6 a cs->
  jK w (we g ids) (zF os) a' cs/\a'.sk=a.sk/\a'.isAgg=a.isAgg/\(∀ m∈a'.ids,m < ids.length)/\(∀ c,a≠.jV c)/\(∀ x y,a' = .pr x y->∃ x' y',a = .pr x' y')/\(a' = .un->a = .un)
 | .data t d,a',cs,h,zS=>by
  simp only [z7.vF,zI] at h;subst h
  exact ⟨⟨zS.1,zS.2.kept xI⟩,rfl,rfl,by simp [z7.ids],by simp,by simp,by simp⟩
 | .qD,a',cs,h,zS=>by
  simp only [z7.vF,zI] at h;subst h
  exact ⟨zS,rfl,rfl,by simp [z7.ids],by simp,by simp,by simp⟩
 | .ref i p ep,a',cs,h,zS=>by
  simp only [z7.vF] at h;split at h
  ·rename_i t l e zp
   cases hb:Nat.beq e ep with
   | false=>rw [hb] at h;simp at h
   | true=>
    rw [hb] at h;have he:=zE hb;subst he;simp only [zB,wU] at h;obtain ⟨j,hj,rfl⟩:=h;have VP:=vr hj;obtain ⟨v,hv,qE,hx⟩:=zS;refine ⟨⟨v,hv,qE,fun t' l' e' he'=>?_⟩,rfl,rfl,by simpa [z7.ids] using wF VP,by simp,by simp,by simp⟩;obtain ⟨o,o',h1,h2,h3⟩:=ho.get j i VP;rw [zp] at h1;simp only [zI] at h1;subst h1;simp only [Obj.vF,zI] at h2;subst h2;rw [h3] at he';simp only [zI,Obj.row.injEq] at he';obtain ⟨_,_,rfl⟩:=he';exact ⟨yN _,fun _=>by rw [JD VP];exact (hx _ _ _ zp).2 rfl⟩
  ·simp at h
 | .view i p ep x y,a',cs,h,zS=>by
  simp only [z7.vF] at h;split at h
  ·rename_i t l e zp
   cases hb:Nat.beq e ep with
   | false=>rw [hb] at h;simp at h
   | true=>
    rw [hb] at h;have he:=zE hb;subst he;simp only [zB,wU] at h;obtain ⟨j,hj,rfl⟩:=h;have VP:=vr hj;obtain ⟨v,hv,qE,hx⟩:=zS;refine ⟨⟨v,hv,qE,fun t' l' e' he'=>?_⟩,rfl,rfl,by simpa [z7.ids] using wF VP,by simp,by simp,by simp⟩;obtain ⟨o,o',h1,h2,h3⟩:=ho.get j i VP;rw [zp] at h1;simp only [zI] at h1;subst h1;simp only [Obj.vF,zI] at h2;subst h2;rw [h3] at he';simp only [zI,Obj.row.injEq] at he';obtain ⟨rfl,hl,rfl⟩:=he';have hl:=Z35 hl;subst hl;exact ⟨yN _,fun _=>by rw [JD VP];exact (hx _ _ _ zp).2 rfl⟩
  ·simp at h
 | .zq i p,a',cs,h,zS=>by
  simp only [z7.vF,wU] at h;obtain ⟨j,hj,rfl⟩:=h;have VP:=vr hj;obtain ⟨v,hv,qE,hx⟩:=zS;refine ⟨⟨v,hv,qE,fun y hy=>?_⟩,rfl,rfl,by simpa [z7.ids] using wF VP,by simp,by simp,by simp⟩;obtain ⟨o,o',h1,h2,h3⟩:=ho.get j i VP;rw [h3] at hy;simp only [zI] at hy;subst hy
  cases o with
  | row t l e=>simp [Obj.vF] at h2
  | map k v m=>simp [Obj.vF] at h2
  | nest t l e i h=>cases h <;> simp [Obj.vF] at h2
  | cell z=>
   simp only [Obj.vF,wU,Obj.cell.injEq] at h2;obtain ⟨z',hz,rfl⟩:=h2;obtain ⟨off,s,jZ,pR⟩:=hx _ h1
   exact ⟨off,s,by rw [NB hz];exact jZ,by rw [wc VP];exact pR⟩
 | .qz i,a',cs,h,zS=>by
  simp only [z7.vF,wU] at h;obtain ⟨j,hj,rfl⟩:=h;have VP:=vr hj;obtain ⟨v,hv,qE,hx⟩:=zS;refine ⟨⟨v,hv,qE,fun kt vt m hm=>?_⟩,rfl,rfl,by simpa [z7.ids] using wF VP,by simp,by simp,by simp⟩;obtain ⟨o,o',h1,h2,h3⟩:=ho.get j i VP;rw [h3] at hm;simp only [zI] at hm;subst hm
  cases o with
  | row t l e=>simp [Obj.vF] at h2
  | cell z=>simp [Obj.vF] at h2
  | nest t l e i h=>cases h <;> simp [Obj.vF] at h2
  | map k' v' m'=>
   rw [wc VP];exact hx _ _ _ h1
 | .nv pt i p ep,a',cs,h,zS=>by
  simp only [z7.vF] at h;split at h
  ·rename_i t l e i' zp
   cases hb:Nat.beq (Iy false p e i') ep with
   | false=>rw [hb] at h;simp at h
   | true=>
    rw [hb] at h;have he:=zE hb;simp only [zB,wU] at h;obtain ⟨j,hj,rfl⟩:=h;have VP:=vr hj;obtain ⟨v,hv,qE,hx⟩:=zS;refine ⟨⟨v,hv,qE,fun t' l' e' i'' h'' he'=>?_⟩,rfl,rfl,by simpa [z7.ids] using wF VP,by simp,by simp,by simp⟩;obtain ⟨o,o',h1,h2,h3⟩:=ho.get j i VP;rw [zp] at h1;simp only [zI] at h1;subst h1;simp only [Obj.vF,zI] at h2;subst h2;rw [h3] at he';simp only [zI,Obj.nest.injEq] at he';obtain ⟨_,_,rfl,rfl,_⟩:=he';refine ⟨jt _,fun _=>⟨fun _=>by rw [JD VP];exact ((hx _ _ _ _ _ zp).2 he).1 rfl,fun h=>(by simp at h)⟩⟩
  ·simp at h
 | .qd f c,a',cs,h,zS=>by
  simp only [z7.vF,wU] at h;obtain ⟨c',hc,rfl⟩:=h;obtain ⟨vs,hv,hx⟩:=zS;obtain ⟨h1,h2,_,h3,_⟩:=Y9 hn ho hc hx
  exact ⟨⟨vs,hv,h1⟩,rfl,rfl,h3,by simp,by simp,by simp⟩
 | .V7 t c,a',cs,h,zS=>by
  simp only [z7.vF,wU] at h;obtain ⟨c',hc,rfl⟩:=h;obtain ⟨x,DH,hv,hx,hxv⟩:=zS;obtain ⟨h1,h2,ve,h3,_⟩:=Y9 hn ho hc hx
  exact ⟨⟨x,DH,hv,h1,by rw [ve];exact hxv⟩,rfl,rfl,h3,by simp,by simp,by simp⟩
 | .agg c,a',cs,h,zS=>by
  simp only [z7.vF,wU] at h;obtain ⟨c',hc,rfl⟩:=h;obtain ⟨h1,h2,_,h3,_⟩:=Y9 hn ho hc (show jK w g z6 c cs from zS)
  exact ⟨h1,h2,rfl,h3,by simp,by simp,by simp⟩
 | .pr a b,a',cs,h,zS=>by
  simp only [z7.vF] at h;split at h
  ·rename_i x y hx hy;simp only [zI] at h;subst h;obtain ⟨c1,c2,uR,ok1,ok2⟩:=zS;obtain ⟨h1,h2,_,h3,_⟩:=Y9 hn ho hx ok1;obtain ⟨k1,k2,_,k3,_⟩:=Y9 hn ho hy ok2;refine ⟨⟨c1,c2,uR,h1,k1⟩,by simp [z7.sk,h2,k2],rfl,fun m hm=>?_,by simp,fun _ _ _=>⟨a,b,rfl⟩,by simp⟩;simp only [z7.ids,U5] at hm;rcases hm with hm | hm
   ·exact h3 m hm
   ·exact k3 m hm
  ·simp at h
 | .un,a',cs,h,zS=>by
  simp only [z7.vF,zI] at h;subst h
  exact ⟨zS,rfl,rfl,by simp [z7.ids],by simp,by simp,by simp⟩
 | .vA _ _ _,a',cs,h,_=>by simp [z7.vF] at h
 | .jV _,a',cs,h,_=>by simp [z7.vF] at h
theorem Ox {z6:qp} {os:List Obj} (hn:ids.Nodup) (ho:Js z6 ids os) {a a':z7} {v:Value} (h:a.vF z6 (fun i=>qG i ids 0)=some a') (hv:zr w g z6 a v) :
  zr w (we g ids) (zF os) a' v/\∀ m∈a'.ids,m < ids.length:=by
 have ht:∀ c,a≠.jV c:=by intro c hc;subst hc;simp [z7.vF] at h
 obtain ⟨cs,zS,Qf⟩:=kX hv ht;obtain ⟨h1,h2,h3,h4,h5,h6,h7⟩:=Y9 hn ho h zS;refine ⟨yB h1 (by rw [h3];exact Qf) (fun x y he=>?_) (fun he=>?_),h4⟩
 ·obtain ⟨x',y',rfl⟩:=h6 x y he;simp only [zr] at hv
 ·have:=h7 he;subst this;simp only [zr] at hv
theorem OZ {z6:qp} {os:List Obj} (hn:ids.Nodup) (ho:Js z6 ids os) {i j:Nat} (hj:zF ids j=some i) {o o':Obj} (h:o.vF z6 (fun i=>qG i ids 0)=some o') (zS:zo w g z6 i o) :
  zo w (we g ids) (zF os) j o'/\∀ y,o' = .cell y->∀ m∈y.ids,m < ids.length:=by
 cases o with
 | row t l e=>
  simp only [Obj.vF,zI] at h;subst h;refine ⟨⟨zS.1,?_⟩,by simp⟩;rw [JD hj]
  exact zH.move xI (o:=some (i,[])) (o':=some (j,[])) (XD hn hj) zS.2
 | cell y=>
  simp only [Obj.vF,wU] at h;obtain ⟨y',hy,rfl⟩:=h
  cases YS:y.wI with
  | true=>
   cases p4:y.wL with
   | true=>
    obtain ⟨x,rfl⟩:=Au p4;obtain ⟨c,e,h1,h2,h3⟩:=(zo.p5 p4).1 zS;simp only [xe,wU] at hy;obtain ⟨x',hx,rfl⟩:=hy;obtain ⟨k1,_,_,k2,_⟩:=Y9 hn ho hx h3;have Ia:(z7.jV x').wL=true:=by
     cases x <;> simp [z7.wL] at p4
     ·simp only [z7.vF,wU] at hx;obtain ⟨x2,hx,rfl⟩:=hx;rfl
     ·simp only [z7.vF,wU] at hx;obtain ⟨x2,hx,rfl⟩:=hx;rfl
    refine ⟨(zo.p5 Ia).2 ⟨c,e,by rw [wc hj];exact h1,?_,k1⟩,fun z hz=>?_⟩
    ·rw [wc hj];exact (xI (w:=w).qj _ h2).1
    ·simp only [Obj.cell.injEq] at hz
     subst hz;exact k2
   | false=>
   obtain ⟨Gx,n,bm,seen,last,rfl,h1,h2,h3,h4⟩:=(zo.iter YS p4).1 zS;obtain ⟨j',ZD,rfl⟩:=Fb hy;have VP:=vr ZD;refine ⟨(zo.iter rfl).2 ⟨j',n,bm,seen,last,rfl,by rw [wc hj];exact h1,by rw [wc hj];exact XE hn hj h2,h3,fun kt vt m hm=>?_⟩,fun z hz=>?_⟩
   ·obtain ⟨o,o',k1,k2,k3⟩:=ho.get j' Gx VP;rw [k3] at hm;simp only [zI] at hm;subst hm
    cases o with
    | row t l e=>simp [Obj.vF] at k2
    | cell z=>simp [Obj.vF] at k2
    | nest t l e i h=>cases h <;> simp [Obj.vF] at k2
    | map k' v' m'=>rw [wc VP];exact h4 _ _ _ k1
   ·simp only [Obj.cell.injEq] at hz;subst hz
    simpa [uV,z7.ids] using wF VP
  | false=>
  rw [PI YS] at hy;obtain ⟨c,e,h1,h2,h3⟩:=zS.out YS;obtain ⟨k1,_,_,k2,_⟩:=Y9 hn ho hy h3;refine ⟨zo.mk ⟨c,e,by rw [wc hj];exact h1,by rw [wc hj];exact XE hn hj h2,k1⟩,fun z hz=>?_⟩;simp only [Obj.cell.injEq] at hz
  subst hz;exact k2
 | map kt vt m=>
  simp only [Obj.vF,zI] at h;subst h;obtain ⟨es,ck,h1,h2,h3,h4,h5,h6⟩:=zS
  exact ⟨⟨es,ck,by rw [wc hj];exact h1,by rw [wc hj];exact XE hn hj h2,h3,h4,h5.kept xI,h6⟩,by simp⟩
 | nest t l e i' hole=>
  cases hole with
  | some p=>simp [Obj.vF] at h
  | none=>
   simp only [Obj.vF,zI] at h;subst h;refine ⟨?_,by simp⟩;show zH w (we g ids) (some (j,[])) (.sl true t) l [(we g ids).sv j []];rw [JD hj];exact zH.move xI (o:=some (i,[])) (o':=some (j,[])) (XD hn hj) (show zH w g (some (i,[])) (.sl true t) l [g.sv i []] from zS)
end
theorem Vu {z6:qp} {Y:Nat->Option Nat}:{l l':List (Nat×z7)}->YZ z6 Y l=some l'->∀ i a',yO l' i=some a'->∃ a,yO l i=some a/\a.vF z6 Y=some a'
 | [],l',h,i,a',hi=>by
  simp only [YZ,zI] at h;subst h
  simp [yO] at hi
 | (j,a) :: l,l',h,i,a',hi=>by
  simp only [YZ] at h;split at h
  ·rename_i a1 l1 h1 h2;simp only [zI] at h;subst h;simp only [yO] at hi ⊢
   cases hb:Nat.beq j i with
   | true=>
    rw [hb] at hi;simp only [zB,zI] at hi;subst hi
    exact ⟨a,by simp,h1⟩
   | false=>
    rw [hb] at hi;simp only [zU] at hi ⊢;exact Vu h2 i a' hi
  ·simp at h
theorem YF {J:St}:{live:List Nat}->{l:List (Nat×z7)}->ZU J live=some l->∀ i a,yO l i=some a->J.zk i=some a
 | [],l,h,i,a,hi=>by
  simp only [ZU,zI] at h;subst h
  simp [yO] at hi
 | j :: live,l,h,i,a,hi=>by
  simp only [ZU] at h;split at h
  ·rename_i a1 l1 h1 h2;simp only [zI] at h;subst h;simp only [yO] at hi
   cases hb:Nat.beq j i with
   | true=>
    rw [hb] at hi;simp only [zB,zI] at hi;subst hi
    rw [<-zE hb];exact h1
   | false=>
    rw [hb] at hi;exact YF h2 i a hi
  ·simp at h
section
variable {n:Nat} {w:World} {a:Act} {g:z8} {J:St} {r:R}
theorem z1u {k:List (Nat×z7)->List Obj->Option R} {l:List (Nat×z7)} (hl:∀ i a,yO l i=some a->J.zk i=some a) (zy:zG n g w a J) (h:MO l J k=some r) :
  ∃ sl os g',k sl os=some r/\zG n g' w a (St.of sl os)/\Ext w g w g'/\qP g' (St.of sl os):=by
 unfold MO at h;simp only at h;split at h
 ·rename_i l' os hs hos;have hnd:(kH J.z6 100 (l.flatMap fun x=>x.2.ids) []).Nodup:=uH _ _ _ (by simp);generalize gB:kH J.z6 100 (l.flatMap fun x=>x.2.ids) []=ids at *;obtain ⟨hlen,vD⟩:=Q6 hos;have qu:Js J.z6 ids os:=⟨hlen,vD⟩;have zgj:∀ i av,yO l' i=some av->∃ v,a.tmps[i]? = some v/\zr w (we g ids) (zF os) av v/\∀ m∈av.ids,m < ids.length:=by
   intro i av hi;obtain ⟨a0,h1,h2⟩:=Vu hs i av hi;obtain ⟨v,hv,zS⟩:=zy.zk i a0 (hl i a0 h1);obtain ⟨k1,k2⟩:=Ox hnd qu h2 zS;exact ⟨v,hv,k1,k2⟩
  have zp:∀ j o',zF os j=some o'->zo w (we g ids) (zF os) j o'/\∀ y,o' = .cell y->∀ m∈y.ids,m < ids.length:=by
   intro j o' hj;obtain ⟨i,hi⟩:=ud (l:=ids) (i:=j) (by rw [<-hlen];exact wF hj);obtain ⟨o,o2,h1,h2,h3⟩:=vD j i hi;rw [hj] at h3;simp only [zI] at h3;subst h3;exact OZ hnd qu hi h2 (zy.heap.z6 i o h1)
  refine ⟨l',os,we g ids,h,⟨fun i av hi=>?_,⟨fun j o' hj=>(zp j o' hj).1,fun b hb=>zy.heap.tags b (MR hb)⟩,zy.size,zy.defers,zy.known.kept xI⟩,z1v,fun m hm=>?_⟩
  ·obtain ⟨v,h1,h2,_⟩:=zgj i av hi;exact ⟨v,h1,h2⟩
  ·have AK:ids.length<=m:=by rw [<-hlen];exact hm
   refine ⟨?_,fun b p hb=>?_,fun b hb=>?_,fun i av hi hmem=>?_,fun j y hj hmem=>?_⟩
   ·cases hc:zF os m with
    | none=>exact hc
    | some o=>have:=wF hc;omega
   ·have:=EW (.inl ⟨p,hb⟩);omega
   ·have:=EW (.inr hb);omega
   ·obtain ⟨v,_,_,h3⟩:=zgj i av hi;have:=h3 m hmem;omega
   ·have:=(zp j _ hj).2 y rfl m hmem;omega
 ·simp at h
end
theorem z1d {a b:Step} (h:z1e a b=true):a=b:=by
 cases a <;> cases b <;> simp [z1e] at h <;> rfl
theorem Ho:{p q:Path}->D4 p q=true->p=q
 | [],[],_=>rfl
 | a :: p,b :: q,h=>by
  simp only [D4,zA] at h
  rw [z1d h.1,Ho h.2]
 | [],_ :: _,h=>by simp [D4] at h
 | _ :: _,[],h=>by simp [D4] at h
theorem y8 {b:Bool} {x:Option R} {r:R} (h:cond b x none=some r):b=true/\x=some r:=by
 cases b <;> simp_all
theorem zX.vL:(p:zX)->{a:z7}->{k:p.den->Option R}->{r:R}->p.take a k=some r->∃ d,a=p.mk d/\k d=some r
 | .val t,a,k,r,h=>by
  cases a with
  | data u d=>
   simp only [zX.take] at h;replace h:=qe h;obtain ⟨rfl,h⟩:=h
   exact ⟨d,rfl,h⟩
  | _=>simp [zX.take] at h
 | .qD,a,k,r,h=>by
  cases a with
  | qD=>exact ⟨(),rfl,h⟩
  | _=>simp [zX.take] at h
 | .ref id,a,k,r,h=>by
  cases a with
  | ref vY p ep=>
   cases p with
   | nil=>
    simp only [zX.take] at h;replace h:=y8 h;obtain ⟨hb,h⟩:=h;simp only [zA,QR] at hb;obtain ⟨rfl,rfl⟩:=hb
    exact ⟨(),rfl,h⟩
   | cons s q=>simp [zX.take] at h
  | _=>simp [zX.take] at h
 | .view id,a,k,r,h=>by
  cases a with
  | view vY p ep x y=>
   cases p with
   | nil=>
    simp only [zX.take] at h;replace h:=y8 h;obtain ⟨hb,h⟩:=h;simp only [zA,QR] at hb;obtain ⟨rfl,rfl⟩:=hb
    exact ⟨(x,y),rfl,h⟩
   | cons s q=>simp [zX.take] at h
  | _=>simp [zX.take] at h
 | .zq id p,a,k,r,h=>by
  cases a with
  | zq vY p'=>
   simp only [zX.take] at h;replace h:=y8 h;obtain ⟨hb,h⟩:=h;simp only [zA,QR] at hb;obtain ⟨rfl,hb⟩:=hb;obtain rfl:=Ho hb
   exact ⟨(),rfl,h⟩
  | _=>simp [zX.take] at h
 | .qz id,a,k,r,h=>by
  cases a with
  | qz vY=>
   simp only [zX.take] at h;replace h:=y8 h;obtain ⟨hb,h⟩:=h;simp only [QR] at hb;subst hb
   exact ⟨(),rfl,h⟩
  | _=>simp [zX.take] at h
 | .nv id,a,k,r,h=>by
  cases a with
  | nv pt vY p ep=>
   cases pt with
   | true=>simp [zX.take] at h
   | false=>
    cases p with
    | nil=>
     simp only [zX.take] at h;replace h:=y8 h;obtain ⟨hb,h⟩:=h;simp only [zA,QR] at hb;obtain ⟨rfl,rfl⟩:=hb
     exact ⟨(),rfl,h⟩
    | cons s q=>simp [zX.take] at h
  | _=>simp [zX.take] at h
 | .nvi id,a,k,r,h=>by
  cases a with
  | nv pt vY p ep=>
   cases pt with
   | true=>simp [zX.take] at h
   | false=>
    cases p with
    | nil=>simp [zX.take] at h
    | cons s q=>
     cases q with
     | cons s' q'=>cases s <;> simp [zX.take] at h
     | nil=>
      cases s with
      | fst=>simp [zX.take] at h
      | snd=>simp [zX.take] at h
      | idx i=>
       simp only [zX.take] at h;replace h:=y8 h;obtain ⟨hb,h⟩:=h;simp only [zA,QR] at hb;obtain ⟨rfl,rfl⟩:=hb
       exact ⟨i,rfl,h⟩
  | _=>simp [zX.take] at h
 | .qd f c,a,k,r,h=>by
  cases a with
  | qd g d=>
   simp only [zX.take] at h;replace h:=y8 h;obtain ⟨hb,h⟩:=h;simp only [QR] at hb;subst hb;replace h:=zX.vL c h;obtain ⟨d',rfl,h⟩:=h
   exact ⟨d',rfl,h⟩
  | _=>simp [zX.take] at h
 | .V7 f c,a,k,r,h=>by
  cases a with
  | V7 g d=>
   simp only [zX.take] at h;replace h:=y8 h;obtain ⟨hb,h⟩:=h;simp only [QR] at hb;subst hb;replace h:=zX.vL c h;obtain ⟨d',rfl,h⟩:=h
   exact ⟨d',rfl,h⟩
  | _=>simp [zX.take] at h
 | .agg c,a,k,r,h=>by
  cases a with
  | agg d=>
   simp only [zX.take] at h;replace h:=zX.vL c h;obtain ⟨d',rfl,h⟩:=h
   exact ⟨d',rfl,h⟩
  | _=>simp [zX.take] at h
 | .pr p q,a,k,r,h=>by
  cases a with
  | pr x y=>
   simp only [zX.take] at h;replace h:=zX.vL p h;obtain ⟨d,rfl,h⟩:=h;replace h:=zX.vL q h;obtain ⟨e,rfl,h⟩:=h
   exact ⟨(d,e),rfl,h⟩
  | _=>simp [zX.take] at h
 | .un,a,k,r,h=>by
  cases a with
  | un=>exact ⟨(),rfl,h⟩
  | _=>simp [zX.take] at h
theorem yK.vL (o:yK) {x:Obj} {k:o.den->Option R} {r:R} (h:o.take x k=some r):∃ d,x=o.mk d/\k d=some r:=by
 cases o with
 | row t=>
  cases x with
  | row u l ep=>
   simp only [yK.take] at h;replace h:=y8 h;obtain ⟨hb,h⟩:=h;simp only [QR] at hb;subst hb;replace h:=qe h;obtain ⟨he,h⟩:=h;simp only [Ty.sl.injEq,Vq] at he;subst he
   exact ⟨l,rfl,h⟩
  | _=>simp [yK.take] at h
 | cell p=>
  cases x with
  | cell a=>
   simp only [yK.take] at h;replace h:=zX.vL p h;obtain ⟨d,rfl,h⟩:=h
   exact ⟨d,rfl,h⟩
  | _=>simp [yK.take] at h
 | map kt vt=>
  cases x with
  | map Aj X9 m=>
   simp only [yK.take,zhe] at h;split at h
   ·rename_i h1 h2 _ _;obtain rfl:=h1.down;obtain rfl:=h2.down;exact ⟨m,rfl,h⟩
   ·simp at h
  | _=>simp [yK.take] at h
 | nest t=>
  cases x with
  | nest u l e i hole=>
   cases hole with
   | some p=>simp [yK.take] at h
   | none=>
    simp only [yK.take] at h;replace h:=y8 h;obtain ⟨hb,h⟩:=h;simp only [zA,QR] at hb;obtain ⟨rfl,rfl⟩:=hb;replace h:=qe h;obtain ⟨he,h⟩:=h;simp only [Ty.sl.injEq,Vq] at he;subst he
    exact ⟨l,rfl,h⟩
  | _=>simp [yK.take] at h
 | iter id=>
  cases x with
  | cell a=>
   simp only [yK.take] at h;split at h
   ·rename_i hq _ _;cases hq
   ·rename_i hq _ _;cases hq
   ·rename_i hq _ _;cases hq
   ·rename_i hq _ _;cases hq
   ·rename_i id1 id2 n left cur k1 hq1 TK;cases hq1;cases TK;replace h:=y8 h;obtain ⟨hb,h⟩:=h;simp only [QR] at hb;subst hb;exact ⟨(n,left,cur),rfl,h⟩
   ·rename_i hq _ _;cases hq
   ·simp at h
  | _=>simp [yK.take] at h
 | p5 p=>
  cases x with
  | cell a=>
   simp only [yK.take] at h;split at h
   ·rename_i hq _ _;cases hq
   ·rename_i hq _ _;cases hq
   ·rename_i hq _ _;cases hq
   ·rename_i hq _ _;cases hq
   ·rename_i hq _ _;cases hq
   ·rename_i p1 a1 k1 hq0 hq1 TK;cases hq0;cases hq1;cases TK;replace h:=zX.vL p h;obtain ⟨d,rfl,h⟩:=h;exact ⟨d,rfl,h⟩
   ·simp at h
  | _=>simp [yK.take] at h
theorem Y0:(l:List (Nat×zX))->{m:List (Nat×z7)}->{k:Zp l->Option R}->{r:R}->GG l m k=some r->∃ d,m=vW l d/\k d=some r
 | [],[],k,r,h=>⟨(),rfl,h⟩
 | [],_ :: _,k,r,h=>by simp [GG] at h
 | _ :: _,[],k,r,h=>by simp [GG] at h
 | (i,p) :: l,(j,a) :: m,k,r,h=>by
  simp only [GG] at h;replace h:=y8 h;obtain ⟨hb,h⟩:=h;simp only [QR] at hb;subst hb;replace h:=zX.vL p h;obtain ⟨d,rfl,h⟩:=h;replace h:=Y0 l h;obtain ⟨e,rfl,h⟩:=h;exact ⟨(d,e),rfl,h⟩
theorem xL:(l:List yK)->{m:List Obj}->{k:VZ l->Option R}->{r:R}->Vc l m k=some r->∃ d,m=wQ l d/\k d=some r
 | [],[],k,r,h=>⟨(),rfl,h⟩
 | [],_ :: _,k,r,h=>by simp [Vc] at h
 | _ :: _,[],k,r,h=>by simp [Vc] at h
 | o :: l,x :: m,k,r,h=>by
  simp only [Vc] at h;replace h:=yK.vL o h;obtain ⟨d,rfl,h⟩:=h;replace h:=xL l h;obtain ⟨e,rfl,h⟩:=h;exact ⟨(d,e),rfl,h⟩
end Go.Kz
namespace Go.Kz
variable {R:Type}
def yM (x:Bool) (g:z8) (ids:List Nat):z8:={ we g ids with
 tag:=fun b=>match g.tag b with
  | .row i p=>(match qG i ids 0 with
   | some j=>.row j p
   | none=>if x then .ro else .zt)
  | .box i=>(match qG i ids 0 with
   | some j=>.box j
   | none=>if x then .ro else .zt)
  | t=>t }
section
variable {w:World} {g:z8} {ids:List Nat} {x:Bool}
theorem K9 {b:Nat} (h:(we g ids).tag b≠.zt):(yM x g ids).tag b=(we g ids).tag b:=by
 simp only [we,yM] at h ⊢
 cases ht:g.tag b with
 | zt=>rfl
 | ro=>rfl
 | row i p=>
  rw [ht] at h
  cases hx:qG i ids 0 with
  | none=>simp [hx] at h
  | some j=>simp [hx]
 | box i=>
  rw [ht] at h
  cases hx:qG i ids 0 with
  | none=>simp [hx] at h
  | some j=>simp [hx]
theorem K8:zT w (we g ids) w (yM x g ids):=⟨fun b hb=>⟨by rw [K9 (by rw [hb];simp)];exact hb,rfl⟩⟩
theorem A8 (id:Nat):Zh w (we g ids) w (yM x g ids) id:=by
 refine ⟨⟨fun _=>rfl,fun q b hb=>⟨by rw [K9 (by rw [hb];simp)];exact hb,rfl⟩⟩,rfl,fun hb=>⟨by rw [K9 (by rw [hb];simp)];exact hb,rfl⟩⟩
theorem A9 (id:Nat) (o:Option Obj):qv (we g ids) (yM x g ids) id o o:=qv.same (w:=default) (w':=default) (A8 id)
theorem ZX {b:Nat} (h:g.tag b = .zt\/g.tag b = .ro):(yM x g ids).tag b=g.tag b:=by
 rcases h with h | h <;> simp [yM,h]
theorem Ix {b:Nat} (h:(yM x g ids).tag b≠.zt):g.tag b≠.zt:=by
 intro h';simp [yM,h'] at h
theorem Iu {b m:Nat} (h:(∃ p,(yM x g ids).tag b = .row m p)\/(yM x g ids).tag b = .box m):m < ids.length:=by
 refine EW (g:=g) (b:=b) ?_;by_cases hr:(we g ids).tag b = .zt
 ·exfalso;simp only [we,yM] at h hr
  cases ht:g.tag b with
  | zt=>rw [ht] at h;simp at h
  | ro=>rw [ht] at hr;simp at hr
  | row i p=>
   rw [ht] at h hr
   cases hx:qG i ids 0 with
   | none=>cases x <;> simp [hx] at h
   | some j=>simp [hx] at hr
  | box i=>
   rw [ht] at h hr
   cases hx:qG i ids 0 with
   | none=>cases x <;> simp [hx] at h
   | some j=>simp [hx] at hr
 ·rw [K9 hr] at h;exact h
theorem uf {b i:Nat} (h:(∃ p,g.tag b = .row i p)\/g.tag b = .box i) (hi:i∉ids):(yM x g ids).tag b=if x then .ro else .zt:=by
 have hx:qG i ids 0=none:=by
  cases h':qG i ids 0 with
  | none=>rfl
  | some j=>exact absurd (jH (vr h')) hi
 rcases h with ⟨p,h⟩ | h <;> simp [yM,h,hx]
theorem z2n {t:Ty} {d:t.den} {cs:List Value} (h:zH w (Ci { g with tag:=fun b=>match g.tag b with
  | .row i p=>if i∈ids then .zt else .row i p
  | .box i=>if i∈ids then .zt else .box i
  | t=>t }) none t d cs):zH w (yM true g ids) none t d cs:=by
 refine h.kept ⟨fun b hb=>⟨?_,rfl⟩⟩;simp only [Ci] at hb
 cases ht:g.tag b with
 | zt=>simp [ht] at hb
 | ro=>simp [yM,ht]
 | row i p=>
  by_cases hi:i∈ids
  ·simp [ht,hi] at hb
  ·rw [uf (.inl ⟨p,ht⟩) hi];rfl
 | box i=>
  by_cases hi:i∈ids
  ·simp [ht,hi] at hb
  ·rw [uf (.inr ht) hi];rfl
end
section
variable {w:World} {g:z8} {J:St}
def VA (g:z8) (ids:List Nat):z8:={ g with tag:=fun b=>match g.tag b with
 | .row i p=>if i∈ids then .zt else .row i p
 | .box i=>if i∈ids then .zt else .box i
 | t=>t }
theorem Ii {ids:List Nat}:zT w g w (VA g ids):=⟨fun b hb=>⟨by simp [VA,hb],rfl⟩⟩
theorem AD {ids:List Nat} {id:Nat} (hi:id∉ids):Zh w g w (VA g ids) id:=
 ⟨⟨fun _=>rfl,fun q b hb=>⟨by simp at hb;simp [VA,hb,hi],rfl⟩⟩,rfl,fun hb=>⟨by simp [VA,hb,hi],rfl⟩⟩
theorem D7 {ids:List Nat} (id:Nat):(J.only fun i=>!yE i ids).z6 id=if id∈ids then none else J.z6 id:=by
 simp only [St.only]
 cases h:yE id ids with
 | true=>rw [yQ (jB.1 h)];rfl
 | false=>rw [qZ (jG.1 h)];rfl
theorem D8 {ids:List Nat} (id:Nat):qv g (VA g ids) id (J.z6 id) ((J.only fun i=>!yE i ids).z6 id):=by
 rw [D7];by_cases h:id∈ids
 ·rw [yQ h];exact .inl rfl
 ·rw [qZ h];exact qv.same (w:=default) (w':=default) (AD h)
theorem Tv {ids:List Nat} (hh:yY w g J.z6):yY w (VA g ids) (J.only fun i=>!yE i ids).z6:=by
 refine ⟨fun id o ho=>?_,fun b hb=>hh.tags b fun h=>hb (by simp [VA,h])⟩;rw [D7] at ho;by_cases h:id∈ids
 ·rw [yQ h] at ho;simp at ho
 ·rw [qZ h] at ho;exact zo.frame Ii (AD h) (fun _ _ vY _=>D8 vY) (hh.z6 id o ho)
variable {ids:List Nat} {os:List Obj} {x:Bool}
theorem Xt (hn:ids.Nodup) (ho:Js J.z6 ids os) (hh:yY w g J.z6):(l:List (Nat×zX))->{all:z7}->{vs:List Value}->{i0:Nat}->{k:Zp l->Option R}->{r:R}->
  Av l i0=true->jf all=true->(x=true\/Qq l all=true)->qk w g J.z6 all vs->
  pX (J.only fun i=>!yE i ids) J.z6 (fun i=>qG i ids 0) l all k=some r->
  ∃ d,k d=some r/\(∀ i av,yO (vW l d) i=some av->i0<=i/\∃ v,vs[i-i0]? = some v/\zr w (yM x g ids) (zF os) av v/\∀ m∈av.ids,m < ids.length)/\
   (∀ n a p,j9 all n=some a->zF l n=some p->p.2.isVal=false->∃ a',a.vF J.z6 (fun i=>qG i ids 0)=some a')/\vs.length=l.length
 | [],all,vs,i0,k,r,_,hv,_,WX,h=>by
  cases all with
  | un=>
   simp only [qk] at WX;subst WX
   exact ⟨(),h,fun i av hi=>by simp [vW,yO] at hi,fun n a p hn=>by cases n <;> simp [j9] at hn,rfl⟩
  | _=>simp [pX] at h
 | (i1,p) :: l,all,vs,i0,k,r,hk,hv,hx,WX,h=>by
  cases all with
  | pr a c=>
   simp only [Av,zA,QR] at hk;obtain ⟨rfl,hk⟩:=hk;simp only [jf,zA] at hv;simp only [qk] at WX;obtain ⟨v,rest,rfl,Ed,xP⟩:=WX;have fin:∀ (d:p.den),(pX (J.only fun i=>!yE i ids) J.z6 (fun i=>qG i ids 0) l c fun e=>k (d,e))=some r->zr w (yM x g ids) (zF os) (p.mk d) v->(∀ m∈(p.mk d).ids,m < ids.length)->
     (p.isVal=false->∃ a',a.vF J.z6 (fun i=>qG i ids 0)=some a')->(x=true\/Qq l c=true)->
     ∃ d,k d=some r/\(∀ i av,yO (vW ((i1,p) :: l) d) i=some av->i1<=i/\∃ u,(v :: rest)[i-i1]? = some u/\zr w (yM x g ids) (zF os) av u/\∀ m∈av.ids,m < ids.length)/\
      (∀ n b q,j9 (.pr a c) n=some b->zF ((i1,p) :: l) n=some q->q.2.isVal=false->∃ a',b.vF J.z6 (fun i=>qG i ids 0)=some a')/\(v :: rest).length=((i1,p) :: l).length:=by
    intro d h hvd gB Eh hx;obtain ⟨e,hke,h1,h2,h3⟩:=Xt hn ho hh l hk hv.2 hx xP h;refine ⟨(d,e),hke,fun i av hi=>?_,fun n b q hb hq TK=>?_,by simp [h3]⟩
    ·simp only [vW,yO] at hi
     cases hb:Nat.beq i1 i with
     | true=>
      rw [hb] at hi;simp only [zB,zI] at hi;subst hi;have:=zE hb;subst this
      exact ⟨yN _,v,by simp,hvd,gB⟩
     | false=>
      rw [hb] at hi;obtain ⟨q1,u,q2,q3,q4⟩:=h1 i av hi;refine ⟨by omega,u,?_,q3,q4⟩;have e:i-i1=(i-(i1+1))+1:=by omega
      rw [e];simpa using q2
    ·cases n with
     | zero=>
      simp only [j9,zI] at hb;simp only [zF,zI] at hq;subst hb;subst hq
      exact Eh TK
     | succ n=>exact h2 n b q hb hq TK
   cases p with
   | val t=>
    simp only [pX] at h;obtain ⟨ve,PG,UJ,TU⟩:=wK hv.1;obtain ⟨cs,zS,Qf⟩:=kX Ed TU;have Ku:jK w (VA g ids) (J.only fun i=>!yE i ids).z6 a cs:=jK.frame Ii (fun id _=>D8 id) zS;have hh':=Tv (ids:=ids) hh;have hd:∃ d,(pX (J.only fun i=>!yE i ids) J.z6 (fun i=>qG i ids 0) l c fun e=>k (d,e))=some r/\t.zW=true/\zH w (yM x g ids) none t d cs:=by
     rcases hx with rfl | hx
     ·obtain ⟨d,h1,h2,h3⟩:=gG hh' 20 Ku h;exact ⟨d,h1,h2,z2n h3⟩
     ·simp only [Qq,zA,zX.isVal,xU,Bool.false_or] at hx;obtain ⟨d,h1,h2,h3⟩:=uo 20 hx.1 Ku h;refine ⟨d,h1,h2,h3.kept ⟨fun b hb=>⟨?_,rfl⟩⟩⟩;have:g.tag b = .ro:=by
       simp only [VA] at hb;cases ht:g.tag b <;> rw [ht] at hb <;> simp at hb <;> first | rfl | (split at hb <;> simp at hb)
      rw [ZX (.inr this),this]
    obtain ⟨d,h1,h2,h3⟩:=hd;refine fin d h1 ?_ (by simp [zX.mk,z7.ids]) (by simp [zX.isVal]) (hx.imp _root_.id fun hx=>by simp only [Qq,zA] at hx;exact hx.2);simp only [zX.mk,zr]
    exact ⟨cs,⟨h2,h3⟩,by rw [Qf,QK hh' hv.1 h];rfl⟩
   | _=>
    simp only [pX] at h;split at h
    ·rename_i a' ha';obtain ⟨d,he,h⟩:=zX.vL _ h;obtain ⟨h1,h2⟩:=Ox hn ho ha' Ed;refine fin d h ?_ (by rw [<-he];exact h2) (fun _=>⟨a',ha'⟩) (hx.imp _root_.id fun hx=>by simp only [Qq,zA] at hx;exact hx.2);rw [<-he];exact zr.frame K8 (fun id _=>A9 id _) h1
    ·simp at h
  | _=>simp [pX] at h
end
end Go.Kz
namespace Go.Kz
variable {R:Type}
def QL (M:List Nat):Tag->Tag
 | .row j p=>(match zF M j with
  | some id=>.row id p
  | none=>.zt)
 | .box j=>(match zF M j with
  | some id=>.box id
  | none=>.zt)
 | t=>t
def kg (g gc:z8) (ids M:List Nat) (size:Nat) (vR:Nat->Bool):z8 where
 tag:=fun b=>if b < size then (match g.tag b with
   | .row i p=>if i∈ids then QL M (gc.tag b) else .row i p
   | .box i=>if i∈ids then QL M (gc.tag b) else .box i
   | t=>t) else QL M (gc.tag b)
 sv:=fun i p=>match qG i M 0 with
  | some j=>if vR i then g.sv i p else gc.sv j p
  | none=>g.sv i p
 qj:=fun i=>match qG i M 0 with
  | some j=>gc.qj j
  | none=>g.qj i
section
variable {w w':World} {g gc:z8} {ids M:List Nat} {x:Bool} {vR:Nat->Bool}
theorem xV (ql:Ext w (yM x g ids) w' gc) (b:Nat) :
  (b < w.heap.size/\(kg g gc ids M w.heap.size vR).tag b=g.tag b/\gc.tag b=(yM x g ids).tag b/\w'.heap[b]? = w.heap[b]?/\((yM x g ids).tag b = .zt\/(yM x g ids).tag b = .ro)/\
   ∀ i∈ids,(∀ p,g.tag b≠.row i p)/\g.tag b≠.box i)\/
  ((kg g gc ids M w.heap.size vR).tag b=QL M (gc.tag b)/\(b < w.heap.size->∃ i∈ids,(∃ p,g.tag b = .row i p)\/g.tag b = .box i)):=by
 by_cases qx:b < w.heap.size
 ·have key:∀ t,g.tag b=t->((yM x g ids).tag b = .zt\/(yM x g ids).tag b = .ro)->(kg g gc ids M w.heap.size vR).tag b=t->(∀ i∈ids,(∀ p,g.tag b≠.row i p)/\g.tag b≠.box i)->
    (b < w.heap.size/\(kg g gc ids M w.heap.size vR).tag b=g.tag b/\gc.tag b=(yM x g ids).tag b/\w'.heap[b]? = w.heap[b]?/\((yM x g ids).tag b = .zt\/(yM x g ids).tag b = .ro)/\
   ∀ i∈ids,(∀ p,g.tag b≠.row i p)/\g.tag b≠.box i):=by
   intro t ht hl hb hi;obtain ⟨h1,h2⟩:=ql.vR b qx hl;exact ⟨qx,hb.trans ht.symm,h2,h1,hl,hi⟩
  have zsi:g.tag b = .zt\/g.tag b = .ro\/(∃ i p,g.tag b = .row i p)\/∃ i,g.tag b = .box i:=by cases g.tag b <;> simp
  rcases zsi with ht | ht | ⟨i,p,ht⟩ | ⟨i,ht⟩
  ·left;exact key _ ht (by rw [ZX (.inl ht),ht];simp) (by simp [kg,ht,qx]) (by simp [ht])
  ·left;exact key _ ht (by rw [ZX (.inr ht),ht];simp) (by simp [kg,ht,qx]) (by simp [ht])
  ·by_cases hi:i∈ids
   ·right;exact ⟨by simp [kg,ht,qx,hi],fun _=>⟨i,hi,.inl ⟨p,ht⟩⟩⟩
   ·left;refine key _ ht ?_ (by simp [kg,ht,qx,hi]) (fun i' wT=>⟨fun p' he=>?_,by simp [ht]⟩)
    ·rw [uf (.inl ⟨p,ht⟩) hi];cases x <;> simp
    ·rw [ht] at he;simp only [Tag.row.injEq] at he;rw [he.1] at hi;exact hi wT
  ·by_cases hi:i∈ids
   ·right;exact ⟨by simp [kg,ht,qx,hi],fun _=>⟨i,hi,.inr ht⟩⟩
   ·left;refine key _ ht ?_ (by simp [kg,ht,qx,hi]) (fun i' wT=>⟨fun p' he=>by simp [ht] at he,fun he=>?_⟩)
    ·rw [uf (.inr ht) hi];cases x <;> simp
    ·rw [ht] at he;simp only [Tag.box.injEq] at he;rw [he] at hi;exact hi wT
 ·right;exact ⟨by simp [kg,qx],fun h=>absurd h qx⟩
theorem z7k (ql:Ext w (yM x g ids) w' gc) {b j id:Nat} {p:Path} (h:gc.tag b = .row j p) (hm:zF M j=some id):(kg g gc ids M w.heap.size vR).tag b = .row id p:=by
 rcases xV (M:=M) (vR:=vR) ql b with ⟨_,_,h2,_,h3,_⟩ | ⟨h1,_⟩
 ·rw [h] at h2;rw [<-h2] at h3;simp at h3
 ·rw [h1,h];simp [QL,hm]
theorem z7l (ql:Ext w (yM x g ids) w' gc) {b j id:Nat} (h:gc.tag b = .box j) (hm:zF M j=some id):(kg g gc ids M w.heap.size vR).tag b = .box id:=by
 rcases xV (M:=M) (vR:=vR) ql b with ⟨_,_,h2,_,h3,_⟩ | ⟨h1,_⟩
 ·rw [h] at h2;rw [<-h2] at h3;simp at h3
 ·rw [h1,h];simp [QL,hm]
theorem LU (ql:Ext w (yM x g ids) w' gc):Ext w g w' (kg g gc ids M w.heap.size vR):=by
 refine ⟨ql.os,ql.tape,ql.output,ql.drawn,ql.size,fun b hb ht=>?_⟩;obtain ⟨h1,h2⟩:=ql.vR b hb (by rw [ZX ht];exact ht);refine ⟨h1,?_⟩;rcases ht with ht | ht <;> simp [kg,hb,ht]
theorem zez (ql:Ext w (yM x g ids) w' gc) (ht:∀ b,g.tag b≠.zt->b < w.heap.size):zT w g w' (kg g gc ids M w.heap.size vR):=(LU ql).ro ht
theorem NL (ql:Ext w (yM false g ids) w' gc):zT w' gc w' (kg g gc ids M w.heap.size vR):=by
 refine ⟨fun b hb=>⟨?_,rfl⟩⟩;rcases xV (M:=M) (vR:=vR) ql b with ⟨_,h1,h2,_,h3,hi⟩ | ⟨h1,_⟩
 ·rw [h1];rw [hb] at h2
  cases ht:g.tag b with
  | ro=>rfl
  | zt=>rw [ZX (.inl ht),ht] at h2;simp at h2
  | row i p=>
   by_cases hm:i∈ids
   ·exact absurd ht ((hi i hm).1 p)
   ·rw [uf (.inl ⟨p,ht⟩) hm] at h2;simp at h2
  | box i=>
   by_cases hm:i∈ids
   ·exact absurd ht (hi i hm).2
   ·rw [uf (.inr ht) hm] at h2;simp at h2
 ·rw [h1,hb];rfl
theorem Td (ql:Ext w (yM x g ids) w' gc) (hc:∀ b,gc.tag b≠.zt->b < w'.heap.size) (b:Nat) (hb:(kg g gc ids M w.heap.size vR).tag b≠.zt):b < w'.heap.size:=by
 rcases xV (M:=M) (vR:=vR) ql b with ⟨h0,_⟩ | ⟨h1,_⟩
 ·exact Z2o h0 ql.size
 ·refine hc b fun h=>hb ?_
  rw [h1,h];rfl
theorem YO {i:Nat}:{l:List Nat}->{k:Nat}->i∉l->qG i l k=none
 | [],_,_=>rfl
 | y :: l,k,h=>by
  simp only [pK,not_or] at h;have:Nat.beq y i=false:=by
   cases hb:Nat.beq y i with
   | true=>exact absurd (zE hb).symm h.1
   | false=>rfl
  simp only [qG,this,zU];exact YO h.2
theorem DS (ql:Ext w (yM x g ids) w' gc) (ht:∀ b,g.tag b≠.zt->b < w.heap.size) {id:Nat} (hi:id∉ids) (hM:id∉M):Zh w g w' (kg g gc ids M w.heap.size vR) id:=by
 have hx:=YO (k:=0) hM;have hb:∀ b,((∃ p,g.tag b = .row id p)\/g.tag b = .box id)->(kg g gc ids M w.heap.size vR).tag b=g.tag b/\w'.heap[b]? = w.heap[b]? := by
  intro b h;rcases xV (M:=M) (vR:=vR) ql b with ⟨_,h1,_,h2,_⟩ | ⟨_,h1⟩
  ·exact ⟨h1,h2⟩
  ·have qx:=ht b (by rcases h with ⟨p,h⟩ | h <;> rw [h] <;> simp);obtain ⟨i,him,VU⟩:=h1 qx;exfalso;rcases h with ⟨p,h⟩ | h <;> rcases VU with ⟨q,h2⟩ | h2 <;> rw [h] at h2 <;> simp at h2
   ·rw [h2.1] at hi;exact hi him
   ·rw [h2] at hi;exact hi him
 refine ⟨⟨fun q=>by simp [kg,hx],fun q b h=>?_⟩,by simp [kg,hx],fun h=>?_⟩
 ·simp only [QP] at h ⊢;obtain ⟨h1,h2⟩:=hb b (.inl ⟨q,h⟩);exact ⟨h1.trans h,h2⟩
 ·obtain ⟨h1,h2⟩:=hb _ (.inr h);exact ⟨h1.trans h,h2⟩
end
def zu4 (e:Nat×Nat) (y y':Obj):Prop:=
 (∃ t l,y = .row t l 0/\y' = .row t l e.1)\/(∃ a a',y = .cell a/\y' = .cell a'/\a'.sk=a.sk)\/(∃ k v m,y = .map k v m/\y' = .map k v m)\/(∃ t l,y = .nest t l 0 0 none/\y' = .nest t l e.1 e.2 none)
structure Bk (gc G:z8) (oc o':qp) (M:List Nat) (E:Nat->Nat×Nat):Prop where
 obj:∀ j id,zF M j=some id->∀ y',o' id=some y'->∃ y,oc j=some y/\zu4 (E j) y y'
 svr:∀ j id,zF M j=some id->∀ t l,oc j=some (.row t l 0)->G.sv id []=gc.sv j []
 svn:∀ j id,zF M j=some id->∀ t l,oc j=some (.nest t l 0 0 none)->∀ p,G.sv id p=gc.sv j p
 qj:∀ j id,zF M j=some id->G.qj id=gc.qj j
 row:∀ b j p id,gc.tag b = .row j p->zF M j=some id->G.tag b = .row id p
 box:∀ b j id,gc.tag b = .box j->zF M j=some id->G.tag b = .box id
section
variable {w:World} {gc G:z8} {oc o':qp} {M:List Nat} {E:Nat->Nat×Nat}
theorem Kj:(p:zX)->{d:p.den}->{a:z7}->p.inst M E d=some a->a.sk=(p.mk d).sk
 | .val t,d,a,h=>by simp only [zX.inst,zI] at h;subst h;rfl
 | .qD,d,a,h=>by simp only [zX.inst,zI] at h;subst h;rfl
 | .ref j,d,a,h=>by simp only [zX.inst,wU] at h;obtain ⟨id,_,rfl⟩:=h;rfl
 | .view j,d,a,h=>by simp only [zX.inst,wU] at h;obtain ⟨id,_,rfl⟩:=h;rfl
 | .zq j p,d,a,h=>by simp only [zX.inst,wU] at h;obtain ⟨id,_,rfl⟩:=h;rfl
 | .qz j,d,a,h=>by simp only [zX.inst,wU] at h;obtain ⟨id,_,rfl⟩:=h;rfl
 | .nv j,d,a,h=>by simp only [zX.inst,wU] at h;obtain ⟨id,_,rfl⟩:=h;rfl
 | .nvi j,d,a,h=>by simp only [zX.inst,wU] at h;obtain ⟨id,_,rfl⟩:=h;rfl
 | .qd f c,d,a,h=>by simp only [zX.inst,wU] at h;obtain ⟨a',_,rfl⟩:=h;rfl
 | .V7 f c,d,a,h=>by simp only [zX.inst,wU] at h;obtain ⟨a',_,rfl⟩:=h;rfl
 | .agg c,d,a,h=>by
  simp only [zX.inst,wU] at h;obtain ⟨a',h,rfl⟩:=h
  simpa only [zX.mk,z7.sk] using Kj c h
 | .pr p q,d,a,h=>by
  simp only [zX.inst] at h;split at h
  ·rename_i y z h1 h2;simp only [zI] at h;subst h;simp only [zX.mk,z7.sk,Kj p h1,Kj q h2]
  ·simp at h
 | .un,d,a,h=>by simp only [zX.inst,zI] at h;subst h;rfl
theorem vS:(p:zX)->{d:p.den}->{a:z7}->p.inst M E d=some a->a.isAgg=(p.mk d).isAgg/\(∀ c,(p.mk d)≠.jV c)/\(∀ y z,a = .pr y z->∃ y' z',p.mk d = .pr y' z')/\(a = .un->p.mk d = .un)/\∀ m∈a.ids,m∈M
 | .val t,d,a,h=>by simp only [zX.inst,zI] at h;subst h;simp [zX.mk,z7.isAgg,z7.ids]
 | .qD,d,a,h=>by simp only [zX.inst,zI] at h;subst h;simp [zX.mk,z7.ids]
 | .ref j,d,a,h=>by simp only [zX.inst,wU] at h;obtain ⟨id,hm,rfl⟩:=h;simp [zX.mk,z7.isAgg,z7.ids,jH hm]
 | .view j,d,a,h=>by simp only [zX.inst,wU] at h;obtain ⟨id,hm,rfl⟩:=h;simp [zX.mk,z7.isAgg,z7.ids,jH hm]
 | .zq j p,d,a,h=>by simp only [zX.inst,wU] at h;obtain ⟨id,hm,rfl⟩:=h;simp [zX.mk,z7.isAgg,z7.ids,jH hm]
 | .qz j,d,a,h=>by simp only [zX.inst,wU] at h;obtain ⟨id,hm,rfl⟩:=h;simp [zX.mk,z7.isAgg,z7.ids,jH hm]
 | .nv j,d,a,h=>by simp only [zX.inst,wU] at h;obtain ⟨id,hm,rfl⟩:=h;simp [zX.mk,z7.isAgg,z7.ids,jH hm]
 | .nvi j,d,a,h=>by simp only [zX.inst,wU] at h;obtain ⟨id,hm,rfl⟩:=h;simp [zX.mk,z7.isAgg,z7.ids,jH hm]
 | .qd f c,d,a,h=>by
  simp only [zX.inst,wU] at h;obtain ⟨a',h,rfl⟩:=h;have:=(vS c h).2.2.2.2
  simpa [zX.mk,z7.isAgg,z7.ids] using this
 | .V7 f c,d,a,h=>by
  simp only [zX.inst,wU] at h;obtain ⟨a',h,rfl⟩:=h;have:=(vS c h).2.2.2.2
  simpa [zX.mk,z7.isAgg,z7.ids] using this
 | .agg c,d,a,h=>by
  simp only [zX.inst,wU] at h;obtain ⟨a',h,rfl⟩:=h;have:=(vS c h).2.2.2.2
  simpa [zX.mk,z7.isAgg,z7.ids] using this
 | .pr p q,d,a,h=>by
  simp only [zX.inst] at h;split at h
  ·rename_i y z h1 h2;simp only [zI] at h;subst h;have k1:=(vS p h1).2.2.2.2;have k2:=(vS q h2).2.2.2.2;refine ⟨rfl,by simp [zX.mk],fun _ _ _=>⟨_,_,rfl⟩,by simp,fun m hm=>?_⟩;simp only [z7.ids,U5] at hm;rcases hm with hm | hm
   ·exact k1 m hm
   ·exact k2 m hm
  ·simp at h
 | .un,d,a,h=>by simp only [zX.inst,zI] at h;subst h;simp [zX.mk,z7.ids]
theorem pO (hb:Bk gc G oc o' M E):(p:zX)->{d:p.den}->{a:z7}->{cs:List Value}->(zT w gc w G\/p.flat=true)->p.inst M E d=some a->jK w gc oc (p.mk d) cs->jK w G o' a cs
 | .val t,d,a,cs,hf,h,zS=>by
  simp only [zX.inst,zI] at h;subst h;refine ⟨zS.1,?_⟩;rcases hf with hf | hf
  ·exact zS.2.kept hf
  ·exact zH.qJ hf zS.2
 | .qD,d,a,cs,hf,h,zS=>by simp only [zX.inst,zI] at h;subst h;exact zS
 | .ref j,d,a,cs,hf,h,zS=>by
  simp only [zX.inst,wU] at h;obtain ⟨id,hm,rfl⟩:=h;obtain ⟨v,hv,qE,hx⟩:=zS;refine ⟨v,hv,qE,fun t l e ho=>?_⟩;obtain ⟨y,hy,hk⟩:=hb.obj j id hm _ ho;rcases hk with ⟨t',l',rfl,h2⟩ | ⟨a1,a2,_,h2,_⟩ | ⟨k,v',m,_,h2⟩ | ⟨t',l',_,h2⟩
  ·simp only [Obj.row.injEq] at h2;obtain ⟨rfl,_,rfl⟩:=h2;exact ⟨yN _,fun _=>by rw [hb.svr j id hm _ _ hy];exact (hx _ _ _ hy).2 rfl⟩
  ·simp at h2
  ·simp at h2
  ·simp at h2
 | .view j,d,a,cs,hf,h,zS=>by
  simp only [zX.inst,wU] at h;obtain ⟨id,hm,rfl⟩:=h;obtain ⟨v,hv,qE,hx⟩:=zS;refine ⟨v,hv,qE,fun t l e ho=>?_⟩;obtain ⟨y,hy,hk⟩:=hb.obj j id hm _ ho;rcases hk with ⟨t',l',rfl,h2⟩ | ⟨a1,a2,_,h2,_⟩ | ⟨k,v',m,_,h2⟩ | ⟨t',l',_,h2⟩
  ·simp only [Obj.row.injEq] at h2;obtain ⟨rfl,hl,rfl⟩:=h2;have hl:=Z35 hl;subst hl;refine ⟨yN _,fun _=>?_⟩;rw [hb.svr j id hm _ _ hy];exact (hx _ _ _ hy).2 rfl
  ·simp at h2
  ·simp at h2
  ·simp at h2
 | .zq j p,d,a,cs,hf,h,zS=>by
  simp only [zX.inst,wU] at h;obtain ⟨id,hm,rfl⟩:=h;obtain ⟨v,hv,qE,hx⟩:=zS;refine ⟨v,hv,qE,fun a ho=>?_⟩;obtain ⟨y,hy,hk⟩:=hb.obj j id hm _ ho;rcases hk with ⟨t',l',_,h2⟩ | ⟨a1,a2,rfl,h2,hs⟩ | ⟨k,v',m,_,h2⟩ | ⟨t',l',_,h2⟩
  ·simp at h2
  ·simp only [Obj.cell.injEq] at h2;subst h2;obtain ⟨off,s,h3,h4⟩:=hx _ hy;exact ⟨off,s,by rw [hs];exact h3,by rw [hb.qj j id hm];exact h4⟩
  ·simp at h2
  ·simp at h2
 | .qz j,d,a,cs,hf,h,zS=>by
  simp only [zX.inst,wU] at h;obtain ⟨id,hm,rfl⟩:=h;obtain ⟨v,hv,qE,hx⟩:=zS;refine ⟨v,hv,qE,fun kt vt mm ho=>?_⟩;obtain ⟨y,hy,hk⟩:=hb.obj j id hm _ ho;rcases hk with ⟨t',l',_,h2⟩ | ⟨a1,a2,_,h2,_⟩ | ⟨k,v',m,rfl,h2⟩ | ⟨t',l',_,h2⟩
  ·simp at h2
  ·simp at h2
  ·rw [hb.qj j id hm];exact hx _ _ _ hy
  ·simp at h2
 | .nv j,d,a,cs,hf,h,zS=>by
  simp only [zX.inst,wU] at h;obtain ⟨id,hm,rfl⟩:=h;obtain ⟨v,hv,qE,hx⟩:=zS;refine ⟨v,hv,qE,fun t l e i hh ho=>?_⟩;obtain ⟨y,hy,hk⟩:=hb.obj j id hm _ ho;rcases hk with ⟨t',l',_,h2⟩ | ⟨a1,a2,_,h2,_⟩ | ⟨k,v',m,_,h2⟩ | ⟨t',l',rfl,h2⟩
  ·simp at h2
  ·simp at h2
  ·simp at h2
  ·simp only [Obj.nest.injEq] at h2;obtain ⟨_,_,rfl,rfl,_⟩:=h2;refine ⟨yN _,fun _=>⟨fun _=>?_,fun h=>(by simp at h)⟩⟩
   rw [hb.svn j id hm _ _ hy];exact ((hx _ _ _ _ _ hy).2 rfl).1 rfl
 | .nvi j,d,a,cs,hf,h,zS=>by
  simp only [zX.inst,wU] at h;obtain ⟨id,hm,rfl⟩:=h;obtain ⟨v,hv,qE,hx⟩:=zS;refine ⟨v,hv,qE,fun t l e i hh ho=>?_⟩;obtain ⟨y,hy,hk⟩:=hb.obj j id hm _ ho;rcases hk with ⟨t',l',_,h2⟩ | ⟨a1,a2,_,h2,_⟩ | ⟨k,v',m,_,h2⟩ | ⟨t',l',rfl,h2⟩
  ·simp at h2
  ·simp at h2
  ·simp at h2
  ·simp only [Obj.nest.injEq] at h2;obtain ⟨_,_,rfl,rfl,_⟩:=h2;refine ⟨yN _,fun _=>⟨fun _=>?_,fun h=>(by simp at h)⟩⟩
   rw [hb.svn j id hm _ _ hy];exact ((hx _ _ _ _ _ hy).2 rfl).1 rfl
 | .qd f c,d,a,cs,hf,h,zS=>by
  simp only [zX.inst,wU] at h;obtain ⟨a',h,rfl⟩:=h;obtain ⟨vs,hv,hx⟩:=zS
  exact ⟨vs,hv,pO hb c hf h hx⟩
 | .V7 t c,d,a,cs,hf,h,zS=>by
  simp only [zX.inst,wU] at h;obtain ⟨a',h,rfl⟩:=h;obtain ⟨x,DH,hv,hx,hxv⟩:=zS
  exact ⟨x,DH,hv,pO hb c hf h hx,by rw [(vS c h).1];exact hxv⟩
 | .agg c,d,a,cs,hf,h,zS=>by
  simp only [zX.inst,wU] at h;obtain ⟨a',h,rfl⟩:=h;show jK w G o' a' cs
  exact pO hb c hf h (show jK w gc oc (c.mk d) cs from zS)
 | .pr p q,d,a,cs,hf,h,zS=>by
  simp only [zX.inst] at h;split at h
  ·rename_i y z h1 h2;simp only [zI] at h;subst h;obtain ⟨c1,c2,uR,k1,k2⟩:=zS;have Qc:zT w gc w G\/p.flat=true:=hf.imp _root_.id fun h=>by simp only [zX.flat,zA] at h;exact h.1
   have Pr:zT w gc w G\/q.flat=true:=hf.imp _root_.id fun h=>by simp only [zX.flat,zA] at h;exact h.2
   exact ⟨c1,c2,uR,pO hb p Qc h1 k1,pO hb q Pr h2 k2⟩
  ·simp at h
 | .un,d,a,cs,hf,h,zS=>by simp only [zX.inst,zI] at h;subst h;exact zS
theorem IV (hb:Bk gc G oc o' M E) {p:zX} {d:p.den} {a:z7} {v:Value} (hf:zT w gc w G\/p.flat=true) (h:p.inst M E d=some a) (zS:zr w gc oc (p.mk d) v):zr w G o' a v:=by
 obtain ⟨h1,h2,h3,h4,_⟩:=vS p h;obtain ⟨cs,uR,Qf⟩:=kX zS h2;refine yB (pO hb p hf h uR) (by rw [h1];exact Qf) (fun y z he=>?_) (fun he=>?_)
 ·obtain ⟨y',z',he⟩:=h3 y z he;rw [he] at zS;simp only [zr] at zS
 ·rw [h4 he] at zS;simp only [zr] at zS
theorem zH.K6 {w w':World} {g g':z8}:{o o':Dr}->{t:Ty}->{d:t.den}->{cs:List Value}->
  (hm:Py w g w' g' o o')->t.kp=true->zH w g o t d cs->zH w' g' o' t d cs
 | _,_,.int _,_,_,_,_,h=>h
 | _,_,.bool,_,_,_,_,h=>h
 | _,_,.str,_,_,_,_,h=>h
 | _,_,.unit,_,_,_,_,h=>h
 | _,_,.pair a b,(x,y),_,hm,ht,h=>by
  obtain ⟨c1,c2,rfl,h1,h2⟩:=h;simp only [Ty.kp,zA] at ht
  exact ⟨c1,c2,rfl,zH.K6 (hm.step _) ht.1 h1,zH.K6 (hm.step _) ht.2 h2⟩
 | _,_,.arr n t,_,_,hm,ht,h=>⟨h.1,h.2.1,fun i hi=>zH.K6 (hm.step _) (by simpa [Ty.kp] using ht) (h.2.2 i hi)⟩
 | _,_,.sl false t,l,_,_,ht,h=>by simp [Ty.kp,Ty.qJ] at ht
 | some (id,p),some (vY,p'),.sl true t,l,_,hm,ht,h=>by
  obtain ⟨a,cap,rfl,h0,h1,h2,h3⟩:=h;have AK:xl w g w' g' id p vY p':=hm;refine ⟨a,cap,rfl,?_,h1,h2,?_⟩
  ·have:=AK.sv [];simp only [Di] at this;rw [this];exact h0
  ·rcases h3 with h3 | ⟨b,off,c,e,ha,Jb,hb,hs,he⟩
   ·exact .inl h3
   ·have hk:=AK.qj [] b (by simpa using Jb);simp only [Di] at hk
    exact .inr ⟨b,off,c,e,ha,hk.1,hk.2.trans hb,hs,fun i hi=>zH.K6 (o:=some (id,p++[Step.idx (i:Int)])) (o':=some (vY,p'++[Step.idx (i:Int)])) (AK.step _) (by simpa [Ty.kp] using ht) (he i hi)⟩
 | some _,none,.sl true _,_,_,hm,_,_=>hm.elim
 | none,_,.sl true _,_,_,_,_,h=>h.elim
 | _,_,.ptr t,_,_,_,ht,_=>by simp [Ty.kp,Ty.qJ] at ht
 | _,_,.fn f t,_,_,_,ht,_=>by simp [Ty.kp,Ty.qJ] at ht
 | _,_,.tree _,_,_,_,ht,_=>by simp [Ty.kp,Ty.qJ] at ht
theorem jE.qJ {w w':World} {g g':z8} {kt vt:Ty} (hk:kt.qJ=true) (hv:vt.qJ=true):{es:List MapEntry}->{m:List (kt.den×vt.den)}->jE w g kt vt es m->jE w' g' kt vt es m
 | [],[],_=>trivial
 | _ :: _,(_,_) :: _,⟨⟨c1,h1,e1⟩,⟨c2,h2,e2⟩,h⟩=>⟨⟨c1,zH.qJ hk h1,e1⟩,⟨c2,zH.qJ hv h2,e2⟩,jE.qJ hk hv h⟩
 | [],_ :: _,h=>h.elim
 | _ :: _,[],h=>h.elim
theorem z48 (hb:Bk gc G oc o' M E) {o:yK} {d:o.den} {y:Obj} {j id:Nat} (hm:zF M j=some id) (hf:zT w gc w G\/o.flat=true) (hj:oc j=some (o.mk d)) (h:o.inst M E j d=some y) (zS:zo w gc oc j (o.mk d)):zo w G o' id y:=by
 cases o with
 | row t=>
  simp only [yK.inst,zI] at h;subst h;obtain ⟨ht,hr⟩:=zS;refine ⟨ht,?_⟩;rw [hb.svr j id hm _ _ hj];obtain ⟨a,cap,hv,h0,h1,h2,h3⟩:=hr;refine ⟨a,cap,hv,(hb.svr j id hm _ _ hj).trans h0,h1,h2,?_⟩;rcases h3 with h3 | ⟨b,off,c,e,ha,Jb,QH,hs,he⟩
  ·exact .inl h3
  ·refine .inr ⟨b,off,c,e,ha,hb.row b j [] id Jb hm,QH,hs,fun i hi=>?_⟩;rcases hf with hf | hf
   ·exact zH.y9 ht ((zH.y9 (o':=none) ht (he i hi)).kept hf)
   ·exact zH.qJ hf (he i hi)
 | cell p=>
  simp only [yK.inst,wU] at h;obtain ⟨a,h,rfl⟩:=h;have hnt:(p.mk d).wI=false:=by
   have:=(vS p h).2.1;cases Qf:p.mk d <;> first | rfl | exact absurd Qf (this _)
  obtain ⟨c,e,h1,h2,h3⟩:=zS.out hnt
  exact zo.mk ⟨c,e,by rw [hb.qj j id hm];exact h1,by rw [hb.qj j id hm];exact hb.box _ j id h2 hm,pO hb p hf h h3⟩
 | map kt vt=>
  simp only [yK.inst,zI] at h;subst h;obtain ⟨es,ck,h1,h2,h3,h4,h5,h6⟩:=zS;refine ⟨es,ck,by rw [hb.qj j id hm];exact h1,by rw [hb.qj j id hm];exact hb.box _ j id h2 hm,h3,h4,?_,h6⟩;rcases hf with hf | hf
  ·exact h5.kept hf
  ·simp only [yK.flat,zA] at hf
   exact h5.qJ hf.1 hf.2
 | iter Gx=>simp [yK.inst] at h
 | p5 p=>
  simp only [yK.inst] at h
  cases p4:(z7.jV (p.mk d)).wL with
  | false=>rw [p4] at h;simp at h
  | true=>
   rw [p4] at h;simp only [zB,wU] at h;obtain ⟨a,h,rfl⟩:=h;obtain ⟨c,e,h1,h2,h3⟩:=(zo.p5 p4).1 zS;have hf:zT w gc w G:=hf.resolve_right (by simp [yK.flat]);have Ia:(z7.jV a).wL=true:=by
    cases p <;> simp [zX.mk,z7.wL] at p4
    ·simp only [zX.inst,wU] at h;obtain ⟨x,_,rfl⟩:=h;rfl
    ·simp only [zX.inst,wU] at h;obtain ⟨x,_,rfl⟩:=h;rfl
   exact (zo.p5 Ia).2 ⟨c,e,by rw [hb.qj j id hm];exact h1,by rw [hb.qj j id hm];exact (hf.qj _ h2).1,pO hb p (.inl hf) h h3⟩
 | nest t=>
  simp only [yK.inst,zI] at h;subst h;show zH w G (some (id,[])) (.sl true t) d [G.sv id []];have qf:=hb.svn j id hm _ _ hj;rw [qf];have hmv:Py w gc w G (some (j,[])) (some (id,[])):=⟨fun q=>qf _,fun q b hq=>⟨hb.row b j q id (by simpa using hq) hm,rfl⟩⟩;have zS:zH w gc (some (j,[])) (.sl true t) d [gc.sv j []]:=zS;rcases hf with hf | hf
  ·exact zH.move hf hmv zS
  ·exact zH.K6 hmv (show (Ty.sl true t).kp=true from hf) zS
end
end Go.Kz
namespace Go.Kz
variable {R:Type}
def Ident (g gc:z8) (oc so:qp) (j id:Nat):Prop:=
 (∀ t l,oc j=some (.row t l 0)->∀ t' l' e,so id=some (.row t' l' e)->gc.sv j []=g.sv id [])/\
 (∀ a,oc j=some (.cell a)->∀ a',so id=some (.cell a')->gc.qj j=g.qj id)/\
 (∀ k v m,oc j=some (.map k v m)->∀ k' v' m',so id=some (.map k' v' m')->gc.qj j=g.qj id)/\
 (∀ t l,oc j=some (.nest t l 0 0 none)->∀ t' l' e i h,so id=some (.nest t' l' e i h)->gc.sv j []=g.sv id [])
theorem QV {b b':Qd} {i id:Nat} (h:PM b i id some=some b'):∀ j vY,yO b' j=some vY->yO b j=some vY\/(j=i/\vY=id):=by
 unfold PM at h;intro j vY hj;split at h
 ·rename_i j0 h0
  cases hb:Nat.beq j0 id with
  | false=>rw [hb] at h;simp at h
  | true=>
   rw [hb] at h;simp only [zB,zI] at h;subst h;exact .inl hj
 ·cases hb:Nj b id with
  | true=>rw [hb] at h;simp at h
  | false=>
   rw [hb] at h;simp only [zU,zI] at h;subst h;simp only [yO] at hj
   cases he:Nat.beq i j with
   | true=>
    rw [he] at hj;simp only [zB,zI] at hj
    exact .inr ⟨(zE he).symm,hj.symm⟩
   | false=>rw [he] at hj;exact .inl hj
section
variable {w w':World} {g gc:z8} {oc so:qp} {Y:Nat->Option Nat}
theorem ko {a:z7} {u:Value} (h:zr w g so a u) (ht:∀ c,a≠.jV c) (hg:a.isAgg=false):∃ cs,jK w g so a cs/\u=cs.headD undef:=by
 obtain ⟨cs,h1,h2⟩:=kX h ht;exact ⟨cs,h1,by rw [h2,hg];rfl⟩
theorem G8 {a a':z7} {p:zX} {d:p.den} {b b':Qd} {u:Value} (h:QN so a p b=some b') (hv:zr w g so a u) (hr:a.vF so Y=some a') (hx:zr w' gc oc (p.mk d) u)
  (hI:∀ j id,yO b j=some id->Ident g gc oc so j id):∀ j id,yO b' j=some id->Ident g gc oc so j id:=by
 intro j id hj;unfold QN at h;split at h
 ·rename_i id0 ep j0;rcases QV h j id hj with h1 | ⟨rfl,rfl⟩
  ·exact hI j id h1
  ·simp only [z7.vF] at hr;split at hr
   ·rename_i t0 l0 e0 _ zp
    cases hb:Nat.beq e0 ep with
    | false=>rw [hb] at hr;simp at hr
    | true=>
     have he:=zE hb;subst he;obtain ⟨cs,⟨v,rfl,_,h1⟩,rfl⟩:=ko hv (by simp) rfl;obtain ⟨DH,⟨v',rfl,_,h2⟩,hu⟩:=ko hx (by simp [zX.mk]) rfl;simp only [Z2k] at hu;subst hu;refine ⟨fun t l ho t' l' e hs=>?_,fun a ho a' hs=>by rw [zp] at hs;simp at hs,fun _ _ _ _ _ _ _ hs=>by rw [zp] at hs;simp at hs,fun _ _ _ _ _ _ _ _ hs=>by rw [zp] at hs;simp at hs⟩;rw [<-(h2 _ _ _ ho).2 rfl,<-(h1 _ _ _ zp).2 rfl]
   ·simp at hr
 ·rename_i id0 j0;split at h
  ·rename_i a0 zp;rcases QV h j id hj with h1 | ⟨rfl,rfl⟩
   ·exact hI j id h1
   ·obtain ⟨cs,⟨v,rfl,_,h1⟩,rfl⟩:=ko hv (by simp) rfl;obtain ⟨DH,⟨v',rfl,_,h2⟩,hu⟩:=ko hx (by simp [zX.mk]) rfl;simp only [Z2k] at hu;subst hu;have zY:∀ a,oc j=some (.cell a)->∀ a',so id=some (.cell a')->gc.qj j=g.qj id:=by
     intro a ho a' hs;obtain ⟨o1,s1,q1,q2⟩:=h1 _ hs;obtain ⟨o2,s2,q3,q4⟩:=h2 _ ho;rw [q2] at q4;simp only [Value.pointer.injEq,zI,Addr.mk.injEq] at q4;exact q4.1.symm
    exact ⟨fun t l ho t' l' e hs=>by rw [zp] at hs;simp at hs,zY,fun _ _ _ ho _ _ _ hs=>by rw [zp] at hs;simp at hs,fun _ _ ho _ _ _ _ _ hs=>by rw [zp] at hs;simp at hs⟩
  ·simp at h
 ·rename_i id0 j0;split at h
  ·rename_i k0 v0 m0 zp;rcases QV h j id hj with h1 | ⟨rfl,rfl⟩
   ·exact hI j id h1
   ·obtain ⟨cs,⟨v,rfl,_,h1⟩,rfl⟩:=ko hv (by simp) rfl;obtain ⟨DH,⟨v',rfl,_,h2⟩,hu⟩:=ko hx (by simp [zX.mk]) rfl;simp only [Z2k] at hu;subst hu;refine ⟨fun t l ho t' l' e hs=>by rw [zp] at hs;simp at hs,fun _ _ _ hs=>by rw [zp] at hs;simp at hs,fun _ _ _ ho _ _ _ hs=>?_,fun _ _ ho _ _ _ _ _ hs=>by rw [zp] at hs;simp at hs⟩;have q1:=h1 _ _ _ hs;have q2:=h2 _ _ _ ho;rw [q1] at q2;simp only [Value.map.injEq,zI] at q2;exact q2.symm
  ·simp at h
 ·rename_i id0 ep j0;rcases QV h j id hj with h1 | ⟨rfl,rfl⟩
  ·exact hI j id h1
  ·simp only [z7.vF] at hr;split at hr
   ·rename_i t0 l0 e0 i0 _ zp
    cases hb:Nat.beq (Iy false [] e0 i0) ep with
    | false=>rw [hb] at hr;simp at hr
    | true=>
     have he:=zE hb;obtain ⟨cs,⟨v,rfl,_,h1⟩,rfl⟩:=ko hv (by simp) rfl;obtain ⟨DH,⟨v',rfl,_,h2⟩,hu⟩:=ko hx (by simp [zX.mk]) rfl;simp only [Z2k] at hu;subst hu;refine ⟨fun t l ho t' l' e hs=>by rw [zp] at hs;simp at hs,fun a ho a' hs=>by rw [zp] at hs;simp at hs,fun _ _ _ _ _ _ _ hs=>by rw [zp] at hs;simp at hs,fun _ _ ho _ _ _ _ _ hs=>?_⟩;rw [<-((h2 _ _ _ _ _ ho).2 rfl).1 rfl,<-((h1 _ _ _ _ _ zp).2 he).1 rfl]
   ·simp at hr
 ·simp at h
theorem NT {a:z7} {p:zX} {d:p.den} {b b':Qd} (h:QN so a p b=some b'):((∀ y z,a≠.pr y z)/\a≠.un/\a.sk = .leaf/\a.isAgg=false)/\(∀ y z,p.mk d≠.pr y z)/\p.mk d≠.un/\(p.mk d).sk = .leaf/\(p.mk d).isAgg=false:=by
 unfold QN at h;split at h
 ·simp [zX.mk,z7.sk,z7.isAgg]
 ·simp [zX.mk,z7.sk,z7.isAgg]
 ·simp [zX.mk,z7.sk,z7.isAgg]
 ·simp [zX.mk,z7.sk,z7.isAgg]
 ·simp at h
theorem LB:{c c':z7}->{q:zX}->{d:q.den}->{b b':Qd}->{vs:List Value}->QM so c q b=some b'->jK w g so c vs->c.vF so Y=some c'->jK w' gc oc (q.mk d) vs->
  (∀ j id,yO b j=some id->Ident g gc oc so j id)->∀ j id,yO b' j=some id->Ident g gc oc so j id:=by
 intro c
 induction c with
 | pr a c iha ihc=>
  intro c' q d b b' vs h hv hr hx hI
  cases q with
  | pr p q=>
   obtain ⟨c1,c2,rfl,h1,h2⟩:=hv;obtain ⟨e1,e2,he,k1,k2⟩:=hx;simp only [z7.vF] at hr;split at hr
   ·rename_i a' cc' ha hc;have q1y:∀ t x,a = .data t x->QM so (.pr a c) (.pr p q) b=some b'->∀ j id,yO b' j=some id->Ident g gc oc so j id:=by
     rintro t x rfl h
     cases p with
     | val u=>
      simp only [QM] at h;have hb:=y8 h;obtain ⟨hs,hb⟩:=hb;obtain ⟨hs,_⟩:=Z38.1 hs;obtain rfl:=hs.down;have hl:c1.length=e1.length:=by rw [h1.len,k1.len];rfl
      obtain ⟨_,rfl⟩:=Z3o he hl
      exact ihc hb h2 hc k2 hI
     | _=>simp [QM,QN] at h
    by_cases hd:∃ t x,a = .data t x
    ·obtain ⟨t,x,hd⟩:=hd;exact q1y t x hd h
    ·have h':(match QN so a p b with
      | some b=>QM so c q b
      | none=>none)=some b':=by
      cases a <;> first | exact h | exact absurd ⟨_,_,rfl⟩ hd
     split at h'
     ·rename_i b1 U1;obtain ⟨⟨f1,f2,f3,f4⟩,g1,g2,g3,g4⟩:=NT (d:=d.1) U1;have l1:c1.length=1:=by rw [h1.len,f3];rfl
      have l2:e1.length=1:=by rw [k1.len,g3];rfl
      obtain ⟨rfl,rfl⟩:=Z3o he (l1.trans l2.symm);have hI1:=G8 U1 (yB h1 rfl f1 f2) ha (yB k1 (by rw [f4,g4]) g1 g2) hI;exact ihc h' h2 hc k2 hI1
     ·simp at h'
   ·simp at hr
  | _=>cases a <;> simp [QM] at h
 | un=>
  intro c' q d b b' vs h hv hr hx hI;cases q <;> simp [QM] at h
  subst h;exact hI
 | _=>intro c' q d b b' vs h;cases q <;> simp [QM] at h
theorem z7s {a a':z7} {p:zX} {d:p.den} {b b':Qd} {u:Value} (h:z7t so a p b=some b') (hv:zr w g so a u) (hr:a.vF so Y=some a') (hx:zr w' gc oc (p.mk d) u)
  (hI:∀ j id,yO b j=some id->Ident g gc oc so j id):∀ j id,yO b' j=some id->Ident g gc oc so j id:=by
 unfold z7t at h;split at h
 ·rename_i t1 a1 t2 p1;simp only [z7.vF,wU] at hr;obtain ⟨a1',hr,_⟩:=hr;obtain ⟨cs,⟨x,DH,rfl,h1,h2⟩,h3⟩:=ko hv (by simp) rfl;obtain ⟨cs2,⟨x2,cs2',rfl,k1,k2⟩,k3⟩:=ko hx (by simp [zX.mk]) rfl;simp only [Z2k] at h3 k3;rw [h3] at k3;simp only [Value.iface.injEq] at k3;obtain ⟨_,rfl⟩:=k3;have zs8:(∃ id ep,a1 = .ref id [] ep)\/(∃ id,a1 = .zq id [])\/(∃ id,a1 = .qz id)\/(∃ id ep,a1 = .nv false id [] ep):=by
   unfold QN at h;split at h
   ·exact .inl ⟨_,_,rfl⟩
   ·exact .inr (.inl ⟨_,rfl⟩)
   ·exact .inr (.inr (.inl ⟨_,rfl⟩))
   ·exact .inr (.inr (.inr ⟨_,_,rfl⟩))
   ·simp at h
  have hp:(∀ y z,p1.mk d≠.pr y z)/\p1.mk d≠.un:=by
   unfold QN at h;split at h
   ·simp [zX.mk]
   ·simp [zX.mk]
   ·simp [zX.mk]
   ·simp [zX.mk]
   ·simp at h
  have ha:(∀ y z,a1≠.pr y z)/\a1≠.un:=by
   rcases zs8 with ⟨_,_,rfl⟩ | ⟨_,rfl⟩ | ⟨_,rfl⟩ | ⟨_,_,rfl⟩ <;> simp
  exact G8 h (yB h1 h2 ha.1 ha.2) hr (yB k1 k2 hp.1 hp.2) hI
 ·rename_i f c f' q;obtain ⟨hb,h⟩:=y8 h;simp only [z7.vF,wU] at hr;obtain ⟨c',hr,_⟩:=hr;obtain ⟨cs,⟨vs,rfl,h1⟩,h3⟩:=ko hv (by simp) rfl;obtain ⟨cs2,⟨vs2,rfl,k1⟩,k3⟩:=ko hx (by simp [zX.mk]) rfl;simp only [Z2k] at h3 k3;rw [h3] at k3;simp only [Value.func.injEq] at k3;have WX:vs=vs2:=by
   have:=Fo Array.toList k3.2.2;simpa using this
  subst WX;exact LB h h1 hr k1 hI
 ·exact G8 h hv hr hx hI
theorem LA {J:St} {all:z7} {vs:List Value} (My:so=J.z6):(jC:List Nat)->(out:List (Nat×zX))->(d:Zp out)->{b b':Qd}->BE so all jC out b=some b'->
  (∀ i∈jC,∀ a,j9 all i=some a->(∃ a',a.vF so Y=some a')/\∀ u,vs[i]? = some u->zr w g so a u)->
  (∀ k i av,zF jC k=some i->zF ((vW out d).map Prod.snd) k=some av->∃ u,vs[i]? = some u/\zr w' gc oc av u)->
  (∀ j id,yO b j=some id->Ident g gc oc so j id)->∀ j id,yO b' j=some id->Ident g gc oc so j id
 | [],_,_,b,b',h,_,_,hI=>by
  simp only [BE,zI] at h
  subst h;exact hI
 | i :: l,[],_,b,b',h,_,_,_=>by simp [BE] at h
 | i :: l,(i2,p) :: out,d,b,b',h,Ps,hex,hI=>by
  simp only [BE] at h;split at h
  ·rename_i a ha;split at h
   ·rename_i b1 U1;obtain ⟨⟨a',hr⟩,hv⟩:=Ps i (by simp) a ha;obtain ⟨u,hu,hx⟩:=hex 0 i (p.mk d.1) rfl rfl;exact LA My l out d.2 h (fun i' wT=>Ps i' (by simp [wT])) (fun k i' av h1 h2=>hex (k+1) i' av h1 h2) (z7s U1 (hv u hu) hr hx hI)
   ·simp at h
  ·simp at h
end
end Go.Kz
namespace Go.Kz
variable {R:Type}
theorem Ax {M:List Nat} {E:Nat->Nat×Nat} {j:Nat} {p:zX} {d:p.den} {y:Obj} (h:(yK.p5 p).inst M E j d=some y):∃ a',p.inst M E d=some a'/\y = .cell (.jV a'):=by
 simp only [yK.inst] at h
 cases hc:(z7.jV (p.mk d)).wL with
 | false=>rw [hc] at h;simp at h
 | true=>
  rw [hc] at h;simp only [zB,wU] at h;obtain ⟨a',h1,h2⟩:=h;exact ⟨a',h1,h2.symm⟩
theorem uO {I:Type}:(l:List I)->(i:Nat)->zF l i=l[i]?
 | [],i=>by cases i <;> rfl
 | x :: l,0=>rfl
 | x :: l,i+1=>by simp only [zF,uO l i];simp
theorem xM {J:St} {ids:List Nat} {b:Qd}:{os:List Obj}->{j0:Nat}->Xf J ids b os j0=true->∀ j y id,zF os j=some y->yO b (j0+j)=some id->id∈ids/\sameKind (J.z6 id) y=true
 | [],j0,_,j,y,id,h,_=>by cases j <;> simp [zF] at h
 | o :: os,j0,hk,j,y,id,h,hb=>by
  simp only [Xf,zA] at hk
  cases j with
  | zero=>
   simp only [zF,zI] at h;subst h;rw [S1] at hb;have h1:=hk.1;rw [hb] at h1;simp only [zA] at h1
   exact ⟨jB.1 h1.1,h1.2⟩
  | succ j=>exact xM hk.2 j y id h (by rw [<-hb];congr 1;omega)
theorem QW {b:Qd} {n:Nat}:{m j0:Nat}->∀ j id,zF (xf b n m j0) j=some id->j < m/\(yO b (j0+j)=some id\/(yO b (j0+j)=none/\id=n+(j0+j)))
 | 0,j0,j,id,h=>by cases j <;> simp [xf,zF] at h
 | m+1,j0,0,id,h=>by
  simp only [xf,zF,zI] at h;refine ⟨by omega,?_⟩;rw [S1];split at h
  ·rename_i i hi;subst h;exact .inl hi
  ·rename_i hi;exact .inr ⟨hi,h.symm⟩
 | m+1,j0,j+1,id,h=>by
  simp only [xf,zF] at h;obtain ⟨h1,h2⟩:=QW (m:=m) j id h;have e:j0+1+j=j0+(j+1):=by omega
  rw [e] at h2;exact ⟨by omega,h2⟩
theorem gZ {M:List Nat} {E:Nat->Nat×Nat}:(l:List yK)->(d:VZ l)->{j0:Nat}->{os:List Obj}->GH M E l d j0=some os->
  os.length=l.length/\∀ j y,zF os j=some y->∃ (o:yK) (e:o.den),zF (wQ l d) j=some (o.mk e)/\o.inst M E (j0+j) e=some y/\(Qu l=true->o.flat=true)
 | [],d,j0,os,h=>by
  simp only [GH,zI] at h;subst h
  exact ⟨rfl,fun j y h=>by cases j <;> simp [zF] at h⟩
 | o :: l,d,j0,os,h=>by
  simp only [GH] at h;split at h
  ·rename_i x y h1 h2;simp only [zI] at h;subst h;obtain ⟨h3,h4⟩:=gZ l d.2 h2;refine ⟨by simp [h3],fun j z hj=>?_⟩
   cases j with
   | zero=>
    simp only [zF,zI] at hj;subst hj
    exact ⟨o,d.1,rfl,h1,fun h=>by simp only [Qu,zA] at h;exact h.1⟩
   | succ j=>
    obtain ⟨o',e,k1,k2,k3⟩:=h4 j z hj;refine ⟨o',e,k1,?_,fun h=>k3 (by simp only [Qu,zA] at h;exact h.2)⟩;rw [<-k2];congr 1;omega
  ·simp at h
theorem GM:{l:List Nat}->YA l=true->l.Nodup
 | [],_=>by simp
 | x :: l,h=>by
  simp only [YA,zA,PO] at h;exact Z2u.2 ⟨jG.1 h.1,GM h.2⟩
theorem Dy {I:Type}:{l:List I}->{i:Nat}->l.length<=i->zF l i=none
 | [],i,_=>by cases i <;> rfl
 | _ :: _,0,h=>by simp at h
 | _ :: l,i+1,h=>Dy (l:=l) (by simpa using h)
theorem Ws:(l:List yK)->(d:VZ l)->(wQ l d).length=l.length
 | [],_=>rfl
 | _ :: l,d=>by simp only [wQ,Vy,Ws l]
def VJ (J:St) (i:Nat):Bool:=match J.z6 i with
 | some (.row _ _ _)=>true
 | _=>false
structure jk (w:World) (g:z8) (J:St) (n:Nat) (x:Bool) (ids:List Nat) (b:Qd) (zm:vp) (r:zm.den) (os:List Obj) (w':World) (gc:z8):Prop where
 ext:Ext w (yM x g ids) w' gc
 heap:yY w' gc (zF (wQ zm.z6 r.2))
 ident:∀ j id,yO b j=some id->Ident g gc (zF (wQ zm.z6 r.2)) J.z6 j id
 inst:GH (xf b n zm.z6.length 0) (G3 J b) zm.z6 r.2 0=some os
 nodup:YA (xf b n zm.z6.length 0)=true
 back:Xf J ids b os 0=true
 fresh:∀ m,n<=m->m < n+8->zJ g J m
 len:zm.z6.length<=8
 flat:x=false\/(uZ zm.zk=true/\Qu zm.z6=true)
 had:∀ i∈ids,J.z6 i≠none
section
variable {nt:Nat} {w:World} {g:z8} {a:Act} {J:St} {n:Nat} {x:Bool} {ids:List Nat} {b:Qd} {zm:vp} {r:zm.den} {os:List Obj} {w':World} {gc:z8}
abbrev jk.M (_:jk w g J n x ids b zm r os w' gc):List Nat:=xf b n zm.z6.length 0
abbrev jk.G (_:jk w g J n x ids b zm r os w' gc):z8:=kg g gc ids (xf b n zm.z6.length 0) w.heap.size (VJ J)
abbrev jk.st (_:jk w g J n x ids b zm r os w' gc):St:=z7m J ids (xf b n zm.z6.length 0) os
theorem jk.idx (H:jk w g J n x ids b zm r os w' gc) {j id:Nat} (h:zF H.M j=some id):qG id H.M 0=some j:=by
 have:=Qw (k:=0) (GM H.nodup) h
 rwa [Zf] at this
theorem jk.zjq (H:jk w g J n x ids b zm r os w' gc) {j id:Nat} (h:zF H.M j=some id):(yO b j=some id/\id∈ids)\/(yO b j=none/\id=n+j/\j < 8):=by
 obtain ⟨h1,h2⟩:=QW j id h;rw [Zf] at h2;rcases h2 with h2 | ⟨h2,h3⟩
 ·obtain ⟨y,hy⟩:=ud (l:=os) (i:=j) (by rw [(gZ _ _ H.inst).1];exact h1);exact .inl ⟨h2,(xM H.back j y id hy (by rw [Zf];exact h2)).1⟩
 ·exact .inr ⟨h2,h3,by have:=H.len;omega⟩
theorem jk.zbw (H:jk w g J n x ids b zm r os w' gc) {j id:Nat} (h:zF H.M j=some id):H.st.z6 id=zF os j:=by
 show (match qG id H.M 0 with
  | some j=>zF os j
  | none=>cond (yE id ids) none (J.z6 id))=_
 rw [H.idx h]
theorem jk.zbv (H:jk w g J n x ids b zm r os w' gc) {id:Nat} (h:id∉H.M):H.st.z6 id=if id∈ids then none else J.z6 id:=by
 show (match qG id H.M 0 with
  | some j=>zF os j
  | none=>cond (yE id ids) none (J.z6 id))=_
 rw [YO h]
 cases hm:yE id ids with
 | true=>simp [jB.1 hm]
 | false=>simp [jG.1 hm]
theorem jk.new (H:jk w g J n x ids b zm r os w' gc) {id:Nat} (h:J.z6 id≠none) {j:Nat} (hm:zF H.M j=some id):yO b j=some id/\id∈ids:=by
 rcases H.zjq hm with h1 | ⟨_,rfl,h2⟩
 ·exact h1
 ·exact absurd (H.fresh _ (by omega) (by omega)).z6 h
theorem jk.bk (H:jk w g J n x ids b zm r os w' gc):Bk gc H.G (zF (wQ zm.z6 r.2)) H.st.z6 H.M (G3 J b):=by
 obtain ⟨hlen,vD⟩:=gZ _ _ H.inst;refine ⟨fun j id hm y' hy=>?_,fun j id hm t l ho=>?_,fun j id hm t l ho p=>?_,fun j id hm=>?_,fun b j p id hb hm=>z7k H.ext hb hm,fun b j id hb hm=>z7l H.ext hb hm⟩
 ·rw [H.zbw hm] at hy;obtain ⟨o,e,h1,h2,_⟩:=vD j y' hy;rw [Zf] at h2;refine ⟨_,h1,?_⟩
  cases o with
  | row t=>simp only [yK.inst,zI] at h2;exact .inl ⟨t,e,rfl,h2.symm⟩
  | cell p=>
   simp only [yK.inst,wU] at h2;obtain ⟨a',h2,rfl⟩:=h2
   exact .inr (.inl ⟨_,a',rfl,rfl,Kj p h2⟩)
  | map kt vt=>simp only [yK.inst,zI] at h2;exact .inr (.inr (.inl ⟨kt,vt,e,rfl,h2.symm⟩))
  | nest t=>simp only [yK.inst,zI] at h2;exact .inr (.inr (.inr ⟨t,e,rfl,h2.symm⟩))
  | iter Gx=>simp [yK.inst] at h2
  | p5 p=>
   obtain ⟨a',h2b,rfl⟩:=Ax h2;exact .inr (.inl ⟨_,_,rfl,rfl,by simp only [z7.sk];exact Kj p h2b⟩)
 ·show (match qG id H.M 0 with
   | some j=>if VJ J id then g.sv id [] else gc.sv j []
   | none=>g.sv id [])=_
  rw [H.idx hm];simp only;split
  ·rename_i hk;unfold VJ at hk;split at hk
   ·rename_i t' l' e' zp;obtain ⟨h1,_⟩:=H.new (by rw [zp];simp) hm;exact ((H.ident j id h1).1 t l ho t' l' e' zp).symm
   ·simp at hk
  ·rfl
 ·show (match qG id H.M 0 with
   | some j=>if VJ J id then g.sv id p else gc.sv j p
   | none=>g.sv id p)=_
  rw [H.idx hm];simp only;split
  ·rename_i hk;exfalso;unfold VJ at hk;split at hk
   ·rename_i t' l' e' zp;obtain ⟨h1,_⟩:=H.new (by rw [zp];simp) hm;obtain ⟨y,hy⟩:=ud (l:=os) (i:=j) (by rw [hlen];exact (QW j id hm).1);have hs:=(xM H.back j y id hy (by rw [Zf];exact h1)).2;obtain ⟨o,e,h3,h4,_⟩:=vD j y hy;rw [h3] at ho
    cases o with
    | nest t=>simp only [yK.inst,zI] at h4;subst h4;rw [zp] at hs;simp [sameKind] at hs
    | row t=>simp [yK.mk] at ho
    | cell p=>simp [yK.mk] at ho
    | map kt vt=>simp [yK.mk] at ho
    | iter Gx=>simp [yK.mk] at ho
    | p5 p=>simp [yK.mk] at ho
   ·simp at hk
  ·rfl
 ·show (match qG id H.M 0 with
   | some j=>gc.qj j
   | none=>g.qj id)=_
  rw [H.idx hm]
theorem jk.carry (H:jk w g J n x ids b zm r os w' gc):zT w' gc w' H.G\/(uZ zm.zk=true/\Qu zm.z6=true):=by
 rcases H.flat with h | h
 ·left;have he:=H.ext;rw [h] at he;exact NL he
 ·exact .inr h
theorem jk.kept (H:jk w g J n x ids b zm r os w' gc) (zy:zG nt g w a J) (id:Nat) (h:J.z6 id≠none\/id < n\/n+8<=id):qv g H.G id (J.z6 id) (H.st.z6 id):=by
 by_cases hM:id∈H.M
 ·obtain ⟨j,hm⟩:∃ j,zF H.M j=some id:=by
   obtain ⟨j,hj,he⟩:=Jo.1 hM;exact ⟨j,by rw [uO,wP hj,he]⟩
  rcases H.zjq hm with ⟨h1,h2⟩ | ⟨h1,rfl,h2⟩
  ·rw [H.zbw hm];obtain ⟨hlen,vD⟩:=gZ _ _ H.inst;obtain ⟨y,hy⟩:=ud (l:=os) (i:=j) (by rw [hlen];exact (QW j id hm).1);rw [hy];obtain ⟨_,hs⟩:=xM H.back j y id hy (by rw [Zf];exact h1);obtain ⟨o,e,h3,h4,_⟩:=vD j y hy;rw [Zf] at h4;have hid:=H.ident j id h1;have KY:=H.bk;have zrd:=H.heap.z6 j _ h3
   cases My:J.z6 id with
   | none=>exact absurd My (H.had id h2)
   | some so=>
    rw [My] at hs;have uK:=zy.heap.z6 id _ My
    have hE:G3 J b j=(match so with
     | .row _ _ e=>(e,0)
     | .nest _ _ e i _=>(e,i+1)
     | _=>(0,0)):=by
     cases so <;> simp [G3,h1,My]
    cases o with
    | row t=>
     simp only [yK.inst,zI] at h4;subst h4
     cases so with
     | row u l e0=>
      simp only [sameKind,Z38] at hs;obtain ⟨hs,_⟩:=hs;obtain rfl:=hs.down;have qf:=hid.1 _ _ h3 _ _ _ My;simp only at hE;refine .inr (.inl ⟨u,l,e,e0,(G3 J b j).1,rfl,rfl,.inr ⟨by rw [hE],?_,fun p=>?_⟩⟩)
      ·obtain ⟨_,a1,c1,_,q1,_⟩:=uK;obtain ⟨_,a2,c2,_,q2,_⟩:=zrd;rw [<-qf,q2] at q1;simp only [Value.slice.injEq] at q1;exact q1.2.1
      ·show (match qG id H.M 0 with
        | some j=>if VJ J id then g.sv id p else gc.sv j p
        | none=>g.sv id p)=_
       rw [H.idx hm]
       simp [VJ,My]
     | _=>simp [sameKind] at hs
    | cell p=>
     simp only [yK.inst,wU] at h4;obtain ⟨a',h4,rfl⟩:=h4
     cases so with
     | cell a0=>
      simp only [sameKind] at hs;refine .inr (.inr (.inl ⟨a0,a',rfl,rfl,Sk.qg hs,?_⟩));rw [KY.qj j id hm]
      exact hid.2.1 _ h3 _ My
     | _=>simp [sameKind] at hs
    | map kt vt=>
     simp only [yK.inst,zI] at h4;subst h4
     cases so with
     | map Aj X9 m0=>
      simp only [sameKind,zA,Z38] at hs;obtain ⟨⟨e1,_⟩,⟨e2,_⟩⟩:=hs;obtain rfl:=e1.down;obtain rfl:=e2.down;refine .inr (.inr (.inr (.inl ⟨_,_,m0,e,rfl,rfl,?_⟩)));rw [KY.qj j id hm]
      exact hid.2.2.1 _ _ _ h3 _ _ _ My
     | _=>simp [sameKind] at hs
    | nest t=>
     simp only [yK.inst,zI] at h4;subst h4
     cases so with
     | nest u l e0 i0 hole=>
      cases hole with
      | some p=>simp [sameKind] at hs
      | none=>
       simp only [sameKind,Z38] at hs;obtain ⟨hs,_⟩:=hs;obtain rfl:=hs.down;have qf:=hid.2.2.2 _ _ h3 _ _ _ _ _ My;simp only at hE;refine .inr (.inr (.inr (.inr ⟨u,l,e,e0,(G3 J b j).1,i0,(G3 J b j).2,none,none,rfl,rfl,by rw [hE];exact yN _,by rw [hE];exact Z1s _,fun _=>?_,fun hi=>?_⟩)))
       ·rw [KY.svn j id hm _ _ h3 []];exact qf
       ·rw [hE] at hi;simp at hi
     | _=>simp [sameKind] at hs
    | iter Gx=>simp [yK.inst] at h4
    | p5 p=>
     obtain ⟨a',h4b,rfl⟩:=Ax h4
     cases so with
     | cell a0=>
      simp only [sameKind] at hs;refine .inr (.inr (.inl ⟨a0,_,rfl,rfl,Sk.qg hs,?_⟩));rw [KY.qj j id hm]
      exact hid.2.1 _ h3 _ My
     | _=>simp [sameKind] at hs
  ·exfalso;rcases h with h | h | h
   ·exact h (H.fresh _ (by omega) (by omega)).z6
   ·omega
   ·omega
 ·rw [H.zbv hM];by_cases hi:id∈ids
  ·rw [yQ hi];exact .inl rfl
  ·rw [qZ hi]
   cases ho:J.z6 id with
   | none=>exact .inl rfl
   | some o=>exact qv.same (DS H.ext zy.heap.tags hi hM)
end
end Go.Kz
namespace Go.Kz
variable {R:Type}
section
variable {nt:Nat} {w:World} {g:z8} {a:Act} {J:St} {n:Nat} {x:Bool} {ids:List Nat} {b:Qd} {zm:vp} {r:zm.den} {os:List Obj} {w':World} {gc:z8}
theorem jk.notM (H:jk w g J n x ids b zm r os w' gc) {m:Nat} (hm:m < n\/n+8<=m) (hf:zJ g J m):m∉H.M:=by
 intro hM;obtain ⟨j,hj,he⟩:=Jo.1 hM;rcases H.zjq (j:=j) (id:=m) (by rw [uO,wP hj,he]) with ⟨_,h2⟩ | ⟨_,rfl,_⟩
 ·exact H.had m h2 hf.z6
 ·omega
theorem jk.ok (H:jk w g J n x ids b zm r os w' gc) (zy:zG nt g w a J):zG nt H.G w' a H.st:=by
 have qu:=zez (M:=H.M) (vR:=VJ J) H.ext zy.heap.tags;have zql:∀ m,¬ zJ g J m->J.z6 m≠none\/m < n\/n+8<=m:=by
  intro m hm;by_cases h:n<=m/\m < n+8
  ·exact absurd (H.fresh m h.1 h.2) hm
  ·right;omega
 refine ⟨fun i av hi=>?_,⟨fun id y hy=>?_,fun b hb=>Td H.ext H.heap.tags b hb⟩,zy.size,zy.defers,zy.known.kept qu⟩
 ·obtain ⟨v,h1,h2⟩:=zy.zk i av hi;exact ⟨v,h1,zr.frame qu (fun id hid=>H.kept zy id (zql id fun hf=>hf.zk i av hi hid)) h2⟩
 ·by_cases hM:id∈H.M
  ·obtain ⟨j,hj,he⟩:=Jo.1 hM;have hm:zF H.M j=some id:=by rw [uO,wP hj,he]
   rw [H.zbw hm] at hy;obtain ⟨_,vD⟩:=gZ _ _ H.inst;obtain ⟨o,e,h3,h4,h5⟩:=vD j y hy;rw [Zf] at h4;exact z48 H.bk hm (H.carry.imp _root_.id fun h=>h5 h.2) h3 h4 (H.heap.z6 j _ h3)
  ·rw [H.zbv hM] at hy;by_cases hi:id∈ids
   ·rw [yQ hi] at hy;simp at hy
   ·rw [qZ hi] at hy;refine zo.frame qu (DS H.ext zy.heap.tags hi hM) (fun av ha vY Nq=>H.kept zy vY (zql vY fun hf=>?_)) (zy.heap.z6 id y hy);subst ha;exact hf.cells id av hy Nq
theorem jk.free (H:jk w g J n x ids b zm r os w' gc) {m:Nat} (hm:m < n\/n+8<=m) (hf:zJ g J m):zJ H.G H.st m:=by
 have hM:=H.notM hm hf;have zgx:∀ {t:Tag},((∃ p,QL H.M t = .row m p)\/QL H.M t = .box m)->False:=by
  intro t ht
  cases t with
  | zt=>simp [QL] at ht
  | ro=>simp [QL] at ht
  | row j p=>
   simp only [QL] at ht
   cases hj:zF H.M j with
   | none=>simp [hj] at ht
   | some id=>simp [hj] at ht;subst ht;exact hM (jH hj)
  | box j=>
   simp only [QL] at ht
   cases hj:zF H.M j with
   | none=>simp [hj] at ht
   | some id=>simp [hj] at ht;subst ht;exact hM (jH hj)
 refine ⟨?_,fun bb p hb=>?_,fun bb hb=>?_,hf.zk,fun id av ho hmem=>?_⟩
 ·rw [H.zbv hM,hf.z6];split <;> rfl
 ·rcases xV (M:=H.M) (vR:=VJ J) H.ext bb with ⟨_,h1,_⟩ | ⟨h1,_⟩
  ·exact hf.row bb p (h1.symm.trans hb)
  ·exact zgx (.inl ⟨p,h1.symm.trans hb⟩)
 ·rcases xV (M:=H.M) (vR:=VJ J) H.ext bb with ⟨_,h1,_⟩ | ⟨h1,_⟩
  ·exact hf.box bb (h1.symm.trans hb)
  ·exact zgx (.inr (h1.symm.trans hb))
 ·by_cases hI:id∈H.M
  ·obtain ⟨j,hj,he⟩:=Jo.1 hI;have hmj:zF H.M j=some id:=by rw [uO,wP hj,he]
   rw [H.zbw hmj] at ho;obtain ⟨_,vD⟩:=gZ _ _ H.inst;obtain ⟨o,e,h3,h4,h5⟩:=vD j _ ho
   cases o with
   | cell p=>
    simp only [yK.inst,wU,Obj.cell.injEq] at h4;obtain ⟨a',h4,rfl⟩:=h4
    exact hM ((vS p h4).2.2.2.2 m hmem)
   | p5 p=>
    obtain ⟨a',h4b,h6⟩:=Ax h4;simp only [Obj.cell.injEq] at h6;subst h6
    exact hM ((vS p h4b).2.2.2.2 m (by simpa [z7.ids] using hmem))
   | _=>simp [yK.inst] at h4
  ·rw [H.zbv hI] at ho;by_cases hi:id∈ids
   ·rw [yQ hi] at ho;simp at ho
   ·rw [qZ hi] at ho;exact hf.cells id av ho hmem
theorem XW {M:List Nat} {E:Nat->Nat×Nat}:(l:List (Nat×zX))->(d:Zp l)->{vs:List z7}->gL M E l d=some vs->∀ m,m∈(jS vs).ids->m∈M
 | [],d,vs,h,m,hm=>by
  simp only [gL,zI] at h;subst h
  simp [jS,z7.ids] at hm
 | (i,p) :: l,d,vs,h,m,hm=>by
  simp only [gL] at h;split at h
  ·rename_i a vs' h1 h2;simp only [zI] at h;subst h;simp only [jS,z7.ids,U5] at hm;rcases hm with hm | hm
   ·exact (vS p h1).2.2.2.2 m hm
   ·exact XW l d.2 h2 m hm
  ·simp at h
theorem BK:(n:Nat)->(l:List z7)->∀ m,m∈(jS (gK n l)).ids->m∈(jS l).ids
 | 0,_,_,h=>h
 | _+1,[],_,h=>h
 | n+1,a :: l,m,h=>by
  simp only [gK] at h;simp only [jS,z7.ids,U5];exact .inr (BK n l m h)
theorem MN (l:List z7) (m:Nat) (h:m∈(gk l).ids):m∈(jS l).ids:=by
 match l,h with
 | [],h=>simp [gk,z7.ids,jS] at h
 | [a],h=>simp only [jS,z7.ids,U5];exact .inl h
 | a :: c :: l,h=>exact h
theorem Cb {G:z8} {oc o':qp} {M:List Nat} {E:Nat->Nat×Nat} (hb:Bk gc G oc o' M E):(l:List (Nat×zX))->(d:Zp l)->{vs:List z7}->{us:List Value}->(zT w gc w G\/uZ l=true)->gL M E l d=some vs->
  qk w gc oc (jS ((vW l d).map Prod.snd)) us->qk w G o' (jS vs) us
 | [],d,vs,us,_,h,hv=>by
  simp only [gL,zI] at h;subst h
  simpa [vW,jS,qk] using hv
 | (i,p) :: l,d,vs,us,hf,h,hv=>by
  simp only [gL] at h;split at h
  ·rename_i a vs' h1 h2;simp only [zI] at h;subst h;simp only [vW,WY,jS,qk] at hv ⊢;obtain ⟨v,rest,rfl,k1,k2⟩:=hv;exact ⟨v,rest,rfl,IV hb (hf.imp _root_.id fun h=>by simp only [uZ,zA] at h;exact h.1) h1 k1,
    Cb hb l d.2 (hf.imp _root_.id fun h=>by simp only [uZ,zA] at h;exact h.2) h2 k2⟩
  ·simp at h
theorem XV {G:z8} {oc o':qp} {M:List Nat} {E:Nat->Nat×Nat} (hb:Bk gc G oc o' M E):(k:Nat)->(l:List (Nat×zX))->(d:Zp l)->{vs:List z7}->{u:Value}->(zT w gc w G\/uZ l=true)->gL M E l d=some vs->
  zr w gc oc (gk (gK k ((vW l d).map Prod.snd))) u->zr w G o' (gk (gK k vs)) u
 | 0,l,d,vs,u,hf,h,hv=>by
  simp only [gK] at hv ⊢
  match l,d,hf,h,hv with
  | [],d,hf,h,hv=>
   simp only [gL,zI] at h;subst h
   simpa [vW,gk,jS,zr,qk] using hv
  | [(i,p)],d,hf,h,hv=>
   simp only [gL] at h;split at h
   ·rename_i a vs' h1 h2;simp only [zI] at h h2;subst h2;subst h;simp only [vW,WY,Z28,gk] at hv ⊢;exact IV hb (hf.imp _root_.id fun h=>by simp only [uZ,zA] at h;exact h.1) h1 hv
   ·simp at h
  | (i,p) :: (i2,p2) :: l,d,hf,h,hv=>
   have hlen:∃ a1 a2 vs',vs=a1 :: a2 :: vs':=by
    simp only [gL] at h;split at h
    ·rename_i a vs' h1 h2;split at h2
     ·simp only [zI] at h h2;subst h2;subst h;exact ⟨_,_,_,rfl⟩
     ·simp at h2
    ·simp at h
   obtain ⟨a1,a2,vs',rfl⟩:=hlen;have jd:zr w gc oc (.jV (jS ((vW ((i,p) :: (i2,p2) :: l) d).map Prod.snd))) u:=hv;show zr w G o' (.jV (jS (a1 :: a2 :: vs'))) u;simp only [zr] at jd ⊢;obtain ⟨us,rfl,jd⟩:=jd
   exact ⟨us,rfl,Cb hb _ d hf h jd⟩
 | k+1,[],d,vs,u,hf,h,hv=>by
  simp only [gL,zI] at h;subst h
  simpa [vW,gK,gk,jS,zr,qk] using hv
 | k+1,(i,p) :: l,d,vs,u,hf,h,hv=>by
  simp only [gL] at h;split at h
  ·rename_i a vs' h1 h2;simp only [zI] at h;subst h;simp only [vW,WY,gK] at hv ⊢;exact XV hb k l d.2 (hf.imp _root_.id fun h=>by simp only [uZ,zA] at h;exact h.2) h2 hv
  ·simp at h
end
end Go.Kz
namespace Go.Kz
variable {R:Type}
theorem BC {l:List (Nat×zX)}:{an:List Nat}->BD l an=true->∀ i∈an,∃ p,zF l i=some p/\p.2.isVal=false
 | [],_,i,h=>by simp at h
 | j :: an,hk,i,h=>by
  simp only [BD,zA] at hk;rcases pK.1 h with rfl | h
  ·have h1:=hk.1;split at h1
   ·rename_i k p hp;exact ⟨_,hp,by simpa using h1⟩
   ·simp at h1
  ·exact BC hk.2 i h
section
variable {P:Program} {o:Oper} {a:Act} {w:World} {K:Act->World->Prop} {Q:Exit->Act->World->Prop} {c:Ctx} {J:St} {g:z8} {k:St->Option R} {r:R} {base:Nat}
theorem Il {w:World} {R:Type}:(p:gx)->(all:z7)->{J:St}->{g:z8}->{vals:List Value}->{k:z7->St->Option R}->{r:R}->yY w g J.z6->qk w g J.z6 all vals->gb p all J k=some r->
  ∃ zf4 J' g',k zf4 J'=some r/\J'.zk=J.zk/\J'.next=J.next/\jJ g J.z6 g' J'.z6/\qk w g' J'.z6 zf4 vals:=by
 intro p
 induction p with
 | pr p q _ ihq=>
  intro all J g vals k r hh hv h
  cases p with
  | val t=>
   cases all with
   | pr a c=>
    simp only [gb] at h;obtain ⟨hb,h⟩:=y8 h;simp only [zA] at hb;obtain ⟨⟨hval,qu⟩,wG⟩:=hb;simp only [qk] at hv;obtain ⟨v,vs,rfl,Ed,xP⟩:=hv;obtain ⟨cs,uR,Qf,_⟩:=jn hval Ed;obtain ⟨d,J1,g1,Qg,h1,h2,h3,zC⟩:=gq 20 hh uR qu h;have q05:qk w g1 J1.z6 c vs:=qk.frame (h3.ro w) (fun id _=>h3.kept hh id) xP;obtain ⟨zf4,J2,g2,PX,h4,h5,h6,WX⟩:=ihq c (h3.heap hh) q05 Qg;refine ⟨_,J2,g2,PX,h4.trans h1,h5.trans h2,h3.trans h6,?_⟩;simp only [qk];refine ⟨v,vs,rfl,?_,WX⟩;have ve:=(wK hval).1;rw [ve,Sk.qg wG] at Qf;simp only [zr]
    exact ⟨cs,⟨qu,zH.kept (h6.ro w) zC⟩,Qf⟩
   | _=>simp [gb] at h
  | _=>simp [gb] at h
 | un=>
  intro all J g vals k r hh hv h
  cases all with
  | un=>exact ⟨.un,J,g,by simpa [gb] using h,rfl,rfl,.refl _ _,hv⟩
  | _=>simp [gb] at h
 | _=>intro all J g vals k r hh hv h;simp [gb] at h
theorem Rh {n:Nat} {J:St} {i:Nat} {x:z7} (zy:zG n g w a J) (ho:J.z6 i=some (.cell x)) (p4:(z7.jV x).wL=true) :
  ∃ g',zG n g' w a (J.setObj i (.cell (.jV x)))/\Ext w g w g'/\zT w g w g'/\(∀ m,zJ g J m->zJ g' (J.setObj i (.cell (.jV x))) m)/\
   ∀ j,qv g g' j (J.z6 j) ((J.setObj i (.cell (.jV x))).z6 j):=by
 obtain ⟨c,e,h1,h2,h3⟩:=(zy.heap.z6 i _ ho).out (IJ p4);let g':z8:={ g with tag:=fun b=>if b=g.qj i then .ro else g.tag b };have qu:zT w g w g':=⟨fun b hb=>⟨by simp only [g'];split <;> first | rfl | exact hb,rfl⟩⟩;have ga:∀ j,j≠i->Zh w g w g' j:=fun j hj=>by
  refine ⟨⟨fun q=>rfl,fun q b hb=>⟨?_,rfl⟩⟩,rfl,fun hb=>⟨?_,rfl⟩⟩
  ·simp only [g'];rw [qZ (fun he=>by subst he;rw [h2] at hb;simp at hb)];exact hb
  ·simp only [g'];rw [qZ (fun he=>by rw [he,h2] at hb;simp only [Tag.box.injEq] at hb;exact hj hb.symm)];exact hb
 have Mw:qv g g' i (J.z6 i) (some (.cell (.jV x))):=.inr (.inr (.inl ⟨_,_,ho,rfl,rfl,rfl⟩));have hk:∀ j,qv g g' j (J.z6 j) ((J.setObj i (.cell (.jV x))).z6 j):=by
  intro j;by_cases hj:j=i
  ·subst hj;simp only [St.setObj,zR];exact Mw
  ·simp only [St.setObj];rw [zi _ _ hj];exact qv.same (ga j hj)
 refine ⟨g',zy.pE qu ga (.inl Mw) ((zo.p5 p4).2 ⟨c,e,h1,by simp [g'],jK.frame qu (fun j _=>hk j) h3⟩) (fun b hb=>?_),?_,qu,fun m hm=>?_,hk⟩
 ·simp only [g'] at hb;split at hb
  ·rename_i he;subst he;exact zy.heap.tags _ (by rw [h2];simp)
  ·exact zy.heap.tags b hb
 ·refine ⟨rfl,rfl,rfl,yN _,yN _,fun b _ hb=>⟨rfl,?_⟩⟩;simp only [g'];rw [qZ (fun he=>by subst he;rw [h2] at hb;simp at hb)]
 ·have hmi:m≠i:=fun he=>by subst he;have:=hm.z6;rw [ho] at this;simp at this
  refine ⟨by simp only [St.setObj];rw [zi _ _ hmi];exact hm.z6,fun b p hb=>?_,fun b hb=>?_,hm.zk,fun j av hj=>?_⟩
  ·simp only [g'] at hb;split at hb
   ·simp at hb
   ·exact hm.row b p hb
  ·simp only [g'] at hb;split at hb
   ·simp at hb
   ·exact hm.box b hb
  ·by_cases UK:j=i
   ·subst UK;simp only [St.setObj,zR,zI,Obj.cell.injEq] at hj;subst hj;have:=hm.cells j _ ho;simpa [z7.ids] using this
   ·simp only [St.setObj] at hj;rw [zi _ _ UK] at hj;exact hm.cells j av hj
theorem FR {n:Nat}:(os:List yK)->(is:List Nat)->{J:St}->{g:z8}->{k:St->Option R}->{r:R}->zG n g w a J->Cu os is J k=some r->
  ∃ J' g',k J'=some r/\zG n g' w a J'/\Ext w g w g'/\zT w g w g'/\(∀ m,zJ g J m->zJ g' J' m)/\J'.next=J.next/\∀ al vs,qk w g J.z6 al vs->qk w g' J'.z6 al vs
 | [],is,J,g,k,r,zy,h=>⟨J,g,by cases is <;> simpa [Cu] using h,zy,Ext.refl w g,⟨fun b hb=>⟨hb,rfl⟩⟩,fun m hm=>hm,rfl,fun _ _ h=>h⟩
 | o :: os,[],J,g,k,r,zy,h=>⟨J,g,by cases o <;> simpa [Cu] using h,zy,Ext.refl w g,⟨fun b hb=>⟨hb,rfl⟩⟩,fun m hm=>hm,rfl,fun _ _ h=>h⟩
 | o :: os,i :: is,J,g,k,r,zy,h=>by
  have plain:Cu os is J k=some r->∃ J' g',k J'=some r/\zG n g' w a J'/\Ext w g w g'/\zT w g w g'/\(∀ m,zJ g J m->zJ g' J' m)/\J'.next=J.next/\∀ al vs,qk w g J.z6 al vs->qk w g' J'.z6 al vs:=fun h=>FR os is zy h
  cases o with
  | p5 p=>
   simp only [Cu] at h;split at h
   ·rename_i x ho
    cases p4:(z7.jV x).wL with
    | false=>rw [p4] at h;exact plain h
    | true=>
    rw [p4] at h;simp only [zB] at h;obtain ⟨g1,h1,h2,h2r,h3,h4⟩:=Rh zy ho p4;obtain ⟨J',g',k1,k2,k3,k3r,k4,k5,k6⟩:=FR os is h1 h;exact ⟨J',g',k1,k2,h2.trans k3,⟨fun b hb=>let z:=k3r.qj b (h2r.qj b hb).1;⟨z.1,rfl⟩⟩,fun m hm=>k4 m (h3 m hm),k5,fun al vs hv=>k6 al vs (qk.frame h2r (fun j _=>h4 j) hv)⟩
   ·exact plain h
  | row _=>exact plain h
  | cell _=>exact plain h
  | map _ _=>exact plain h
  | nest _=>exact plain h
  | iter _=>exact plain h
theorem Hs:(l:List yK)->(d:VZ l)->{j:Nat}->{o:yK}->zF l j=some o->∃ e:o.den,zF (wQ l d) j=some (o.mk e)
 | o :: l,d,0,o',h=>by
  simp only [zF,zI] at h;subst h
  exact ⟨d.1,rfl⟩
 | o :: l,d,j+1,o',h=>Hs l d.2 h
 | [],_,j,o',h=>by cases j <;> simp [zF] at h
theorem G0 {so:qp} {ids:List Nat} {g gc:z8} {w w':World} {xx:Bool} {fo:List yK} {fd:VZ fo} (hh:yY w g so) (ql:Ext w (yM xx g ids) w' gc) (kD:yY w' gc (zF (wQ fo fd)))
  (Eh:∀ id o,id∈ids->so id=some o->∃ o',o.vF so (fun i=>qG i ids 0)=some o') :
  (l:Qd)->{b b':Qd}->LJ so ids fo l b=some b'->(∀ j id,yO b j=some id->Ident g gc (zF (wQ fo fd)) so j id)->∀ j id,yO b' j=some id->Ident g gc (zF (wQ fo fd)) so j id
 | [],b,b',h,hI=>by
  simp only [LJ,zI] at h
  subst h;exact hI
 | (j,_) :: l,b,b',h,hI=>by
  simp only [LJ] at h;split at h
  ·rename_i id hj;split at h
   ·rename_i q x hq ho;have hm:=(y8 h).1;replace h:=(y8 h).2;simp only [zA] at hm;obtain ⟨hm,p4⟩:=hm;split at h
    ·rename_i b1 U1;obtain ⟨d,hd⟩:=Hs fo fd hq;have Ia:(z7.jV (q.mk d)).wL=true:=by
      unfold z7r at U1;split at U1
      ·rfl
      ·rfl
      ·simp at U1
     obtain ⟨c,e,h1,h2,h3⟩:=(zo.p5 p4).1 (hh.z6 id _ ho);obtain ⟨c',e',k1,k2,k3⟩:=(zo.p5 Ia).1 (kD.z6 j _ hd);have hblk:=(hI j id hj).2.1 _ hd _ ho;rw [hblk] at k1;have qx:=hh.tags (g.qj id) (by rw [h2];simp);have PU:=(ql.vR (g.qj id) qx (.inr ((K8 (w:=w) (x:=xx)).qj _ ((xI (w:=w) (ids:=ids)).qj _ h2).1).1)).1;rw [PU,h1] at k1;simp only [zI,Go.Obj.cells.injEq] at k1;obtain ⟨rfl,_⟩:=k1;obtain ⟨o',hr⟩:=Eh id _ (jB.1 hm) ho;simp only [Obj.vF,xe,wU] at hr;obtain ⟨y1,⟨y2,hr,_⟩,_⟩:=hr;unfold z7r at U1;split at U1
     ·simp only [z7.vF,wU] at hr;obtain ⟨y3,hr,_⟩:=hr;exact G0 hh ql kD Eh l h (LB U1 h3 hr k3 hI)
     ·exact G0 hh ql kD Eh l h (G8 U1 (yB h3 rfl (by simp) (by simp)) hr (yB k3 rfl (by simp [zX.mk]) (by simp [zX.mk])) hI)
     ·simp at U1
    ·simp at h
   ·exact G0 hh ql kD Eh l h hI
  ·exact G0 hh ql kD Eh l h hI
theorem zbm {fid:Nat} {all:z7} {vals:List Value} {fin:vp} {jC:List Nat} {zm:vp} {F:fin.den->Option zm.den} (hco:qB P fid (.mut fin jC zm F))
  (zc:(execOp a.eval o).run P w=(callFunc fid vals.toArray).run P w) (hall:qk w g J.z6 all vals) (zy:zG c.ntmps g w a J) (vT:∀ m,base<=m->m < base+8->zJ g J m)
  (h:(cond (jf all && Av fin.zk 0 && BD fin.zk jC && (Qq fin.zk all || (uZ zm.zk && Qu zm.z6)) && Nat.ble zm.z6.length 8)
  (match (BE J.z6 all jC zm.zk []).bind fun b=>LJ J.z6 (kH J.z6 100 (pA fin.zk all) []) zm.z6 b b with
   | some b=>z38 J all fin (kH J.z6 100 (pA fin.zk all) []) fun d=>(F d).bind fun r=>Mr J base (kH J.z6 100 (pA fin.zk all) []) b jC zm r fun v J=>J.y6 c o.dst v k
   | none=>none) none)=some r) (hK:vu c.ntmps k r g w J base true K):o.wp P a w K Q:=by
 replace h:=y8 h;obtain ⟨hb,h⟩:=h;simp only [zA,Df] at hb;obtain ⟨⟨⟨⟨hval,zrt⟩,zsn⟩,z5e⟩,hlen⟩:=hb;have hlen:=zL hlen;split at h
 ·rename_i b zcy;obtain ⟨b0,hb0,U1⟩:=WB.1 zcy;generalize gB:kH J.z6 100 (pA fin.zk all) []=ids at h U1;have hnd:ids.Nodup:=by rw [<-gB];exact uH _ _ _ (by simp)
  unfold z38 at h;split at h
  ·rename_i os hos;obtain ⟨hol,hog⟩:=Q6 hos;have qu:Js J.z6 ids os:=⟨hol,hog⟩;obtain ⟨xx,hxx,hxf⟩:∃ xx:Bool,(xx=true\/Qq fin.zk all=true)/\(xx=false\/(uZ zm.zk=true/\Qu zm.z6=true)):=by
    rcases z5e with hf | hf
    ·exact ⟨false,.inr hf,.inl rfl⟩
    ·exact ⟨true,.inl rfl,.inr hf⟩
   obtain ⟨d,h,Mj,Eh,Ux⟩:=Xt (x:=xx) hnd qu zy.heap fin.zk zrt hval hxx hall h;obtain ⟨e,he,h9⟩:=xL fin.z6 h;subst he;simp only [WB] at h9;obtain ⟨rv,hF,h8⟩:=h9;replace h:=h8;have zp:∀ j o',zF (wQ fin.z6 e) j=some o'->zo w (we g ids) (zF (wQ fin.z6 e)) j o'/\∀ y,o' = .cell y->∀ m∈y.ids,m < ids.length:=by
    intro j o' hj;obtain ⟨i,hi⟩:=ud (l:=ids) (i:=j) (by rw [<-hol];exact wF hj);obtain ⟨o,o2,h1,h2,h3⟩:=hog j i hi;rw [hj] at h3;simp only [zI] at h3;subst h3;exact OZ hnd qu hi h2 (zy.heap.z6 i o h1)
   have zrc:fin.z6.length=ids.length:=by rw [<-hol,Ws]
   have Ps:zG vals.length (yM xx g ids) w ⟨vals.toArray,[]⟩ (St.of (vW fin.zk d) (wQ fin.z6 e)):=by
    refine ⟨fun i av hi=>?_,⟨fun j o' hj=>?_,fun bb hbb=>zy.heap.tags bb (Ix hbb)⟩,by simp,rfl,(zy.known.kept xI).kept K8⟩
    ·obtain ⟨_,v,h2,h3,_⟩:=Mj i av hi;exact ⟨v,by simpa using h2,h3⟩
    ·exact zo.frame K8 (A8 j) (fun _ _ vY _=>A9 vY _) (zp j o' hj).1
   have VX:∀ m,fin.z6.length<=m->zJ (yM xx g ids) (St.of (vW fin.zk d) (wQ fin.z6 e)) m:=by
    intro m hm;rw [zrc] at hm;refine ⟨?_,fun bb p hbb=>?_,fun bb hbb=>?_,fun i av hi hmem=>?_,fun j y hj hmem=>?_⟩
    ·exact Dy (by rw [Ws,zrc];exact hm)
    ·have:=Iu (.inl ⟨p,hbb⟩);omega
    ·have:=Iu (.inr hbb);omega
    ·obtain ⟨_,v,_,_,h4⟩:=Mj i av hi;have:=h4 m hmem;omega
    ·have:=(zp j _ hj).2 y rfl m hmem;omega
   have xk:∀ v w',(∃ g',Ext w (yM xx g ids) w' g'/\yY w' g' (zF (wQ zm.z6 rv.2))/\
     (∀ k i av,zF jC k=some i->zF ((vW zm.zk rv.1).map Prod.snd) k=some av->∃ u,vals[i]? = some u/\zr w' g' (zF (wQ zm.z6 rv.2)) av u)/\
     zr w' g' (zF (wQ zm.z6 rv.2)) (gk (gK jC.length ((vW zm.zk rv.1).map Prod.snd))) v)->K (a.put o.dst v) w':=by
    intro v w' ⟨gc,ql,kD,hex,W4⟩;unfold Mr at h;split at h
    ·rename_i os' vs q0v WX;replace h:=y8 h;obtain ⟨w5,h⟩:=h;simp only [zA] at w5;have q1k:=LA (so:=J.z6) (g:=g) (gc:=gc) (w:=w) (w':=w') (oc:=zF (wQ zm.z6 rv.2)) (Y:=fun i=>qG i ids 0) (vs:=vals) rfl jC zm.zk rv.1 hb0 (fun i hi av U3=>by
      obtain ⟨p,hp1,hp2⟩:=BC zsn i hi;obtain ⟨u,N4,hu2,_⟩:=VN hall U3;refine ⟨Eh i av p U3 hp1 hp2,fun u' hu'=>?_⟩;rw [N4] at hu';simp only [zI] at hu';subst hu';exact hu2) hex (fun j id hj=>by simp [yO] at hj)
     have hid:=G0 (fd:=rv.2) zy.heap ql kD (fun id o hid ho=>by
      obtain ⟨j,hj,he⟩:=Jo.1 hid;obtain ⟨o1,o2,h1,h2,_⟩:=hog j id (by rw [uO,wP hj,he]);rw [ho] at h1;simp only [zI] at h1;subst h1;exact ⟨o2,h2⟩) b0 U1 q1k
     have H:jk w g J base xx ids b zm rv os' w' gc:=⟨ql,kD,hid,q0v,w5.1,w5.2,vT,hlen,hxf,fun i hi=>by
      obtain ⟨j,hj,he⟩:=Jo.1 hi;obtain ⟨o1,_,h1,_⟩:=hog j i (by rw [uO,wP hj,he]);rw [h1];simp⟩
     refine z6u (w:=w) (g:=g) (H.ok zy) (LU ql) (fun m hm hf=>⟨H.free hm hf,fun hmem=>?_⟩) rfl ?_ h (fun hh=>by simp at hh) hK
     ·exact H.notM hm hf (XW _ _ WX m (BK _ _ m (MN _ m hmem)))
     ·exact XV H.bk jC.length zm.zk rv.1 (H.carry.imp _root_.id fun h=>h.1) WX W4
    ·simp at h
   rcases hco w (yM xx g ids) (d,e) vals rv Ux Ps VX hF with ⟨IK,Bh⟩ | ⟨v,w',IK,Bh⟩
   ·unfold Oper.wp;rw [zc,IK,Oper.upon_enter];refine Calls.mono Bh (fun e' w' he=>?_);obtain ⟨v,rfl,hv⟩:=he;exact xk v w' hv
   ·unfold Oper.wp;rw [zc,IK,Oper.upon_value];exact xk v w' Bh
  ·simp at h
 ·simp at h
theorem T9 (IN:Bb P c.env) {fid:Nat} {all:z7} {vals:List Value} (zc:(execOp a.eval o).run P w=(callFunc fid vals.toArray).run P w) (hall:qk w g J.z6 all vals)
  (zy:zG c.ntmps g w a J) (vT:∀ m,base<=m->m < base+8->zJ g J m)
  (h:(match PY all (c.env fid) with
   | some (.pure p res F)=>BG J base all p res F fun v J=>J.y6 c o.dst v k
   | some (.mut fin jC zm F)=>zjo J base all fin jC zm F fun v J=>J.y6 c o.dst v k
   | none=>none)=some r) (hK:vu c.ntmps k r g w J base true K):o.wp P a w K Q:=by
 split at h
 ·rename_i p res F IP;have hco:=IN fid _ (JH IP);unfold BG at h
  cases hb:(xp res || wo all) with
  | true=>
   rw [hb] at h
   exact Xe hco zc hall zy vT h hK
  | false=>
   rw [hb] at h;obtain ⟨zf4,J1,g1,Qg,h1,h2,h3,WX⟩:=Il p all zy.heap hall h;refine Xe (mo:=true) hco zc WX (h3.st h1 zy) (fun m TA hm2=>h3.fresh h1 (vT m TA hm2)) Qg ?_;intro J' g' a' w' Bi qT ql zlb TX ve;exact hK J' g' a' w' Bi qT (h3.ext.trans ql) (fun m hm hf=>zlb m hm (h3.fresh h1 hf)) (TX.trans h2) ve
 ·rename_i fin jC zm F IP;have hco:=IN fid _ (JH IP);unfold zjo at h;obtain ⟨J0,g0,h0,Kk,z5f,_,zs7,q0y,q01⟩:=FR _ _ zy h;clear h;have hK0:vu c.ntmps k r g0 w J0 base true K:=by
   intro J' g' a' w' Bi qT pz zlb TX ve;exact hK J' g' a' w' Bi qT (z5f.trans pz) (fun m hm hf=>zlb m hm (zs7 m hf)) (TX.trans q0y) ve
  exact zbm hco zc (q01 _ _ hall) Kk (fun m h1 h2=>zs7 m (vT m h1 h2)) h0 hK0
 ·simp at h
theorem z2h (IN:Bb P c.env) {cl:Call} {x:Operand} (ho:o.op = .call cl) (gE:cl.callee = .value x)
  (zy:zG c.ntmps g w a J) (vT:∀ m,base<=m->m < base+8->zJ g J m) {gv args:z7} (hx:ev J x=some gv) (hargs:evs J cl.args.toList=some args)
  (h:(z7b c J base gv args fun v J=>J.y6 c o.dst v k)=some r) (hK:vu c.ntmps k r g w J base true K):o.wp P a w K Q:=by
 obtain ⟨eg,_⟩:=qF zy hx;obtain ⟨ea,_⟩:=Wv zy hargs;unfold z7b at h;split at h
 ·rename_i fid all Et;obtain ⟨us,hfv,hall⟩:=DO eg ea Et;refine T9 IN (fid:=fid) (all:=all) (vals:=(cl.args.toList.map a.eval)++us) ?_ hall zy vT h hK;have e1:cl.args.map a.eval=(cl.args.toList.map a.eval).toArray:=by apply Fm.1;rw [Z2x]
  simp [execOp,ho,resolve,gE,hfv,Deferred.ofValue,invoke,e1]
 ·simp at h
theorem zg5 {q:Bool} {n:Nat} (hy:N1 o=true):Tj q c J n o k=Tt c J n o k:=by
 unfold Tj;split
 ·rename_i ho;simp [N1,Ge,ho] at hy
 ·rename_i ho;simp [N1,Ge,ho] at hy
 ·rename_i ho;simp [N1,Ge,ho] at hy
 ·rename_i ho;simp [N1,Ge,ho] at hy
 ·rename_i ho;simp [N1,Ge,ho] at hy
 ·rfl
theorem z2m {q:Bool} (hc:xG P c) (zy:zG c.ntmps g w a J) (vT:∀ m,base<=m->m < base+8->zJ g J m) (h:Tj q c J base o k=some r) (hK:vu c.ntmps k r g w J base (QT q o) K):o.wp P a w K Q:=by
 have hK':vu c.ntmps k r g w J base (isM o) K:=by
  intro J' g' a' w' h1 h2 h3 h4 h5 h6;refine hK J' g' a' w' h1 h2 h3 h4 h5 fun hm=>h6 ?_
  cases q with
  | false=>exact hm
  | true=>
   simp only [QT,zB,JY] at hm;exact hm.1
 unfold Tj at h;split at h
 ·rename_i x args ts ho
  cases q with
  | false=>exact D6 hc zy vT h hK'
  | true=>
   simp only [zB] at h;split at h
   ·rename_i gv av hx ha;refine z2h hc.env ho rfl zy vT hx ha h ?_;intro J' g' a' w' h1 h2 h3 h4 h5 _;exact hK J' g' a' w' h1 h2 h3 h4 h5 (fun hh=>by simp [QT,EO,ho] at hh)
   ·simp at h
 ·rename_i t x ho
  cases q with
  | false=>exact D6 hc zy vT h hK'
  | true=>
   simp only [zB] at h;split at h
   ·rename_i av hx;exact z2d hc.mt ho zy (vT base (yN _) (by omega)) hx h hK
   ·simp at h
 ·rename_i x ho
  cases q with
  | false=>exact D6 hc zy vT h hK'
  | true=>
   simp only [zB] at h;split at h
   ·rename_i av hx;refine zbk (base:=base) ho zy hx h ?_;intro J' g' a' w' h1 h2 h3 h4 h5 _;exact hK J' g' a' w' h1 h2 h3 h4 h5 (fun hh=>by simp [QT,EO,ho] at hh)
   ·simp at h
 ·rename_i x ho
  cases q with
  | false=>exact D6 hc zy vT h hK'
  | true=>
   simp only [zB] at h;split at h
   ·rename_i av hx;refine z2g (base:=base) ho zy hx h ?_;intro J' g' a' w' h1 h2 h3 h4 h5 _;exact hK J' g' a' w' h1 h2 h3 h4 h5 (fun hh=>by simp [QT,EO,ho] at hh)
   ·simp at h
 ·rename_i args ts ho
  cases hd:(q && zha c o.dst) with
  | false=>rw [hd] at h;exact D6 hc zy vT h hK'
  | true=>
   rw [hd] at h;simp only [zB] at h;split at h
   ·rename_i x y t t' hargs ux;split at h
    ·rename_i av bv ow u hx hy kN
     cases hb:Nat.beq t t' with
     | false=>rw [hb] at h;simp at h
     | true=>
      rw [hb] at h;have htq:=zE hb;subst htq;simp only [zB] at h;refine Mi hc.tt ho hargs ux kN hx hy zy (vT base (yN _) (by omega)) h ?_;intro J' g' a' w' h1 h2 h3 h4 h5 _;exact hK J' g' a' w' h1 h2 h3 h4 h5 (fun hh=>by
       cases q <;> simp [QT,isM,ho] at hh)
    ·simp at h
   ·simp at h
 ·exact D6 hc zy vT h hK'
end
end Go.Kz
namespace Go.Kz
variable {R:Type}
section
variable {P:Program} {ops:Array Oper} {Q:Exit->Act->World->Prop} {q:Bool}
theorem N3 {q:Bool} {o:Oper} (h:QT q o=false):QT false o=false:=by
 cases q with
 | false=>exact h
 | true=>
  simp only [QT,zB,JY] at h;exact h.1
def qs (q:Bool) (P:Program) (ops:Array Oper) (Q:Exit->Act->World->Prop) (o:Oper) (K:Act->World->Prop) (a:Act) (w:World):Prop:=
 if Region.wanted o (yielded ops a.tmps)=true then
  (N1 o=true/\∃ v,(∀ w',Nt o w w'->(execOp a.eval o).run P w' = .ok (.value v) w')/\K (a.put o.dst v) w)\/
  (N1 o=false/\o.wp P a w (fun a' w'=>(QT q o=false->jc w w')/\K a' w') Q)
 else K (a.put o.dst undef) w
def JK (q:Bool) (P:Program) (ops:Array Oper) (Q:Exit->Act->World->Prop) (K:Act->World->Prop):List (Nat×Oper)->Act->World->Prop
 | [],a,w=>K a w
 | (_,o) :: l,a,w=>qs q P ops Q o (JK q P ops Q K l) a w
theorem X7 {K:Act->World->Prop}:(l m:List (Nat×Oper))->JK q P ops Q K (l++m)=JK q P ops Q (JK q P ops Q K m) l
 | [],m=>rfl
 | (i,o) :: l,m=>by
  funext a w;simp only [xA,JK,X7 l m]
def Dn (l:List (Nat×Oper)) (a a':Act):Prop:=∀ i,(∀ x∈l,x.2.dst≠some i)->a'.tmps[i]? = a.tmps[i]?
theorem Oper.z0l {o:Oper} {a:Act} {w:World} {K:Act->World->Prop} (h:o.wp P a w K Q) :
  o.wp P a w (fun a' w'=>(∀ i,o.dst≠some i->a'.tmps[i]? = a.tmps[i]?)/\K a' w') Q:=by
 have Kp:∀ (b:Act) (v:Value),b.tmps=a.tmps->∀ i,o.dst≠some i->(b.put o.dst v).tmps[i]? = a.tmps[i]? := by
  intro b v hb i hi;rw [JE,qZ (fun h=>hi h.1),hb]
 unfold Oper.wp at *;generalize (execOp a.eval o).run P w=x at *
 cases x with
 | ok n w'=>
  cases n <;> simp only [Oper.upon] at h ⊢
  case value v=>exact ⟨Kp a v rfl,h⟩
  case skip=>exact ⟨Kp a _ rfl,h⟩
  case defer d=>exact ⟨Kp _ _ rfl,h⟩
  case enter f args=>
   refine Calls.mono h fun e w'' he=>?_
   cases e with
   | returned v=>exact ⟨Kp a v rfl,he⟩
   | panicked c=>exact he
   | outgrown=>exact he
  case row row args=>exact Rows.mono h fun v w'' he=>⟨Kp a v rfl,he⟩
 | halt x w'=>cases x <;> simp only [Oper.upon] at h ⊢ <;> exact h
theorem qs.frame {o:Oper} {K:Act->World->Prop} {a:Act} {w:World} (h:qs q P ops Q o K a w) :
  qs q P ops Q o (fun a' w'=>((QT q o=false->jc w w')/\∀ i,o.dst≠some i->a'.tmps[i]? = a.tmps[i]?)/\K a' w') a w:=by
 have Kp:∀ v,∀ i,o.dst≠some i->(a.put o.dst v).tmps[i]? = a.tmps[i]? := by
  intro v i hi;rw [JE,qZ (fun h=>hi h.1)]
 unfold qs at *;split
 ·rename_i hw;rw [yQ hw] at h;rcases h with ⟨hy,v,h1,h2⟩ | ⟨hy,h1⟩
  ·exact .inl ⟨hy,v,h1,⟨fun _=>jc.refl w,Kp v⟩,h2⟩
  ·exact .inr ⟨hy,Oper.wp_mono (fun a' w' hh=>⟨hh.2.1,⟨hh.2.1,hh.1⟩,hh.2.2⟩) (Oper.z0l h1)⟩
 ·rename_i hw;rw [qZ hw] at h;exact ⟨⟨fun _=>jc.refl w,Kp _⟩,h⟩
theorem qs.mono {o:Oper} {K K':Act->World->Prop} {a:Act} {w:World} (hk:∀ a w,K a w->K' a w) (h:qs q P ops Q o K a w):qs q P ops Q o K' a w:=by
 unfold qs at *;split
 ·rename_i hw;rw [yQ hw] at h;rcases h with ⟨hy,v,h1,h2⟩ | ⟨hy,h1⟩
  ·exact .inl ⟨hy,v,h1,hk _ _ h2⟩
  ·exact .inr ⟨hy,Oper.wp_mono (fun a' w' hh=>⟨hh.1,hk _ _ hh.2⟩) h1⟩
 ·rename_i hw;rw [qZ hw] at h;exact hk _ _ h
theorem jc.size {w w':World} (h:jc w w'):w.heap.size<=w'.heap.size:=by
 rcases Z3p w.heap.size with h0 | h0
 ·omega
 ·have:=h (w.heap.size-1) (by omega);have h2:w.heap[w.heap.size-1]?≠none:=by simp;omega
  rw [<-this] at h2;simp at h2;omega
theorem jc.trans {w w' w'':World} (h:jc w w') (k:jc w' w''):jc w w'':=fun b hb=>(k b (by have:=h.size;omega)).trans (h b hb)
theorem CP {K:Act->World->Prop}:(l:List (Nat×Oper))->noM l=true->(a:Act)->(w:World)->JK false P ops Q K l a w->
  JK false P ops Q (fun a' w'=>(jc w w'/\Dn l a a')/\K a' w') l a w
 | [],_,a,w,h=>⟨⟨jc.refl w,fun _ _=>rfl⟩,h⟩
 | (i,o) :: l,hm,a,w,h=>by
  simp only [noM,zA,PO] at hm;have h1:=qs.frame (show qs false P ops Q o (JK false P ops Q K l) a w from h);refine qs.mono (fun a1 w1 hh=>?_) h1;obtain ⟨⟨ve,Mj⟩,pT⟩:=hh;have h2:=CP l hm.2 a1 w1 pT;have mono:∀ (l:List (Nat×Oper)) (K K':Act->World->Prop),(∀ a w,K a w->K' a w)->∀ a w,JK false P ops Q K l a w->JK false P ops Q K' l a w:=by
   intro l
   induction l with
   | nil=>exact fun K K' hk a w h=>hk a w h
   | cons x l ih=>exact fun K K' hk a w h=>qs.mono (fun a w h=>ih K K' hk a w h) h
  refine mono l _ _ (fun a2 w2 hh=>?_) a1 w1 h2;obtain ⟨⟨q2f,q0j⟩,hk⟩:=hh;refine ⟨⟨(ve hm.1).trans q2f,fun j hj=>?_⟩,hk⟩;rw [q0j j (fun x hx=>hj x (by simp [hx])),Mj j (hj (i,o) (by simp))]
theorem qs.zvr {o:Oper} {K:Act->World->Prop} {a:Act} {w:World} (h:qs false P ops Q o K a w):qs q P ops Q o K a w:=by
 unfold qs at *;split
 ·rename_i hw;rw [yQ hw] at h;rcases h with h1 | ⟨hy,h1⟩
  ·exact .inl h1
  ·exact .inr ⟨hy,Oper.wp_mono (fun a' w' hh=>⟨fun hm=>hh.1 (N3 hm),hh.2⟩) h1⟩
 ·rename_i hw;rw [qZ hw] at h;exact h
theorem Hu {K:Act->World->Prop}:(l:List (Nat×Oper))->(a:Act)->(w:World)->JK false P ops Q K l a w->JK q P ops Q K l a w
 | [],a,w,h=>h
 | (_,_) :: l,a,w,h=>qs.zvr (qs.mono (fun a w h=>Hu l a w h) h)
theorem CG {K:Act->World->Prop}:(l:List (Nat×Oper))->(a:Act)->(w:World)->JK q P ops Q K l a w->JK q P ops Q (fun a' w'=>Dn l a a'/\K a' w') l a w
 | [],a,w,h=>⟨fun _ _=>rfl,h⟩
 | (i,o) :: l,a,w,h=>by
  refine qs.mono (fun a1 w1 hh=>?_) (qs.frame (show qs q P ops Q o (JK q P ops Q K l) a w from h));obtain ⟨⟨_,Mj⟩,pT⟩:=hh;have mono:∀ (l:List (Nat×Oper)) (K K':Act->World->Prop),(∀ a w,K a w->K' a w)->∀ a w,JK q P ops Q K l a w->JK q P ops Q K' l a w:=by
   intro l
   induction l with
   | nil=>exact fun K K' hk a w h=>hk a w h
   | cons x l ih=>exact fun K K' hk a w h=>qs.mono (fun a w h=>ih K K' hk a w h) h
  refine mono l _ _ (fun a2 w2 hh=>⟨fun j hj=>?_,hh.2⟩) a1 w1 (CG l a1 w1 pT);rw [hh.1 j (fun x hx=>hj x (by simp [hx])),Mj j (hj (i,o) (by simp))]
theorem X6 {K K':Act->World->Prop} (hk:∀ a w,K a w->K' a w):(l:List (Nat×Oper))->(a:Act)->(w:World)->JK q P ops Q K l a w->JK q P ops Q K' l a w
 | [],a,w,h=>hk a w h
 | (_,_) :: l,_,_,h=>qs.mono (fun a w h=>X6 hk l a w h) h
end
theorem splitAt_eq {p:Oper->Bool}:{l acc:List (Nat×Oper)}->{PB rest:List (Nat×Oper)}->{d:Option Nat}->splitAt p l acc=some (PB,d,rest)->acc++l=PB++rest
 | [],_,_,_,_,h=>by simp [splitAt] at h
 | (i,o) :: l,acc,PB,rest,d,h=>by
  simp only [splitAt] at h
  cases hp:p o with
  | true=>
   rw [hp] at h;simp only [zB,zI,gP] at h;obtain ⟨rfl,_,rfl⟩:=h
   simp
  | false=>
   rw [hp] at h;have:=splitAt_eq (l:=l) h;rw [<-this];simp
theorem gI:{l:List (Nat×Oper)}->{J:St}->{i:Nat}->{av:z7}->(wu l J).zk i=some av->J.zk i=some av/\∀ x∈l,x.2.dst≠some i
 | [],J,i,av,h=>⟨h,by simp⟩
 | (j,o) :: l,J,i,av,h=>by
  simp only [wu] at h;obtain ⟨h1,h2⟩:=gI (l:=l) h
  cases hd:o.dst with
  | none=>
   rw [hd] at h1
   exact ⟨h1,fun x hx=>(pK.1 hx).elim (fun e=>by subst e;simp [hd]) (fun hx=>h2 x hx)⟩
  | some d=>
   rw [hd] at h1;simp only [St.kB,GJ] at h1
   cases hb:Nat.beq i d with
   | true=>rw [hb] at h1;simp at h1
   | false=>
    rw [hb] at h1;refine ⟨h1,fun x hx=>?_⟩;rcases pK.1 hx with rfl | hx
    ·rw [hd];intro he;simp only [zI] at he;subst he;rw [Nc] at hb;simp at hb
    ·exact h2 x hx
theorem Vg:(l:List (Nat×Oper))->(J:St)->(wu l J).z6=J.z6/\(wu l J).next=J.next
 | [],_=>⟨rfl,rfl⟩
 | (_,o) :: l,J=>by
  simp only [wu];obtain ⟨h1,h2⟩:=Vg l (J.kB o.dst);cases hd:o.dst <;> rw [hd] at h1 h2 <;> exact ⟨h1,h2⟩
end Go.Kz
namespace Go.Kz
def znb (g:z8) (J:St) (base:Nat) (l:List (Nat×Oper)):Prop:=∀ x∈l,∀ m,base+8*x.1<=m->m < base+8*x.1+8->zJ g J m
def Out (base:Nat) (l:List (Nat×Oper)) (m:Nat):Prop:=∀ x∈l,m < base+8*x.1\/base+8*x.1+8<=m
theorem TB {n:Nat} {g:z8} {w w':World} {a a':Act} {J:St} (zy:zG n g w a J) (ve:jc w w') (hd:a'.defers=[]) (hs:a'.tmps.size=n)
  (zk:∀ i av,J.zk i=some av->a'.tmps[i]? = a.tmps[i]?):zG n g w' a' J:=by
 have ht:=zy.heap.tags;have hr:zT w g w' g:=⟨fun b hb=>⟨hb,ve b (ht b (by rw [hb];simp))⟩⟩;have ga:∀ id,Zh w g w' g id:=fun id=>⟨⟨fun _=>rfl,fun _ b hb=>⟨hb,ve b (ht b (by rw [hb];simp))⟩⟩,rfl,fun hb=>⟨hb,ve _ (ht _ (by rw [hb];simp))⟩⟩
 have hk:∀ id,qv g g id (J.z6 id) (J.z6 id):=fun id=>qv.refl g id _
 refine ⟨fun i av hi=>?_,⟨fun id x hx=>?_,fun b hb=>?_⟩,hs,hd,zy.known.kept hr⟩
 ·obtain ⟨u,hu,zS⟩:=zy.zk i av hi;exact ⟨u,by rw [zk i av hi];exact hu,zr.frame hr (fun id _=>hk id) zS⟩
 ·exact zo.frame hr (ga id) (fun _ _ vY _=>hk vY) (zy.heap.z6 id x hx)
 ·have:=ht b hb;have:=ve.size;omega
theorem LG {J:St} {d:Nat} {b:Bool} (h:BP J d=some b):J.zk d=some (.data .bool b):=by
 unfold BP at h;split at h
 ·rename_i x hx;simp only [zI] at h;subst h;exact hx
 ·simp at h
section
variable {P:Program} {ops:Array Oper} {Q:Exit->Act->World->Prop} {c:Ctx} {base:Nat} {dst:Nat->Option Nat}
theorem xB {o:Oper} {f:Nat->Option Bool} (h:o.guard=none):Region.wanted o f=true:=by simp [Region.wanted,h]
theorem WE {o:Oper} {a:Act} {j t:Nat} {want b:Bool} (h:o.guard=some (j,want)) (hd:(ops[j]?).bind (·.dst)=some t) (hv:a.tmps[t]? = some (.bool b)) :
  Region.wanted o (yielded ops a.tmps)=(b == want):=by
 simp [Region.wanted,h,yielded,hd,hv]
theorem Ej {n:Nat} {g:z8} {w:World} {a:Act} {J:St} (zy:zG n g w a J) {t:Nat} {b:Bool} (h:J.zk t=some (.data .bool b)):a.tmps[t]? = some (.bool b):=by
 obtain ⟨v,hv,zS⟩:=zy.zk t _ h;rw [hv,xW zS]
theorem XG {n:Nat} {g:z8} {w:World} {a:Act} {J:St} (zy:zG n g w a J) {t:Nat} {av:z7} (h:J.zk t=some av):zG n g w a (J.set t av):=by
 refine ⟨fun i x hi=>?_,zy.heap,zy.size,zy.defers,zy.known⟩;simp only [St.set,GJ] at hi
 cases hb:Nat.beq i t with
 | true=>
  rw [hb] at hi;simp only [zB,zI] at hi;subst hi;have:=zE hb;subst this
  exact zy.zk _ _ h
 | false=>rw [hb] at hi;exact zy.zk i x hi
theorem GS {x:Nat}:{l:List Nat}->(yE x l=true↔x∈l)
 | []=>by simp [yE]
 | y :: l=>by
  simp only [yE,pK]
  cases h:Nat.beq y x with
  | true=>simp [zE h]
  | false=>
   have je:x≠y:=by intro he;subst he;rw [Nc] at h;simp at h
   simp [je,GS (l:=l)]
def Und (a:Act) (py:List Nat):Prop:=∀ s∈py,∀ b,a.tmps[s]?≠some (.bool b)
theorem X8 {o:Oper} {a:Act} {j t:Nat} {want:Bool} (h:o.guard=some (j,want)) (hd:(ops[j]?).bind (·.dst)=some t) (hv:∀ b,a.tmps[t]?≠some (.bool b)) :
  Region.wanted o (yielded ops a.tmps)=false:=by
 have hy:yielded ops a.tmps j=none:=by
  cases hx:a.tmps[t]? with
  | none=>simp [yielded,hd,hx]
  | some v=>
   cases v with
   | bool b=>exact absurd hx (hv b)
   | _=>simp [yielded,hd,hx]
 simp [Region.wanted,h,hy]
theorem EY {d s:Nat}:{l:List Nat}->s∈rmN d l->s∈l/\s≠d
 | [],h=>by simp [rmN] at h
 | x :: l,h=>by
  simp only [rmN] at h
  cases hb:Nat.beq x d with
  | true=>
   rw [hb] at h;have:=EY (l:=l) h
   exact ⟨by simp [this.1],this.2⟩
  | false=>
   rw [hb] at h;rcases pK.1 h with rfl | h
   ·exact ⟨by simp,fun he=>by subst he;rw [Nc] at hb;simp at hb⟩
   ·have:=EY (l:=l) h;exact ⟨by simp [this.1],this.2⟩
theorem DC {d:Option Nat} {s:Nat} {l:List Nat} (h:s∈QI d l):s∈l/\d≠some s:=by
 cases d with
 | none=>exact ⟨h,by simp⟩
 | some d=>
  have:=EY h;exact ⟨this.1,by simp;exact fun he=>this.2 he.symm⟩
theorem Kr {s:Nat}:{l:List (Nat×Oper)}->{u:List Nat}->s∈Bj l u->s∈u/\∀ x∈l,x.2.dst≠some s
 | [],u,h=>⟨h,by simp⟩
 | (i,o) :: l,u,h=>by
  obtain ⟨h1,h2⟩:=Kr (l:=l) h;obtain ⟨h3,h4⟩:=DC h1;refine ⟨h3,fun x hx=>?_⟩;rcases pK.1 hx with rfl | hx
  ·exact h4
  ·exact h2 x hx
theorem Und.vR {a a':Act} {u:List Nat} {d:Option Nat} (h:Und a u) (hs:∀ i,d≠some i->a'.tmps[i]? = a.tmps[i]?):Und a' (QI d u):=by
 intro s hm b;obtain ⟨h1,h2⟩:=DC hm;rw [hs s h2];exact h s h1 b
theorem Und.skip {a:Act} {u:List Nat} {d:Option Nat} (h:Und a u):Und (a.put d undef) (Fi d u):=by
 intro s hm b;rw [JE];split
 ·intro he;cases he
 ·rename_i je
  cases d with
  | none=>exact h s hm b
  | some d=>
   rcases pK.1 hm with rfl | hm
   ·have Cv:a.tmps.size<=s:=by
     by_cases qx:s < a.tmps.size
     ·exact absurd ⟨rfl,qx⟩ je
     ·omega
    rw [Z3f Cv];simp
   ·exact h s hm b
theorem JL (hc:xG P c) (W9:∀ j,dst j=(ops[j]?).bind (·.dst)):(q:Bool)->(n:Nat)->{R:Type}->{opened py:List Nat}->{l:List (Nat×Oper)}->{J:St}->{g:z8}->{a:Act}->{w:World}->{k:St->Option R}->{r:R}->
  {K:Act->World->Prop}->ZJ c base dst q n R opened py l J k=some r->zG c.ntmps g w a J->Und a py->(l.map Prod.fst).Nodup->znb g J base l->
  (∀ J' g' a' w',k J'=some r->zG c.ntmps g' w' a' J'->Ext w g w' g'->(∀ m,Out base l m->zJ g J m->zJ g' J' m)->J'.next=J.next->K a' w')->
  JK q P ops Q K l a w
 | _,0,_,_,_,_,_,_,_,_,_,_,_,h,_,_,_,_,_=>by simp [ZJ] at h
 | q,n+1,R,opened,py,[],J,g,a,w,k,r,K,h,zy,_,_,_,hK=>by
  simp only [ZJ] at h
  exact hK J g a w h zy (Ext.refl _ _) (fun m _ hf=>hf) rfl
 | q,n+1,R,opened,py,(i,o) :: l,J,g,a,w,k,r,K,h,zy,Qe,hnd,vT,hK=>by
  simp only [WY,Z2u] at hnd;have one:Tj q c J (base+8*i) o (fun J=>ZJ c base dst q n R opened (QI o.dst py) l J k)=some r->Region.wanted o (yielded ops a.tmps)=true->JK q P ops Q K ((i,o) :: l) a w:=by
   intro h hw;have z4o:∀ J1 g1 a1 w1,ZJ c base dst q n R opened (QI o.dst py) l J1 k=some r->zG c.ntmps g1 w1 a1 J1->Ext w g w1 g1->
     (∀ m,(m < base+8*i\/base+8*i+8<=m)->zJ g J m->zJ g1 J1 m)->J1.next=J.next->(∀ s,o.dst≠some s->a1.tmps[s]? = a.tmps[s]?)->JK q P ops Q K l a1 w1:=by
    intro J1 g1 a1 w1 h1 yP yU Qc PG Jz;refine JL hc W9 q n h1 yP (Qe.vR Jz) hnd.2 (fun x hx m h1 h2=>Qc m ?_ (vT x (by simp [hx]) m h1 h2)) (fun J2 g2 a2 w2 h2 wO wV Pr UJ=>?_)
    ·have je:x.1≠i:=fun he=>hnd.1 (by rw [<-he];exact Gq.2 ⟨x,hx,rfl⟩)
     omega
    ·exact hK J2 g2 a2 w2 h2 wO (yU.trans wV) (fun m hm hf=>Pr m (fun x hx=>hm x (by simp [hx])) (Qc m (hm (i,o) (by simp)) hf)) (UJ.trans PG)
   show qs q P ops Q o (JK q P ops Q K l) a w;refine qs.mono (fun a1 w1 hh=>hh.2 hh.1.2) (qs.frame (K:=fun a1 w1=>(∀ s,o.dst≠some s->a1.tmps[s]? = a.tmps[s]?)->JK q P ops Q K l a1 w1) ?_);unfold qs;rw [yQ hw]
   cases hy:N1 o with
   | true=>
    left;obtain ⟨av,v,h1,h2,h3,h4⟩:=(Xd hc hy zy (by rw [<-zg5 hy];exact h)).out;refine ⟨rfl,v,h1,fun Jz=>?_⟩;rcases pg h4 with ⟨hd,hk⟩ | ⟨d,hd,qx,hk⟩
    ·rw [hd] at Jz ⊢;exact z4o J g a w hk zy (Ext.refl _ _) (fun _ _ hm=>hm) rfl (by rw [hd];exact Jz)
    ·rw [hd] at Jz ⊢;exact z4o _ g _ w hk (zy.put qx h2) (Ext.refl _ _) (fun m _ hm=>hm.set d (h3 m hm)) rfl (by rw [hd];exact Jz)
   | false=>
    right;refine ⟨rfl,z2m (base:=base+8*i) hc zy (fun m h1 h2=>vT (i,o) (by simp) m h1 h2) h ?_⟩;intro J1 g1 a1 w1 h1 yP yU Qc PG ve;exact ⟨fun h1=>ve h1,fun Jz=>z4o J1 g1 a1 w1 h1 yP yU Qc PG Jz⟩
  have skip:ZJ c base dst q n R opened (Fi o.dst py) l (J.kB o.dst) k=some r->Region.wanted o (yielded ops a.tmps)=false->JK q P ops Q K ((i,o) :: l) a w:=by
   intro h hw;show qs q P ops Q o (JK q P ops Q K l) a w;unfold qs;rw [hw];simp only [Mu,Dh];refine JL hc W9 q n h (zy.zjf o.dst undef) Qe.skip hnd.2 (fun x hx m h1 h2=>(vT x (by simp [hx]) m h1 h2).kB o.dst) (fun J2 g2 a2 w2 h2 wO wV Pr UJ=>?_);refine hK J2 g2 a2 w2 h2 wO wV (fun m hm hf=>Pr m (fun x hx=>hm x (by simp [hx])) (hf.kB o.dst)) (UJ.trans ?_);cases o.dst <;> rfl
  simp only [ZJ] at h;split at h
  ·rename_i hg;exact one h (xB hg)
  ·rename_i j want hg;split at h
   ·simp at h
   ·rename_i t hdt;rw [W9] at hdt;split at h
    ·rename_i b hb;have hw:=WE (o:=o) (a:=a) hg hdt (Ej zy hb)
     cases hm:yE j opened with
     | true=>
      rw [hm] at h;simp only [zB] at h
      cases hbw:(b == want) with
      | true=>
       rw [hbw] at h hw
       exact one h hw
      | false=>
       rw [hbw] at h hw
       exact skip h hw
     | false=>
      rw [hm] at h;simp only [zU] at h;split at h
      ·rename_i PB d rest hsp;have hl:=splitAt_eq hsp;rw [QP] at hl
       cases hmt:(q && F1 c J PB) with
       | true=>
        rw [hmt] at h;simp only [zB] at h;have h':ZJ c base dst q n R (j :: opened) py ((i,o) :: l) (J.set t (.data .bool b)) k=some r:=by
         cases b <;> exact h
        exact JL hc W9 q n h' (XG zy hb) Qe (by simp only [WY,Z2u];exact hnd) (fun x hx m h1 h2=>(vT x hx m h1 h2).set t (by simp [z7.ids])) (fun J2 g2 a2 w2 h2 wO wV Pr UJ=>hK J2 g2 a2 w2 h2 wO wV (fun m hm hf=>Pr m hm (hf.set t (by simp [z7.ids]))) UJ)
       | false=>
       rw [hmt] at h;simp only [zU] at h
       cases UY:noM PB with
       | false=>rw [UY] at h;simp at h
       | true=>
        rw [UY] at h;simp only [zB,WB] at h;obtain ⟨v,hv,h⟩:=h;have jd:ZJ c base dst false n Bool (j :: opened) py PB (J.set t (.data .bool b)) (fun J=>BP J d)=some v:=by
         cases b <;> exact hv
        cases qx:Nat.blt d c.ntmps with
        | false=>rw [qx] at h;simp at h
        | true=>
         rw [qx] at h;simp only [zB] at h;rw [hl,X7];have zrh:(PB.map Prod.fst).Nodup/\(rest.map Prod.fst).Nodup/\∀ x∈PB.map Prod.fst,x∉rest.map Prod.fst:=by
          have:(((i,o) :: l).map Prod.fst).Nodup:=by simp only [WY,Z2u];exact hnd
          rw [hl,Z2e,Z58] at this;exact ⟨this.1,this.2.1,fun x hx hy=>this.2.2 x hx x hy rfl⟩
         have hmem:∀ x,x∈PB\/x∈rest->x∈(i,o) :: l:=by
          intro x hx;rw [hl];exact U5.2 hx
         have Kk:=XG zy hb;have q1l:=JL (K:=fun a' w'=>a'.tmps[d]? = some (.bool v)/\a'.defers=[]/\a'.tmps.size=c.ntmps/\w'.os=w.os/\w'.tape=w.tape/\w'.output=w.output/\w.drawn<=w'.drawn) hc W9 false n jd Kk Qe zrh.1
          (fun x hx m h1 h2=>(vT x (hmem x (.inl hx)) m h1 h2).set t (by simp [z7.ids]))
          (fun J' g' a' w' h' qT pz _ _=>⟨Ej qT (LG h'),qT.defers,qT.size,pz.os,pz.tape,pz.output,pz.drawn⟩)
         refine X6 (fun a1 w1 hh=>?_) PB a w (Hu PB a w (CP PB UY a w q1l));obtain ⟨⟨ve,Mj⟩,h1,h2,h3,h4,h5,h6,h7⟩:=hh;have uK:=Vg PB J;have q0g:zG c.ntmps g w a (wu PB J):=by
          refine ⟨fun i av hi=>?_,?_,zy.size,zy.defers,zy.known⟩
          ·rw [uK.1];exact zy.zk i av (gI hi).1
          ·rw [uK.1];exact zy.heap
         have yP:zG c.ntmps g w1 a1 (wu PB J):=TB q0g ve h2 h3 (fun i av hi=>Mj i (gI hi).2);have wO:zG c.ntmps g w1 a1 ((wu PB J).set d (.data .bool v)):=by
          refine ⟨fun i x hi=>?_,yP.heap,yP.size,yP.defers,yP.known⟩;simp only [St.set,GJ] at hi
          cases hbq:Nat.beq i d with
          | true=>
           rw [hbq] at hi;simp only [zB,zI] at hi;subst hi;have:=zE hbq;subst this
           exact ⟨_,h1,kZ v⟩
          | false=>rw [hbq] at hi;exact yP.zk i x hi
         have zs6:∀ m,zJ g J m->zJ g ((wu PB J).set d (.data .bool v)) m:=by
          intro m hf;have:zJ g (wu PB J) m:=⟨by rw [uK.1];exact hf.z6,hf.row,hf.box,fun i av hi=>hf.zk i av (gI hi).1,fun id av hi=>hf.cells id av (by rw [<-uK.1];exact hi)⟩;exact this.set d (by simp [z7.ids])
         have yU:Ext w g w1 g:=⟨h4,h5,h6,h7,ve.size,fun b hb _=>⟨ve b hb,rfl⟩⟩;refine JL hc W9 q n h wO (fun s hs b=>by
          obtain ⟨q1,q2⟩:=Kr hs;rw [Mj s q2];exact Qe s q1 b) zrh.2.1 (fun x hx m q1 q2=>zs6 m (vT x (hmem x (.inr hx)) m q1 q2)) (fun J2 g2 a2 w2 q2 wO wV Pr UJ=>?_)
         refine hK J2 g2 a2 w2 q2 wO (yU.trans wV) (fun m hm hf=>Pr m (fun x hx=>hm x (hmem x (.inr hx))) (zs6 m hf)) (UJ.trans uK.2)
      ·simp at h
    ·cases hmu:yE t py with
     | false=>rw [hmu] at h;simp at h
     | true=>
      rw [hmu] at h;simp only [zB] at h;exact skip h (X8 hg hdt (Qe t (GS.1 hmu)))
    ·simp at h
end
end Go.Kz
namespace Go.Kz
variable {R:Type}
theorem uN {I:Type}:(l:List I)->(i:Nat)->(za i l).map Prod.fst=List.range' i l.length
 | [],_=>rfl
 | x :: l,i=>by simp only [za,WY,uN l,Vy,List.range'_succ]
theorem Q8 {I:Type}:{l:List I}->{i:Nat}->{x:Nat×I}->x∈za i l->i<=x.1/\l[x.1-i]? = some x.2
 | [],_,_,h=>by simp [za] at h
 | y :: l,i,x,h=>by
  simp only [za,pK] at h;rcases h with rfl | h
  ·simp
  ·obtain ⟨h1,h2⟩:=Q8 h;refine ⟨by omega,?_⟩;have e:x.1-i=(x.1-(i+1))+1:=by omega
   rw [e];simpa using h2
theorem Xl {I:Type} (l:List I) (i:Nat):((za i l).map Prod.fst).Nodup:=by
 rw [uN];exact List.nodup_range'
theorem I8 {I:Type}:(l:List I)->(i:Nat)->zF l i=l[i]?
 | [],i=>by cases i <;> rfl
 | x :: l,0=>rfl
 | x :: l,i+1=>by simp only [zF,I8 l i];simp
section
variable {P:Program} {ops:Array Oper} {Q:Exit->Act->World->Prop} {q:Bool}
theorem By (j:Nat):po ops.toList j=(ops[j]?).bind (·.dst):=by
 simp only [po,I8,Z2b]
theorem Gv {o:Oper} {a:Act} {w:World} {v:Value} {K:Act->World->Prop} (h:(execOp a.eval o).run P w = .ok (.value v) w) (hk:K (a.put o.dst v) w):o.wp P a w K Q:=by
 unfold Oper.wp;rw [h,Oper.upon_value];exact hk
theorem O1:(L:List (Nat×Oper))->(∀ x∈L,ops[x.1]? = some x.2)->(a:Act)->(w:World)->JK q P ops Q (Q .normal) L a w->wpOps P ops Q (L.map Prod.fst) a w
 | [],_,a,w,h=>h
 | (i,o) :: L,hL,a,w,h=>by
  have ih:=O1 L (fun x hx=>hL x (by simp [hx]));have ho:ops[i]? = some o:=hL (i,o) (by simp);simp only [WY,wpOps,ho];have h':qs q P ops Q o (JK q P ops Q (Q .normal) L) a w:=h;unfold qs at h';split
  ·rename_i hw;rw [yQ hw] at h';left;rcases h' with ⟨_,v,h1,h2⟩ | ⟨_,h1⟩
   ·exact Gv (h1 w (Nt.refl _ w)) (ih _ _ h2)
   ·exact Oper.wp_mono (fun a' w' hh=>ih _ _ hh.2) h1
  ·rename_i hw;rw [qZ hw] at h';exact ih _ _ h'
theorem wy (x:Nat×Oper) (h:x∈za 0 ops.toList):ops[x.1]? = some x.2:=by
 have:=(Q8 h).2;rw [<-Z2b];simpa using this
theorem YX {x:Nat×Oper} (h:x∈za 0 ops.toList):x.1 < ops.toList.length:=by
 have:=(Q8 h).2;rw [Z4l] at this;exact (Z47.1 this).1
theorem zap {id:Nat} {a:Act} {w:World} (h:JK q P ops Q (Q .normal) (za 0 ops.toList) a w):(Code.region id ops false).wp P Q a w:=by
 refine wp_region ?_;have:=O1 _ wy a w h;rw [uN,<-List.range_eq_range'] at this;simpa using this
end
section
variable {P:Program} {ops:Array Oper} {c:Ctx}
theorem OD {q:Bool} {fuel:Nat} {L:List (Nat×Oper)} (hc:xG P c) {Q:Exit->Act->World->Prop} {J:St} {g:z8} {a:Act} {w:World} {k:St->Option R} {r:R} {K:Act->World->Prop}
  (hL:∀ x∈L,x.1 < ops.toList.length) (hnd:(L.map Prod.fst).Nodup)
  (h:ZJ c J.next (po ops.toList) q fuel R [] [] L J (fun J'=>k { J' with next:=J.next+8*ops.toList.length })=some r) (zy:zG c.ntmps g w a J) (hf:qP g J)
  (hK:∀ J' g' a' w',k J'=some r->zG c.ntmps g' w' a' J'->Ext w g w' g'->qP g' J'->K a' w'):JK q P ops Q K L a w:=by
 refine JL hc By q fuel h zy (by intro s hs;simp at hs) hnd (fun x _ m h1 _=>hf m (by omega)) (fun J' g' a' w' hk qT ql KZ hn=>?_);refine hK _ g' a' w' hk ⟨qT.zk,qT.heap,qT.size,qT.defers,qT.known⟩ ql (fun m hm=>?_);have AK:J.next+8*ops.toList.length<=m:=hm;have:=KZ m (fun x hx=>.inr (by have:=hL x hx;omega)) (hf m (by omega));exact ⟨this.z6,this.row,this.box,this.zk,this.cells⟩
end
end Go.Kz
