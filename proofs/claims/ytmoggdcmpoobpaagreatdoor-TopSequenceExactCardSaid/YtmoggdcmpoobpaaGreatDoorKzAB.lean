/-
  All operations together.
-/
import Derived.Test.YtmoggdcmpoobpaaGreatDoorKzXE
import Derived.Test.YtmoggdcmpoobpaaGreatDoorKzV
set_option linter.unusedVariables false
set_option linter.unusedSimpArgs false
namespace Go.Kz
variable {R:Type}
structure xW (P:Program) (c:Ctx):Prop where
 tt:gH P c.tt
 mt:Hl P c.mt
 eqs:TP P c.eqs
 ct:zat P c.ct
 ms:zgo P c.ms
 env:CH P c.env
section
variable {P:Program}{o:Oper}{a:Act}{w:World}{K:Act->World->Prop}{Q:Exit->Act->World->Prop}{c:Ctx}{σ:St}{g:z8}{k:St->Option R}{r:R}{base:Nat}{mo:Bool}
theorem Af(hc:xW P c)(hy:Mt o=true)(zq:zP c.ntmps g w a σ)(h:No c σ base o k=some r):vH P o a w g σ c k r:=by
 simp only[Mt,zA,PF]at hy;obtain⟨hj,hy⟩:=hy;simp only[No,hj,zU]at h
 cases ho:o.op with
 |move x=>exact RF (.inl ho) zq h
 |assign x=>exact RF (.inr ho) zq h
 |pick t x y=>exact zdg ho zq h
 |binOp op t x y t'=>exact z0k hc.tt hc.eqs ho zq h
 |unOp op t x=>exact zdf ho zq h
 |convert t t' x=>exact Nh hc.tt ho zq h
 |indexAddr t x i=>exact z5h hc.tt ho zq h
 |fieldAddr t x i=>exact z5i hc.tt ho zq h
 |nilCheck x=>exact Ie ho zq h
 |load t x=>exact zdk hc.tt ho zq h
 |extract x i=>exact Nf ho zq h
 |lookup t x i ok=>exact z0h hc.mt ho zq h
 |slice t x lo hi mx=>cases mx with
  |none=>exact z5f hc.tt ho zq h
  |some mx=>simp[gP,ho]at hy
 |build t ps=>exact z5m hc.tt ho zq h
 |index t x i=>exact z0i hc.tt ho zq h
 |field t x i=>exact z0j hc.tt ho zq h
 |makeInterface t x=>exact Pr hc.ct ho zq h
 |typeAssert x xt t ok=>exact Ci hc.ct ho zq h
 |makeFunc f first cap=>
  cases f with
  |func f=>exact Ii ho zq h
  |_=>simp[qq,ho]at h
 |call cl=>
  obtain⟨callee,args,ts⟩:=cl
  cases callee with
  |builtin b=>
   cases b with
   |len=>exact zkm ho hc.tt hc.mt zq h
   |max=>exact zkl ho zq h
   |min=>exact zkk ho zq h
   |_=>simp[gP,ho]at hy
  |_=>simp[gP,ho]at hy
 |_=>simp[gP,ho]at hy
theorem zdl(hj:Kg o=true)(zq:zP c.ntmps g w a σ)(h:k (σ.gj o.dst)=some r)(hK:vz c.ntmps k r g w σ base (N0 o) K):o.wp P a w K Q:=by
 have ho:∃v,o.op=.assign (.const v):=by
  unfold Kg at hj;split at hj
  ·exact⟨_,by assumption⟩
  ·exact⟨_,by assumption⟩
  ·exact⟨_,by assumption⟩
  ·simp at hj
 obtain⟨v,ho⟩:=ho;unfold Oper.wp;have zn:(execOp a.eval o).run P w=.ok (.value (a.eval (.const v))) w:=by simp[execOp,ho]
 rw[zn,Oper.upon_value];refine hK _ g _ w h (zq.zki o.dst _) (Ext.refl _ _) (λm _ hm=>hm.gj o.dst) ?_ (λ_=>vq.refl w);cases o.dst<;>rfl
theorem UM(hc:xW P c)(zq:zP c.ntmps g w a σ)(v7:∀m,base<=m->m<base+8->zu g σ m)(h:No c σ base o k=some r)(hK:vz c.ntmps k r g w σ base (N0 o) K):o.wp P a w K Q:=by
 have hf:zu g σ base:=v7 base (jq _) (by omega)
 cases hj:Kg o with
 |true=>
  simp only[No,hj,zJ]at h
  exact zdl hj zq h hK
 |false=>
 cases hy:Mt o with
 |true=>exact(Af hc hy zq h).wp zq hK
 |false=>
  simp only[No,hj,zU]at h;simp only[Mt,hj,Z1z,Z3k]at hy
  cases ho:o.op with
  |alloc t=>exact z5o hc.tt ho zq hf h hK
  |box t x=>exact zkn ho zq hf h hK
  |makeSlice t x y=>exact FU hc.tt ho zq hf h hK
  |buildSlice t n ps=>exact Cr hc.tt ho zq hf (λow u JZ hu hb h=>zdi hc.tt ho zq v7 JZ hu hb h hK) h hK
  |slice t x lo hi mx=>cases mx with
   |none=>simp[gP,ho]at hy
   |some mx=>exact z0g hc.tt ho zq h hK
  |store t x y=>exact z5e hc.tt ho zq h (by simpa[N0,ho]using hK)
  |mapUpdate t x i y=>exact FP hc.mt ho zq h (by simpa[N0,ho]using hK)
  |mapEntry t x i=>exact Ih hc.mt ho zq h (by simpa[N0,ho]using hK)
  |entryStore t x i y=>exact Co hc.mt ho zq h (by simpa[N0,ho]using hK)
  |makeMap t rs=>cases rs with
   |none=>exact Nd ho zq hf h hK
   |some _=>simp[qq,ho]at h
  |call cl=>
   obtain⟨callee,args,ts⟩:=cl
   cases callee with
   |builtin b=>
    cases b with
    |append=>exact z0l hc.tt ho zq hf (λx y t u ow av bv ha ht JZ hx hy h=>Ni hc.tt ho zq ha ht JZ hx hy h (by simpa[N0,ho]using hK)) h (by simpa[N0,ho]using hK)
    |clear=>exact z5k hc.tt ho zq h (by simpa[N0,ho]using hK)
    |copy=>exact zdm hc.tt ho zq h (by simpa[N0,ho]using hK)
    |_=>first|(simp[gP,ho]at hy;done)|(simp[qq,ho]at h;done)
   |value x=>
    simp only[qq,ho]at h;split at h
    ·rename_i gv av hx ha;exact zdn hc.env ho rfl zq v7 hx ha h hK
    ·simp at h
   |invoke x m=>
    simp only[qq,ho]at h;split at h
    ·rename_i xv av hx ha;obtain⟨fid,all,vals,zn,hall,hu,h⟩:=Rt hc.tt hc.ms ho zq hx ha h;exact Il hc.env zn hall zq v7 (z9w h hu) hK
    ·simp at h
  |_=>first|(simp[gP,ho]at hy;done)|(simp[qq,ho]at h;done)
end
end Go.Kz
namespace Go.Kz
variable {R:Type}
theorem Jh{z6:Nat->Option Obj}{Y:Nat->Option Nat}{t:Ty}{l:List t.den}{e i:Nat}{h:Option PB}{o:Obj}(hr:Obj.wG z6 Y (.nest t l e i h)=some o):o=.nest t l 0 0 h/\UR h []=true:=by
 simp only[Obj.wG]at hr
 cases hk:UR h []with
 |false=>rw[hk]at hr;simp at hr
 |true=>rw[hk]at hr;simp only[zJ,zI]at hr;exact⟨hr.symm,rfl⟩
theorem jK{x:Nat}:{l:List Nat}->(qs x l=true↔x∈l)
 |[]=>by simp[qs]
 |y::l=>by
  simp only[qs,gJ]
  cases h:Nat.beq y x with
  |true=>simp[zE h]
  |false=>
   have va:x≠y:=by intro he;subst he;rw[R4]at h;simp at h
   simp[va,jK (l:=l)]
theorem qA{x:Nat}{l:List Nat}:qs x l=false↔x∉l:=by
 rw[<-jK];simp
def qC(g:z8)(σ:St):Prop:=∀m,σ.next<=m->zu g σ m
theorem US{x:Nat}:{l:List Nat}->{k j:Nat}->qI x l k=some j->∃d,j=k+d/\zT l d=some x
 |[],_,_,h=>by simp[qI]at h
 |y::l,k,j,h=>by
  simp only[qI]at h
  cases hb:Nat.beq y x with
  |true=>
   rw[hb]at h;simp only[zJ,zI]at h
   exact⟨0,by omega,by simp[zT,zE hb]⟩
  |false=>
   rw[hb]at h;obtain⟨d,hd,hn⟩:=US (l:=l) h;exact⟨d+1,by omega,hn⟩
theorem wU{x j:Nat}{l:List Nat}(h:qI x l 0=some j):zT l j=some x:=by
 obtain⟨d,hd,hn⟩:=US h;rw[hd,Wq];exact hn
theorem YF{x:Nat}:{l:List Nat}->{k d:Nat}->l.Nodup->zT l d=some x->qI x l k=some (k+d)
 |[],_,d,_,h=>by cases d<;>simp[zT]at h
 |y::l,k,0,_,h=>by
  simp only[zT,zI]at h;subst h
  simp[qI,R4]
 |y::l,k,d+1,hn,h=>by
  simp only[Z2m]at hn;have hm:x∈l:=js h;have va:Nat.beq y x=false:=by
   cases hb:Nat.beq y x with
   |true=>rw[zE hb]at hn;exact absurd hm hn.1
   |false=>rfl
  simp only[qI,va,zU];rw[YF (l:=l) hn.2 h];congr 1;omega
theorem xT{I:Type}:{l:List I}->{i:Nat}->i<l.length->∃x,zT l i=some x
 |[],_,h=>by simp at h
 |x::_,0,_=>⟨x,rfl⟩
 |_::l,i+1,h=>xT (l:=l) (by simpa using h)
theorem xA{z6:Nat->Option Obj}:(n:Nat)->(todo seen:List Nat)->seen.Nodup->(wc z6 n todo seen).Nodup
 |0,_,_,h=>h
 |_+1,[],_,h=>h
 |n+1,x::todo,seen,h=>by
  simp only[wc]
  cases hm:qs x seen with
  |true=>exact xA n _ _ h
  |false=>
   have hx:(seen++[x]).Nodup:=by
    rw[Z49];refine⟨h,by simp,λa ha b hb=>?_⟩;simp only[Om]at hb;subst hb;intro he;subst he;exact qA.1 hm ha
   simp only[zU];split<;>exact xA n _ _ hx
def kC(g:z8)(ids:List Nat):z8 where
 tag:=λb=>match g.tag b with
  |.row i p=>(match qI i ids 0 with
   |some j=>.row j p
   |none=>.qw)
  |.box i=>(match qI i ids 0 with
   |some j=>.box j
   |none=>.qw)
  |t=>t
 sv:=λj p=>match zT ids j with
  |some i=>g.sv i p
  |none=>undef
 qY:=λj=>match zT ids j with
  |some i=>g.qY i
  |none=>0
section
variable {w:World}{g:z8}{ids:List Nat}
theorem xX:zS w g w (kC g ids):=⟨λb hb=>⟨by simp[kC,hb],rfl⟩⟩
theorem z4y:Ext w g w (kC g ids):=by
 refine⟨rfl,rfl,rfl,jq _,jq _,λb _ ht=>⟨rfl,?_⟩⟩;rcases ht with ht|ht<;>simp[kC,ht]
theorem ZI{i j:Nat}(h:zT ids j=some i)(p:Path):(kC g ids).sv j p=g.sv i p:=by simp[kC,h]
theorem kB{i j:Nat}(h:zT ids j=some i):(kC g ids).qY j=g.qY i:=by simp[kC,h]
theorem AD(hn:ids.Nodup){i j:Nat}(h:zT ids j=some i):Zi w g w (kC g ids) i [] j []:=by
 have hx:=YF (k:=0) hn h;rw[Wq]at hx;exact⟨λq=>ZI h _,λq b hb=>⟨by simp[kC,hb,hx],rfl⟩⟩
theorem AE(hn:ids.Nodup){i j:Nat}(h:zT ids j=some i){b:Nat}(hb:g.tag b=.box i):(kC g ids).tag b=.box j:=by
 have hx:=YF (k:=0) hn h;rw[Wq]at hx;simp[kC,hb,hx]
theorem Fx{b m:Nat}(h:(∃p,(kC g ids).tag b=.row m p)\/(kC g ids).tag b=.box m):m<ids.length:=by
 have key:∀i j,qI i ids 0=some j->j<ids.length:=λi j h=>kg (wU h)
 simp only[kC]at h
 cases ht:g.tag b with
 |qw=>rw[ht]at h;simp at h
 |ro=>rw[ht]at h;simp at h
 |row i p=>
  rw[ht]at h
  cases hx:qI i ids 0 with
  |none=>simp[hx]at h
  |some j=>simp[hx]at h;rw[<-h];exact key i j hx
 |box i=>
  rw[ht]at h
  cases hx:qI i ids 0 with
  |none=>simp[hx]at h
  |some j=>simp[hx]at h;rw[<-h];exact key i j hx
theorem NO{b:Nat}(h:(kC g ids).tag b≠.qw):g.tag b≠.qw:=by
 intro h';simp[kC,h']at h
structure Wy (z6:qQ) (ids:List Nat) (os:List Obj):Prop where
 len:os.length=ids.length
 get:∀j i,zT ids j=some i->∃o o',z6 i=some o/\o.wG z6 (λi=>qI i ids 0)=some o'/\zT os j=some o'
theorem YV{Y:Nat->Option Nat}{z6:qQ}:{l:List Nat}->{os:List Obj}->VR Y z6 l=some os->
  os.length=l.length/\∀j i,zT l j=some i->∃o o',z6 i=some o/\o.wG z6 Y=some o'/\zT os j=some o'
 |[],os,h=>by
  simp only[VR,zI]at h;subst h
  exact⟨rfl,λj i h=>by simp[zT]at h⟩
 |x::l,os,h=>by
  simp only[VR]at h;split at h
  ·rename_i o os' ho hos;simp only[zI]at h;subst h;obtain⟨h1,h2⟩:=YV hos;refine⟨by simp[h1],λj i hj=>?_⟩
   cases j with
   |zero=>
    simp only[zT,zI]at hj;subst hj;simp only[Zh]at ho;obtain⟨o0,h3,h4⟩:=ho
    exact⟨o0,o,h3,h4,rfl⟩
   |succ j=>exact h2 j i hj
  ·simp at h
theorem AB{z6:qQ}{Y:Nat->Option Nat}:{a a':z7}->a.wG z6 Y=some a'->a'.sk=a.sk
 |.data t d,a',h=>by simp only[z7.wG,zI]at h;subst h;rfl
 |.za,a',h=>by simp only[z7.wG,zI]at h;subst h;rfl
 |.ref i p ep,a',h=>by
  simp only[z7.wG]at h;split at h
  ·rename_i t l e zg
   cases hb:Nat.beq e ep with
   |false=>rw[hb]at h;simp at h
   |true=>rw[hb]at h;simp only[zJ,kT]at h;obtain⟨j,hj,rfl⟩:=h;rfl
  ·simp at h
 |.view i p ep x y,a',h=>by
  simp only[z7.wG]at h;split at h
  ·rename_i t l e zg
   cases hb:Nat.beq e ep with
   |false=>rw[hb]at h;simp at h
   |true=>rw[hb]at h;simp only[zJ,kT]at h;obtain⟨j,hj,rfl⟩:=h;rfl
  ·simp at h
 |.zw i p,a',h=>by simp only[z7.wG,kT]at h;obtain⟨j,hj,rfl⟩:=h;rfl
 |.qF i,a',h=>by simp only[z7.wG,kT]at h;obtain⟨j,hj,rfl⟩:=h;rfl
 |.nv pt i p ep,a',h=>by
  simp only[z7.wG]at h;split at h
  ·rename_i t l e i' hh zg
   cases hb:(UR hh p&&Nat.beq (Hr false p e i') ep) with
   |false=>rw[hb]at h;simp at h
   |true=>rw[hb]at h;simp only[zJ,kT]at h;obtain⟨j,hj,rfl⟩:=h;rfl
  ·simp at h
 |.qW f c,a',h=>by simp only[z7.wG,kT]at h;obtain⟨j,hj,rfl⟩:=h;rfl
 | .ZU f c,a',h=>by simp only[z7.wG,kT]at h;obtain⟨j,hj,rfl⟩:=h;rfl
 |.agg c,a',h=>by
  simp only[z7.wG,kT]at h;obtain⟨c',hc,rfl⟩:=h
  simp only[z7.sk,AB hc]
 |.pr a b,a',h=>by
  simp only[z7.wG]at h;split at h
  ·rename_i x y hx hy;simp only[zI]at h;subst h;simp only[z7.sk,AB hx,AB hy]
  ·simp at h
 |.un,a',h=>by simp only[z7.wG,zI]at h;subst h;rfl
 |.jV _ _ _,a',h=>by simp[z7.wG]at h
 |.jD _,a',h=>by simp[z7.wG]at h
theorem Um{z6:qQ}{Y:Nat->Option Nat}{a:z7}(h:a.kI=false):Zd z6 Y a=a.wG z6 Y:=by
 cases a<;>first|rfl|simp[z7.kI]at h
theorem OR{z6:qQ}{Y:Nat->Option Nat}{a a':z7}(h:Zd z6 Y a=some a'):a'.sk=a.sk:=by
 cases ht:a.kI with
 |false=>rw[Um ht]at h;exact AB h
 |true=>
  cases a<;>simp[z7.kI]at ht;simp only[Zd,kT]at h;obtain⟨c,hc,rfl⟩:=h;simp only[z7.sk,AB hc]
theorem HN{z6:qQ}{Y:Nat->Option Nat}{PC:Nat}{n:Int}{left:List Int}{cur:Int}{a':z7}(h:Zd z6 Y (xZ PC n left cur)=some a'):∃j,Y PC=some j/\a'=xZ j n left cur:=by
 simp only[xZ,Zd,z7.wG,kT]at h;obtain⟨c,hc,rfl⟩:=h
 cases hm:Y PC with
 |none=>rw[hm]at hc;simp at hc
 |some j=>
  rw[hm]at hc;simp only[Z24,zI]at hc;exact⟨j,rfl,by rw[<-hc];rfl⟩
theorem Jf{z6:qQ}{os:List Obj}(hn:ids.Nodup)(ho:Wy z6 ids os):{a a':z7}->{cs:List Value}->a.wG z6 (λi=>qI i ids 0)=some a'->jO w g z6 a cs->
  jO w (kC g ids) (zT os) a' cs/\a'.sk=a.sk/\a'.isAgg=a.isAgg/\(∀m∈a'.ids,m<ids.length)/\(∀c,a≠.jD c)/\(∀x y,a'=.pr x y->∃x' y',a=.pr x' y')/\(a'=.un->a=.un)
 |.data t d,a',cs,h,zc=>by
  simp only[z7.wG,zI]at h;subst h
  exact⟨⟨zc.1,zc.2.kept xX⟩,rfl,rfl,by simp[z7.ids],by simp,by simp,by simp⟩
 |.za,a',cs,h,zc=>by
  simp only[z7.wG,zI]at h;subst h
  exact⟨zc,rfl,rfl,by simp[z7.ids],by simp,by simp,by simp⟩
 |.ref i p ep,a',cs,h,zc=>by
  simp only[z7.wG]at h;split at h
  ·rename_i t l e zg
   cases hb:Nat.beq e ep with
   |false=>rw[hb]at h;simp at h
   |true=>
    rw[hb]at h;have he:=zE hb;subst he;simp only[zJ,kT]at h;obtain⟨j,hj,rfl⟩:=h;have WS:=wU hj;obtain⟨v,hv,qN,hx⟩:=zc;refine⟨⟨v,hv,qN,λt' l' e' he'=>?_⟩,rfl,rfl,by simpa[z7.ids]using kg WS,by simp,by simp,by simp⟩;obtain⟨o,o',h1,h2,h3⟩:=ho.get j i WS;rw[zg]at h1;simp only[zI]at h1;subst h1;simp only[Obj.wG,zI]at h2;subst h2;rw[h3]at he';simp only[zI,Obj.row.injEq]at he';obtain⟨_,_,rfl⟩:=he';exact⟨jq _,λ_=>by rw[ZI WS];exact(hx _ _ _ zg).2 rfl⟩
  ·simp at h
 |.view i p ep x y,a',cs,h,zc=>by
  simp only[z7.wG]at h;split at h
  ·rename_i t l e zg
   cases hb:Nat.beq e ep with
   |false=>rw[hb]at h;simp at h
   |true=>
    rw[hb]at h;have he:=zE hb;subst he;simp only[zJ,kT]at h;obtain⟨j,hj,rfl⟩:=h;have WS:=wU hj;obtain⟨v,hv,qN,hx⟩:=zc;refine⟨⟨v,hv,qN,λt' l' e' he'=>?_⟩,rfl,rfl,by simpa[z7.ids]using kg WS,by simp,by simp,by simp⟩;obtain⟨o,o',h1,h2,h3⟩:=ho.get j i WS;rw[zg]at h1;simp only[zI]at h1;subst h1;simp only[Obj.wG,zI]at h2;subst h2;rw[h3]at he';simp only[zI,Obj.row.injEq]at he';obtain⟨rfl,hl,rfl⟩:=he';have hl:=eq_of_heq hl;subst hl;exact⟨jq _,λ_=>by rw[ZI WS];exact(hx _ _ _ zg).2 rfl⟩
  ·simp at h
 |.zw i p,a',cs,h,zc=>by
  simp only[z7.wG,kT]at h;obtain⟨j,hj,rfl⟩:=h;have WS:=wU hj;obtain⟨v,hv,qN,hx⟩:=zc;refine⟨⟨v,hv,qN,λy hy=>?_⟩,rfl,rfl,by simpa[z7.ids]using kg WS,by simp,by simp,by simp⟩;obtain⟨o,o',h1,h2,h3⟩:=ho.get j i WS;rw[h3]at hy;simp only[zI]at hy;subst hy
  cases o with
  |row t l e=>simp[Obj.wG]at h2
  |map k v m=>simp[Obj.wG]at h2
  |nest t l e i h=>have:=(Jh h2).1;simp at this
  |cell z=>
   simp only[Obj.wG,kT,Obj.cell.injEq]at h2;obtain⟨z',hz,rfl⟩:=h2;obtain⟨off,s,jH,uZ⟩:=hx _ h1
   exact⟨off,s,by rw[OR hz];exact jH,by rw[kB WS];exact uZ⟩
 |.qF i,a',cs,h,zc=>by
  simp only[z7.wG,kT]at h;obtain⟨j,hj,rfl⟩:=h;have WS:=wU hj;obtain⟨v,hv,qN,hx⟩:=zc;refine⟨⟨v,hv,qN,λkt vt m hm=>?_⟩,rfl,rfl,by simpa[z7.ids]using kg WS,by simp,by simp,by simp⟩;obtain⟨o,o',h1,h2,h3⟩:=ho.get j i WS;rw[h3]at hm;simp only[zI]at hm;subst hm
  cases o with
  |row t l e=>simp[Obj.wG]at h2
  |cell z=>simp[Obj.wG]at h2
  |nest t l e i h=>have:=(Jh h2).1;simp at this
  |map k' v' m'=>
   rw[kB WS];exact hx _ _ _ h1
 |.nv pt i p ep,a',cs,h,zc=>by
  simp only[z7.wG]at h;split at h
  ·rename_i t l e i' hh zg
   cases hb:(UR hh p&&Nat.beq (Hr false p e i') ep) with
   |false=>rw[hb]at h;simp at h
   |true=>
    rw[hb]at h;simp only[zA]at hb;have he:=zE hb.2;simp only[zJ,kT]at h;obtain⟨j,hj,rfl⟩:=h;have WS:=wU hj;obtain⟨v,hv,qN,hx⟩:=zc;refine⟨⟨v,hv,qN,λt' l' e' i'' h'' he'=>?_⟩,rfl,rfl,by simpa[z7.ids]using kg WS,by simp,by simp,by simp⟩;obtain⟨o,o',h1,h2,h3⟩:=ho.get j i WS;rw[zg]at h1;simp only[zI]at h1;subst h1;obtain⟨rfl,_⟩:=Jh h2;rw[h3]at he';simp only[zI,Obj.nest.injEq]at he';obtain⟨_,_,rfl,rfl,_⟩:=he';refine⟨v8 _,λ_=>⟨λ_=>by rw[ZI WS];exact((hx _ _ _ _ _ zg).2 he).1 rfl,λh=>(by simp at h)⟩⟩
  ·simp at h
 |.qW f c,a',cs,h,zc=>by
  simp only[z7.wG,kT]at h;obtain⟨c',hc,rfl⟩:=h;obtain⟨vs,hv,hx⟩:=zc;obtain⟨h1,h2,_,h3,_⟩:=Jf hn ho hc hx
  exact⟨⟨vs,hv,h1⟩,rfl,rfl,h3,by simp,by simp,by simp⟩
 | .ZU t c,a',cs,h,zc=>by
  simp only[z7.wG,kT]at h;obtain⟨c',hc,rfl⟩:=h;obtain⟨x,Dv,hv,hx,hxv⟩:=zc;obtain⟨h1,h2,w8,h3,_⟩:=Jf hn ho hc hx
  exact⟨⟨x,Dv,hv,h1,by rw[w8];exact hxv⟩,rfl,rfl,h3,by simp,by simp,by simp⟩
 |.agg c,a',cs,h,zc=>by
  simp only[z7.wG,kT]at h;obtain⟨c',hc,rfl⟩:=h;obtain⟨h1,h2,_,h3,_⟩:=Jf hn ho hc (show jO w g z6 c cs from zc)
  exact⟨h1,h2,rfl,h3,by simp,by simp,by simp⟩
 |.pr a b,a',cs,h,zc=>by
  simp only[z7.wG]at h;split at h
  ·rename_i x y hx hy;simp only[zI]at h;subst h;obtain⟨c1,c2,Zw,ok1,ok2⟩:=zc;obtain⟨h1,h2,_,h3,_⟩:=Jf hn ho hx ok1;obtain⟨k1,k2,_,k3,_⟩:=Jf hn ho hy ok2;refine⟨⟨c1,c2,Zw,h1,k1⟩,by simp[z7.sk,h2,k2],rfl,λm hm=>?_,by simp,λ_ _ _=>⟨a,b,rfl⟩,by simp⟩;simp only[z7.ids,PH]at hm;rcases hm with hm|hm
   ·exact h3 m hm
   ·exact k3 m hm
  ·simp at h
 |.un,a',cs,h,zc=>by
  simp only[z7.wG,zI]at h;subst h
  exact⟨zc,rfl,rfl,by simp[z7.ids],by simp,by simp,by simp⟩
 |.jV _ _ _,a',cs,h,_=>by simp[z7.wG]at h
 |.jD _,a',cs,h,_=>by simp[z7.wG]at h
theorem RB{z6:qQ}{os:List Obj}(hn:ids.Nodup)(ho:Wy z6 ids os){a a':z7}{v:Value}(h:a.wG z6 (λi=>qI i ids 0)=some a')(hv:qy w g z6 a v):
  qy w (kC g ids) (zT os) a' v/\∀m∈a'.ids,m<ids.length:=by
 have ht:∀c,a≠.jD c:=by intro c hc;subst hc;simp[z7.wG]at h
 obtain⟨cs,zc,Vw⟩:=gq hv ht;obtain⟨h1,h2,h3,h4,h5,h6,h7⟩:=Jf hn ho h zc;refine⟨y8 h1 (by rw[h3];exact Vw) (λx y he=>?_) (λhe=>?_),h4⟩
 ·obtain⟨x',y',rfl⟩:=h6 x y he;simp only[qy]at hv
 ·have:=h7 he;subst this;simp only[qy]at hv
theorem RC{z6:qQ}{os:List Obj}(hn:ids.Nodup)(ho:Wy z6 ids os){i j:Nat}(hj:zT ids j=some i){o o':Obj}(h:o.wG z6 (λi=>qI i ids 0)=some o')(zc:qz w g z6 i o):
  qz w (kC g ids) (zT os) j o'/\∀y,o'=.cell y->∀m∈y.ids,m<ids.length:=by
 cases o with
 |row t l e=>
  simp only[Obj.wG,zI]at h;subst h;refine⟨⟨zc.1,?_⟩,by simp⟩;rw[ZI hj]
  exact zM.move xX (o:=some (i,[])) (o':=some (j,[])) (AD hn hj) zc.2
 |cell y=>
  simp only[Obj.wG,kT]at h;obtain⟨y',hy,rfl⟩:=h
  cases JZ:y.kI with
  |true=>
   cases uc:y.kp with
   |true=>
    obtain⟨x,rfl⟩:=BV uc;obtain⟨c,e,h1,h2,h3⟩:=(qz.W7 uc).1 zc;simp only[Zd,kT]at hy;obtain⟨x',hx,rfl⟩:=hy;obtain⟨k1,_,_,k2,_⟩:=Jf hn ho hx h3;have Ld:(z7.jD x').kp=true:=by
     cases x<;>simp[z7.kp]at uc
     ·simp only[z7.wG,kT]at hx;obtain⟨x2,hx,rfl⟩:=hx;rfl
     ·simp only[z7.wG,kT]at hx;obtain⟨x2,hx,rfl⟩:=hx;rfl
    refine⟨(qz.W7 Ld).2 ⟨c,e,by rw[kB hj];exact h1,?_,k1⟩,λz hz=>?_⟩
    ·rw[kB hj];exact(xX (w:=w).qY _ h2).1
    ·simp only[Obj.cell.injEq]at hz
     subst hz;exact k2
   |false=>
   obtain⟨PC,n,bm,seen,last,rfl,h1,h2,h3,h4⟩:=(qz.iter JZ uc).1 zc;obtain⟨j',gg,rfl⟩:=HN hy;have WS:=wU gg;refine⟨(qz.iter rfl).2 ⟨j',n,bm,seen,last,rfl,by rw[kB hj];exact h1,by rw[kB hj];exact AE hn hj h2,h3,λkt vt m hm=>?_⟩,λz hz=>?_⟩
   ·obtain⟨o,o',k1,k2,k3⟩:=ho.get j' PC WS;rw[k3]at hm;simp only[zI]at hm;subst hm
    cases o with
    |row t l e=>simp[Obj.wG]at k2
    |cell z=>simp[Obj.wG]at k2
    |nest t l e i h=>have:=(Jh k2).1;simp at this
    |map k' v' m'=>rw[kB WS];exact h4 _ _ _ k1
   ·simp only[Obj.cell.injEq]at hz;subst hz
    simpa[xZ,z7.ids]using kg WS
  |false=>
  rw[Um JZ]at hy;obtain⟨c,e,h1,h2,h3⟩:=zc.out JZ;obtain⟨k1,_,_,k2,_⟩:=Jf hn ho hy h3;refine⟨qz.mk ⟨c,e,by rw[kB hj];exact h1,by rw[kB hj];exact AE hn hj h2,k1⟩,λz hz=>?_⟩;simp only[Obj.cell.injEq]at hz
  subst hz;exact k2
 |map kt vt m=>
  simp only[Obj.wG,zI]at h;subst h;obtain⟨es,ck,h1,h2,h3,h4,h5,h6⟩:=zc
  exact⟨⟨es,ck,by rw[kB hj];exact h1,by rw[kB hj];exact AE hn hj h2,h3,h4,h5.kept xX,h6⟩,by simp⟩
 |nest t l e i' hole=>
  obtain⟨rfl,hk⟩:=Jh h;refine⟨?_,by simp⟩;have hm:=AD (w:=w) (g:=g) hn hj
  match hole,hk,zc with
  |none,_,zc=>
   show zM w (kC g ids) (some (j,[])) (.sl true t) l [(kC g ids).sv j []];rw[ZI hj]
   exact zM.move xX (o:=some (i,[])) (o':=some (j,[])) hm (show zM w g (some (i,[])) (.sl true t) l [g.sv i []] from zc)
  |some (.low d),_,zc=>
   obtain⟨⟨bk,o0,OS,zei⟩,b,off,c,e,cap,h1,h2,h3,h4,h5,h6,h7⟩:=(show TK w g i t l d from zc);obtain⟨k1,_⟩:=hm.qY [] b h4
   exact⟨⟨bk,o0,OS,by rw[ZI hj];exact zei⟩,b,off,c,e,cap,by rw[ZI hj];exact h1,h2,h3,k1,h5,h6,λi' hi hd=>zM.move xX (o:=some (i,[.idx i'])) (o':=some (j,[.idx i'])) (hm.step (.idx i')) (h7 i' hi hd)⟩
  |some (.one p),hk,_=>simp[UR]at hk
end
theorem WA{z6:qQ}{Y:Nat->Option Nat}:{l l':List (Nat×z7)}->Ji z6 Y l=some l'->∀i a',yN l' i=some a'->∃a,yN l i=some a/\a.wG z6 Y=some a'
 |[],l',h,i,a',hi=>by
  simp only[Ji,zI]at h;subst h
  simp[yN]at hi
 |(j,a)::l,l',h,i,a',hi=>by
  simp only[Ji]at h;split at h
  ·rename_i a1 l1 h1 h2;simp only[zI]at h;subst h;simp only[yN]at hi⊢
   cases hb:Nat.beq j i with
   |true=>
    rw[hb]at hi;simp only[zJ,zI]at hi;subst hi
    exact⟨a,by simp,h1⟩
   |false=>
    rw[hb]at hi;simp only[zU]at hi⊢;exact WA h2 i a' hi
  ·simp at h
theorem V5{σ:St}:{live:List Nat}->{l:List (Nat×z7)}->QB σ live=some l->∀i a,yN l i=some a->σ.zy i=some a
 |[],l,h,i,a,hi=>by
  simp only[QB,zI]at h;subst h
  simp[yN]at hi
 |j::live,l,h,i,a,hi=>by
  simp only[QB]at h;split at h
  ·rename_i a1 l1 h1 h2;simp only[zI]at h;subst h;simp only[yN]at hi
   cases hb:Nat.beq j i with
   |true=>
    rw[hb]at hi;simp only[zJ,zI]at hi;subst hi
    rw[<-zE hb];exact h1
   |false=>
    rw[hb]at hi;exact V5 h2 i a hi
  ·simp at h
section
variable {n:Nat}{w:World}{a:Act}{g:z8}{σ:St}{r:R}
theorem z4x{k:List (Nat×z7)->List Obj->Option R}{l:List (Nat×z7)}(hl:∀i a,yN l i=some a->σ.zy i=some a)(zq:zP n g w a σ)(h:NN l σ k=some r):
  ∃sl os g',k sl os=some r/\zP n g' w a (St.of sl os)/\Ext w g w g'/\qC g' (St.of sl os):=by
 unfold NN at h;simp only at h;split at h
 ·rename_i l' os hs hos;have hnd:(wc σ.z6 100 (l.flatMap λx=>x.2.ids) []).Nodup:=xA _ _ _ (by simp);generalize gA:wc σ.z6 100 (l.flatMap λx=>x.2.ids) []=ids at *;obtain⟨hlen,pP⟩:=YV hos;have qU:Wy σ.z6 ids os:=⟨hlen,pP⟩;have zhx:∀i av,yN l' i=some av->∃v,a.tmps[i]? = some v/\qy w (kC g ids) (zT os) av v/\∀m∈av.ids,m<ids.length:=by
   intro i av hi;obtain⟨a0,h1,h2⟩:=WA hs i av hi;obtain⟨v,hv,zc⟩:=zq.zy i a0 (hl i a0 h1);obtain⟨k1,k2⟩:=RB hnd qU h2 zc;exact⟨v,hv,k1,k2⟩
  have zg:∀j o',zT os j=some o'->qz w (kC g ids) (zT os) j o'/\∀y,o'=.cell y->∀m∈y.ids,m<ids.length:=by
   intro j o' hj;obtain⟨i,hi⟩:=xT (l:=ids) (i:=j) (by rw[<-hlen];exact kg hj);obtain⟨o,o2,h1,h2,h3⟩:=pP j i hi;rw[hj]at h3;simp only[zI]at h3;subst h3;exact RC hnd qU hi h2 (zq.heap.z6 i o h1)
  refine⟨l',os,kC g ids,h,⟨λi av hi=>?_,⟨λj o' hj=>(zg j o' hj).1,λb hb=>zq.heap.tags b (NO hb)⟩,zq.size,zq.defers,zq.known.kept xX⟩,z4y,λm hm=>?_⟩
  ·obtain⟨v,h1,h2,_⟩:=zhx i av hi;exact⟨v,h1,h2⟩
  ·have Ub:ids.length<=m:=by rw[<-hlen];exact hm
   refine⟨?_,λb p hb=>?_,λb hb=>?_,λi av hi hmem=>?_,λj y hj hmem=>?_⟩
   ·cases hc:zT os m with
    |none=>exact hc
    |some o=>have:=kg hc;omega
   ·have:=Fx (.inl ⟨p,hb⟩);omega
   ·have:=Fx (.inr hb);omega
   ·obtain⟨v,_,_,h3⟩:=zhx i av hi;have:=h3 m hmem;omega
   ·have:=(zg j _ hj).2 y rfl m hmem;omega
 ·simp at h
end
theorem z4f{a b:Step}(h:z4g a b=true):a=b:=by
 cases a<;>cases b<;>simp[z4g]at h<;>rfl
theorem IS:{p q:Path}->Di p q=true->p=q
 |[],[],_=>rfl
 |a::p,b::q,h=>by
  simp only[Di,zA]at h
  rw[z4f h.1,IS h.2]
 |[],_::_,h=>by simp[Di]at h
 |_::_,[],h=>by simp[Di]at h
theorem yL{b:Bool}{x:Option R}{r:R}(h:cond b x none=some r):b=true/\x=some r:=by
 cases b<;>simp_all
theorem zC.wj:(p:zC)->{a:z7}->{k:p.den->Option R}->{r:R}->p.take a k=some r->∃d,a=p.mk d/\k d=some r
 |.val t,a,k,r,h=>by
  cases a with
  |data u d=>
   simp only[zC.take]at h;replace h:=yz h;obtain⟨rfl,h⟩:=h
   exact⟨d,rfl,h⟩
  |_=>simp[zC.take]at h
 |.za,a,k,r,h=>by
  cases a with
  |za=>exact⟨(),rfl,h⟩
  |_=>simp[zC.take]at h
 |.ref id,a,k,r,h=>by
  cases a with
  |ref vT p ep=>
   cases p with
   |nil=>
    simp only[zC.take]at h;replace h:=yL h;obtain⟨hb,h⟩:=h;simp only[zA,YX]at hb;obtain⟨rfl,rfl⟩:=hb
    exact⟨(),rfl,h⟩
   |cons s q=>simp[zC.take]at h
  |_=>simp[zC.take]at h
 |.view id,a,k,r,h=>by
  cases a with
  |view vT p ep x y=>
   cases p with
   |nil=>
    simp only[zC.take]at h;replace h:=yL h;obtain⟨hb,h⟩:=h;simp only[zA,YX]at hb;obtain⟨rfl,rfl⟩:=hb
    exact⟨(x,y),rfl,h⟩
   |cons s q=>simp[zC.take]at h
  |_=>simp[zC.take]at h
 |.zw id p,a,k,r,h=>by
  cases a with
  |zw vT p'=>
   simp only[zC.take]at h;replace h:=yL h;obtain⟨hb,h⟩:=h;simp only[zA,YX]at hb;obtain⟨rfl,hb⟩:=hb;obtain rfl:=IS hb
   exact⟨(),rfl,h⟩
  |_=>simp[zC.take]at h
 |.qF id,a,k,r,h=>by
  cases a with
  |qF vT=>
   simp only[zC.take]at h;replace h:=yL h;obtain⟨hb,h⟩:=h;simp only[YX]at hb;subst hb
   exact⟨(),rfl,h⟩
  |_=>simp[zC.take]at h
 |.nv id,a,k,r,h=>by
  cases a with
  |nv pt vT p ep=>
   cases pt with
   |true=>simp[zC.take]at h
   |false=>
    cases p with
    |nil=>
     simp only[zC.take]at h;replace h:=yL h;obtain⟨hb,h⟩:=h;simp only[zA,YX]at hb;obtain⟨rfl,rfl⟩:=hb
     exact⟨(),rfl,h⟩
    |cons s q=>simp[zC.take]at h
  |_=>simp[zC.take]at h
 |.nvi id,a,k,r,h=>by
  cases a with
  |nv pt vT p ep=>
   cases pt with
   |true=>simp[zC.take]at h
   |false=>
    cases p with
    |nil=>simp[zC.take]at h
    |cons s q=>
     cases q with
     |cons s' q'=>cases s<;>simp[zC.take]at h
     |nil=>
      cases s with
      |fst=>simp[zC.take]at h
      |snd=>simp[zC.take]at h
      |idx i=>
       simp only[zC.take]at h;replace h:=yL h;obtain⟨hb,h⟩:=h;simp only[zA,YX]at hb;obtain⟨rfl,rfl⟩:=hb
       exact⟨i,rfl,h⟩
  |_=>simp[zC.take]at h
 |.qW f c,a,k,r,h=>by
  cases a with
  |qW g d=>
   simp only[zC.take]at h;replace h:=yL h;obtain⟨hb,h⟩:=h;simp only[YX]at hb;subst hb;replace h:=zC.wj c h;obtain⟨d',rfl,h⟩:=h
   exact⟨d',rfl,h⟩
  |_=>simp[zC.take]at h
 | .ZU f c,a,k,r,h=>by
  cases a with
  |ZU g d=>
   simp only[zC.take]at h;replace h:=yL h;obtain⟨hb,h⟩:=h;simp only[YX]at hb;subst hb;replace h:=zC.wj c h;obtain⟨d',rfl,h⟩:=h
   exact⟨d',rfl,h⟩
  |_=>simp[zC.take]at h
 |.agg c,a,k,r,h=>by
  cases a with
  |agg d=>
   simp only[zC.take]at h;replace h:=zC.wj c h;obtain⟨d',rfl,h⟩:=h
   exact⟨d',rfl,h⟩
  |_=>simp[zC.take]at h
 |.pr p q,a,k,r,h=>by
  cases a with
  |pr x y=>
   simp only[zC.take]at h;replace h:=zC.wj p h;obtain⟨d,rfl,h⟩:=h;replace h:=zC.wj q h;obtain⟨e,rfl,h⟩:=h
   exact⟨(d,e),rfl,h⟩
  |_=>simp[zC.take]at h
 |.un,a,k,r,h=>by
  cases a with
  |un=>exact⟨(),rfl,h⟩
  |_=>simp[zC.take]at h
theorem yX.wj(o:yX){x:Obj}{k:o.den->Option R}{r:R}(h:o.take x k=some r):∃d,x=o.mk d/\k d=some r:=by
 cases o with
 |row t=>
  cases x with
  |row u l ep=>
   simp only[yX.take]at h;replace h:=yL h;obtain⟨hb,h⟩:=h;simp only[YX]at hb;subst hb;replace h:=yz h;obtain⟨he,h⟩:=h;simp only[Ty.sl.injEq,X3]at he;subst he
   exact⟨l,rfl,h⟩
  |_=>simp[yX.take]at h
 |cell p=>
  cases x with
  |cell a=>
   simp only[yX.take]at h;replace h:=zC.wj p h;obtain⟨d,rfl,h⟩:=h
   exact⟨d,rfl,h⟩
  |_=>simp[yX.take]at h
 |map kt vt=>
  cases x with
  |map Xv X8 m=>
   simp only[yX.take,zik]at h;split at h
   ·rename_i h1 h2 _ _;obtain rfl:=h1.down;obtain rfl:=h2.down;exact⟨m,rfl,h⟩
   ·simp at h
  |_=>simp[yX.take]at h
 |nest t=>
  cases x with
  |nest u l e i hole=>
   cases hole with
   |some p=>simp[yX.take]at h
   |none=>
    simp only[yX.take]at h;replace h:=yL h;obtain⟨hb,h⟩:=h;simp only[zA,YX]at hb;obtain⟨rfl,rfl⟩:=hb;replace h:=yz h;obtain⟨he,h⟩:=h;simp only[Ty.sl.injEq,X3]at he;subst he
    exact⟨l,rfl,h⟩
  |_=>simp[yX.take]at h
 |iter id=>
  cases x with
  |cell a=>
   simp only[yX.take]at h;split at h
   ·rename_i hq _ _;cases hq
   ·rename_i hq _ _;cases hq
   ·rename_i hq _ _;cases hq
   ·rename_i hq _ _;cases hq
   ·rename_i id1 id2 n left cur k1 hq1 S7;cases hq1;cases S7;replace h:=yL h;obtain⟨hb,h⟩:=h;simp only[YX]at hb;subst hb;exact⟨(n,left,cur),rfl,h⟩
   ·rename_i hq _ _;cases hq
   ·rename_i hq _ _;cases hq
   ·simp at h
  |_=>simp[yX.take]at h
 |low t=>
  cases x with
  |nest u l e i hole=>
   cases hole with
   |none=>simp[yX.take]at h
   |some hole=>cases hole with
    |one p=>simp[yX.take]at h
    |low d=>
     simp only[yX.take]at h;replace h:=yL h;obtain⟨hb,h⟩:=h;simp only[zA,YX]at hb;obtain⟨rfl,rfl⟩:=hb;replace h:=yz h;obtain⟨he,h⟩:=h;simp only[Ty.sl.injEq,X3]at he;subst he
     exact⟨(l,d),rfl,h⟩
  |_=>simp[yX.take]at h
 |W7 p=>
  cases x with
  |cell a=>
   simp only[yX.take]at h;split at h
   ·rename_i hq _ _;cases hq
   ·rename_i hq _ _;cases hq
   ·rename_i hq _ _;cases hq
   ·rename_i hq _ _;cases hq
   ·rename_i hq _ _;cases hq
   ·rename_i p1 a1 k1 hq0 hq1 S7;cases hq0;cases hq1;cases S7;replace h:=zC.wj p h;obtain⟨d,rfl,h⟩:=h;exact⟨d,rfl,h⟩
   ·rename_i hq _ _;cases hq
   ·simp at h
  |_=>simp[yX.take]at h
theorem JO:(l:List (Nat×zC))->{m:List (Nat×z7)}->{k:Qg l->Option R}->{r:R}->PS l m k=some r->∃d,m=vb l d/\k d=some r
 |[],[],k,r,h=>⟨(),rfl,h⟩
 |[],_::_,k,r,h=>by simp[PS]at h
 |_::_,[],k,r,h=>by simp[PS]at h
 |(i,p)::l,(j,a)::m,k,r,h=>by
  simp only[PS]at h;replace h:=yL h;obtain⟨hb,h⟩:=h;simp only[YX]at hb;subst hb;replace h:=zC.wj p h;obtain⟨d,rfl,h⟩:=h;replace h:=JO l h;obtain⟨e,rfl,h⟩:=h;exact⟨(d,e),rfl,h⟩
theorem ZL:(l:List yX)->{m:List Obj}->{k:WD l->Option R}->{r:R}->K5 l m k=some r->∃d,m=wO l d/\k d=some r
 |[],[],k,r,h=>⟨(),rfl,h⟩
 |[],_::_,k,r,h=>by simp[K5]at h
 |_::_,[],k,r,h=>by simp[K5]at h
 |o::l,x::m,k,r,h=>by
  simp only[K5]at h;replace h:=yX.wj o h;obtain⟨d,rfl,h⟩:=h;replace h:=ZL l h;obtain⟨e,rfl,h⟩:=h;exact⟨(d,e),rfl,h⟩
end Go.Kz
namespace Go.Kz
variable {R:Type}
def jZ(x:Bool)(g:z8)(ids:List Nat):z8:={ kC g ids with
 tag:=λb=>match g.tag b with
  |.row i p=>(match qI i ids 0 with
   |some j=>.row j p
   |none=>if x then .ro else .qw)
  |.box i=>(match qI i ids 0 with
   |some j=>.box j
   |none=>if x then .ro else .qw)
  |t=>t }
section
variable {w:World}{g:z8}{ids:List Nat}{x:Bool}
theorem GZ{b:Nat}(h:(kC g ids).tag b≠.qw):(jZ x g ids).tag b=(kC g ids).tag b:=by
 simp only[kC,jZ]at h⊢
 cases ht:g.tag b with
 |qw=>rfl
 |ro=>rfl
 |row i p=>
  rw[ht]at h
  cases hx:qI i ids 0 with
  |none=>simp[hx]at h
  |some j=>simp[hx]
 |box i=>
  rw[ht]at h
  cases hx:qI i ids 0 with
  |none=>simp[hx]at h
  |some j=>simp[hx]
theorem Gx:zS w (kC g ids) w (jZ x g ids):=⟨λb hb=>⟨by rw[GZ (by rw[hb];simp)];exact hb,rfl⟩⟩
theorem Bw(id:Nat):Qr w (kC g ids) w (jZ x g ids) id:=by
 refine⟨⟨λ_=>rfl,λq b hb=>⟨by rw[GZ (by rw[hb];simp)];exact hb,rfl⟩⟩,rfl,λhb=>⟨by rw[GZ (by rw[hb];simp)];exact hb,rfl⟩⟩
theorem Bg(id:Nat)(o:Option Obj):qu (kC g ids) (jZ x g ids) id o o:=qu.same (w:=default) (w':=default) (Bw id)
theorem QC{b:Nat}(h:g.tag b=.qw\/g.tag b=.ro):(jZ x g ids).tag b=g.tag b:=by
 rcases h with h|h<;>simp[jZ,h]
theorem LZ{b:Nat}(h:(jZ x g ids).tag b≠.qw):g.tag b≠.qw:=by
 intro h';simp[jZ,h']at h
theorem Lx{b m:Nat}(h:(∃p,(jZ x g ids).tag b=.row m p)\/(jZ x g ids).tag b=.box m):m<ids.length:=by
 refine Fx (g:=g) (b:=b) ?_;by_cases hr:(kC g ids).tag b=.qw
 ·exfalso;simp only[kC,jZ]at h hr
  cases ht:g.tag b with
  |qw=>rw[ht]at h;simp at h
  |ro=>rw[ht]at hr;simp at hr
  |row i p=>
   rw[ht]at h hr
   cases hx:qI i ids 0 with
   |none=>cases x<;>simp[hx]at h
   |some j=>simp[hx]at hr
  |box i=>
   rw[ht]at h hr
   cases hx:qI i ids 0 with
   |none=>cases x<;>simp[hx]at h
   |some j=>simp[hx]at hr
 ·rw[GZ hr]at h;exact h
theorem xd{b i:Nat}(h:(∃p,g.tag b=.row i p)\/g.tag b=.box i)(hi:i∉ids):(jZ x g ids).tag b=if x then .ro else .qw:=by
 have hx:qI i ids 0=none:=by
  cases h':qI i ids 0 with
  |none=>rfl
  |some j=>exact absurd (js (wU h')) hi
 rcases h with⟨p,h⟩|h<;>simp[jZ,h,hx]
theorem z5r{t:Ty}{d:t.den}{cs:List Value}(h:zM w (Fk { g with tag:=λb=>match g.tag b with
  |.row i p=>if i∈ids then .qw else .row i p
  |.box i=>if i∈ids then .qw else .box i
  |t=>t }) none t d cs):zM w (jZ true g ids) none t d cs:=by
 refine h.kept ⟨λb hb=>⟨?_,rfl⟩⟩;simp only[Fk]at hb
 cases ht:g.tag b with
 |qw=>simp[ht]at hb
 |ro=>simp[jZ,ht]
 |row i p=>
  by_cases hi:i∈ids
  ·simp[ht,hi]at hb
  ·rw[xd (.inl ⟨p,ht⟩) hi];rfl
 |box i=>
  by_cases hi:i∈ids
  ·simp[ht,hi]at hb
  ·rw[xd (.inr ht) hi];rfl
end
section
variable {w:World}{g:z8}{σ:St}
def WT(g:z8)(ids:List Nat):z8:={ g with tag:=λb=>match g.tag b with
 |.row i p=>if i∈ids then .qw else .row i p
 |.box i=>if i∈ids then .qw else .box i
 |t=>t }
theorem Lh{ids:List Nat}:zS w g w (WT g ids):=⟨λb hb=>⟨by simp[WT,hb],rfl⟩⟩
theorem BH{ids:List Nat}{id:Nat}(hi:id∉ids):Qr w g w (WT g ids) id:=
 ⟨⟨λ_=>rfl,λq b hb=>⟨by simp at hb;simp[WT,hb,hi],rfl⟩⟩,rfl,λhb=>⟨by simp[WT,hb,hi],rfl⟩⟩
theorem Dr{ids:List Nat}(id:Nat):(σ.only λi=>!qs i ids).z6 id=if id∈ids then none else σ.z6 id:=by
 simp only[St.only]
 cases h:qs id ids with
 |true=>rw[qn (jK.1 h)];rfl
 |false=>rw[qP (qA.1 h)];rfl
theorem Ds{ids:List Nat}(id:Nat):qu g (WT g ids) id (σ.z6 id) ((σ.only λi=>!qs i ids).z6 id):=by
 rw[Dr];by_cases h:id∈ids
 ·rw[qn h];exact .inl rfl
 ·rw[qP h];exact qu.same (w:=default) (w':=default) (BH h)
theorem z0n{ids:List Nat}(hh:yH w g σ.z6):yH w (WT g ids) (σ.only λi=>!qs i ids).z6:=by
 refine⟨λid o ho=>?_,λb hb=>hh.tags b λh=>hb (by simp[WT,h])⟩;rw[Dr]at ho;by_cases h:id∈ids
 ·rw[qn h]at ho;simp at ho
 ·rw[qP h]at ho;exact qz.frame Lh (BH h) (λ_ _ vT _=>Ds vT) (hh.z6 id o ho)
variable {ids:List Nat}{os:List Obj}{x:Bool}
theorem B2(hn:ids.Nodup)(ho:Wy σ.z6 ids os)(hh:yH w g σ.z6):(l:List (Nat×zC))->{all:z7}->{vs:List Value}->{i0:Nat}->{k:Qg l->Option R}->{r:R}->
  BQ l i0=true->vG all=true->(x=true\/YA l all=true)->qj w g σ.z6 all vs->
  uX (σ.only λi=>!qs i ids) σ.z6 (λi=>qI i ids 0) l all k=some r->
  ∃d,k d=some r/\(∀i av,yN (vb l d) i=some av->i0<=i/\∃v,vs[i-i0]? = some v/\qy w (jZ x g ids) (zT os) av v/\∀m∈av.ids,m<ids.length)/\
   (∀n a p,jX all n=some a->zT l n=some p->p.2.isVal=false->∃a',a.wG σ.z6 (λi=>qI i ids 0)=some a')/\vs.length=l.length
 |[],all,vs,i0,k,r,_,hv,_,Uv,h=>by
  cases all with
  |un=>
   simp only[qj]at Uv;subst Uv
   exact⟨(),h,λi av hi=>by simp[vb,yN]at hi,λn a p hn=>by cases n<;>simp[jX]at hn,rfl⟩
  |_=>simp[uX]at h
 |(i1,p)::l,all,vs,i0,k,r,hk,hv,hx,Uv,h=>by
  cases all with
  |pr a c=>
   simp only[BQ,zA,YX]at hk;obtain⟨rfl,hk⟩:=hk;simp only[vG,zA]at hv;simp only[qj]at Uv;obtain⟨v,rest,rfl,Oz,xy⟩:=Uv;have fin:∀(d:p.den),(uX (σ.only λi=>!qs i ids) σ.z6 (λi=>qI i ids 0) l c λe=>k (d,e))=some r->qy w (jZ x g ids) (zT os) (p.mk d) v->(∀m∈(p.mk d).ids,m<ids.length)->
     (p.isVal=false->∃a',a.wG σ.z6 (λi=>qI i ids 0)=some a')->(x=true\/YA l c=true)->
     ∃d,k d=some r/\(∀i av,yN (vb ((i1,p)::l) d) i=some av->i1<=i/\∃u,(v::rest)[i-i1]? = some u/\qy w (jZ x g ids) (zT os) av u/\∀m∈av.ids,m<ids.length)/\
      (∀n b q,jX (.pr a c) n=some b->zT ((i1,p)::l) n=some q->q.2.isVal=false->∃a',b.wG σ.z6 (λi=>qI i ids 0)=some a')/\(v::rest).length=((i1,p)::l).length:=by
    intro d h hvd gA Fa hx;obtain⟨e,hke,h1,h2,h3⟩:=B2 hn ho hh l hk hv.2 hx xy h;refine⟨(d,e),hke,λi av hi=>?_,λn b q hb hq S7=>?_,by simp[h3]⟩
    ·simp only[vb,yN]at hi
     cases hb:Nat.beq i1 i with
     |true=>
      rw[hb]at hi;simp only[zJ,zI]at hi;subst hi;have:=zE hb;subst this
      exact⟨jq _,v,by simp,hvd,gA⟩
     |false=>
      rw[hb]at hi;obtain⟨q1,u,q2,q3,q4⟩:=h1 i av hi;refine⟨by omega,u,?_,q3,q4⟩;have e:i-i1=(i-(i1+1))+1:=by omega
      rw[e];simpa using q2
    ·cases n with
     |zero=>
      simp only[jX,zI]at hb;simp only[zT,zI]at hq;subst hb;subst hq
      exact Fa S7
     |succ n=>exact h2 n b q hb hq S7
   cases p with
   |val t=>
    simp only[uX]at h;obtain⟨w8,WR,GX,Og⟩:=jh hv.1;obtain⟨cs,zc,Vw⟩:=gq Oz Og;have Uk:jO w (WT g ids) (σ.only λi=>!qs i ids).z6 a cs:=jO.frame Lh (λid _=>Ds id) zc;have hh':=z0n (ids:=ids) hh;have hd:∃d,(uX (σ.only λi=>!qs i ids) σ.z6 (λi=>qI i ids 0) l c λe=>k (d,e))=some r/\t.zW=true/\zM w (jZ x g ids) none t d cs:=by
     rcases hx with rfl|hx
     ·obtain⟨d,h1,h2,h3⟩:=pY hh' 20 Uk h;exact⟨d,h1,h2,z5r h3⟩
     ·simp only[YA,zA,zC.isVal,Qv,Bool.false_or]at hx;obtain⟨d,h1,h2,h3⟩:=xl 20 hx.1 Uk h;refine⟨d,h1,h2,h3.kept ⟨λb hb=>⟨?_,rfl⟩⟩⟩;have:g.tag b=.ro:=by
       simp only[WT]at hb;cases ht:g.tag b<;>rw[ht]at hb<;>simp at hb<;>first|rfl|(split at hb<;>simp at hb)
      rw[QC (.inr this),this]
    obtain⟨d,h1,h2,h3⟩:=hd;refine fin d h1 ?_ (by simp[zC.mk,z7.ids]) (by simp[zC.isVal]) (hx.imp _root_.id λhx=>by simp only[YA,zA]at hx;exact hx.2);simp only[zC.mk,qy]
    exact⟨cs,⟨h2,h3⟩,by rw[Vw,J7 hh' hv.1 h];rfl⟩
   |_=>
    simp only[uX]at h;split at h
    ·rename_i a' ha';obtain⟨d,he,h⟩:=zC.wj _ h;obtain⟨h1,h2⟩:=RB hn ho ha' Oz;refine fin d h ?_ (by rw[<-he];exact h2) (λ_=>⟨a',ha'⟩) (hx.imp _root_.id λhx=>by simp only[YA,zA]at hx;exact hx.2);rw[<-he];exact qy.frame Gx (λid _=>Bg id _) h1
    ·simp at h
  |_=>simp[uX]at h
end
end Go.Kz
namespace Go.Kz
variable {R:Type}
def JY(M:List Nat):Tag->Tag
 |.row j p=>(match zT M j with
  |some id=>.row id p
  |none=>.qw)
 |.box j=>(match zT M j with
  |some id=>.box id
  |none=>.qw)
 |t=>t
def gx(g gc:z8)(ids M:List Nat)(size:Nat)(vV:Nat->Bool):z8 where
 tag:=λb=>if b<size then (match g.tag b with
   |.row i p=>if i∈ids then JY M (gc.tag b) else .row i p
   |.box i=>if i∈ids then JY M (gc.tag b) else .box i
   |t=>t) else JY M (gc.tag b)
 sv:=λi p=>match qI i M 0 with
  |some j=>if vV i then g.sv i p else gc.sv j p
  |none=>g.sv i p
 qY:=λi=>match qI i M 0 with
  |some j=>gc.qY j
  |none=>g.qY i
section
variable {w w':World}{g gc:z8}{ids M:List Nat}{x:Bool}{vV:Nat->Bool}
theorem ZV(qm:Ext w (jZ x g ids) w' gc)(b:Nat):
  (b<w.heap.size/\(gx g gc ids M w.heap.size vV).tag b=g.tag b/\gc.tag b=(jZ x g ids).tag b/\w'.heap[b]? = w.heap[b]?/\((jZ x g ids).tag b=.qw\/(jZ x g ids).tag b=.ro)/\
   ∀i∈ids,(∀p,g.tag b≠.row i p)/\g.tag b≠.box i)\/
  ((gx g gc ids M w.heap.size vV).tag b=JY M (gc.tag b)/\(b<w.heap.size->∃i∈ids,(∃p,g.tag b=.row i p)\/g.tag b=.box i)):=by
 by_cases yP:b<w.heap.size
 ·have key:∀t,g.tag b=t->((jZ x g ids).tag b=.qw\/(jZ x g ids).tag b=.ro)->(gx g gc ids M w.heap.size vV).tag b=t->(∀i∈ids,(∀p,g.tag b≠.row i p)/\g.tag b≠.box i)->
    (b<w.heap.size/\(gx g gc ids M w.heap.size vV).tag b=g.tag b/\gc.tag b=(jZ x g ids).tag b/\w'.heap[b]? = w.heap[b]?/\((jZ x g ids).tag b=.qw\/(jZ x g ids).tag b=.ro)/\
   ∀i∈ids,(∀p,g.tag b≠.row i p)/\g.tag b≠.box i):=by
   intro t ht hl hb hi;obtain⟨h1,h2⟩:=qm.vV b yP hl
   grind
  have ztl:g.tag b=.qw\/g.tag b=.ro\/(∃i p,g.tag b=.row i p)\/∃i,g.tag b=.box i:=by cases g.tag b<;>simp
  rcases ztl with ht|ht|⟨i,p,ht⟩|⟨i,ht⟩
  ·grind[QC,gx]
  ·grind[QC,gx]
  ·by_cases hi:i∈ids
   ·grind[gx]
   ·left;refine key _ ht ?_ (by grind[gx]) (λi' wu=>⟨λp' he=>?_,by grind⟩)
    all_goals simp_all[xd]
  grind[gx,xd]
 grind[gx]
theorem za3(qm:Ext w (jZ x g ids) w' gc){b j id:Nat}{p:Path}(h:gc.tag b=.row j p)(hm:zT M j=some id):(gx g gc ids M w.heap.size vV).tag b=.row id p:=by
 rcases ZV (M:=M) (vV:=vV) qm b with⟨_,_,h2,_,h3,_⟩|⟨h1,_⟩
 all_goals grind[JY]
theorem za4(qm:Ext w (jZ x g ids) w' gc){b j id:Nat}(h:gc.tag b=.box j)(hm:zT M j=some id):(gx g gc ids M w.heap.size vV).tag b=.box id:=by
 rcases ZV (M:=M) (vV:=vV) qm b with⟨_,_,h2,_,h3,_⟩|⟨h1,_⟩
 all_goals grind[JY]
theorem MK(qm:Ext w (jZ x g ids) w' gc):Ext w g w' (gx g gc ids M w.heap.size vV):=by
 refine⟨qm.os,qm.tape,qm.output,qm.drawn,qm.size,λb hb ht=>?_⟩;obtain⟨h1,h2⟩:=qm.vV b hb (by grind[QC])
 grind[gx]
theorem zg8(qm:Ext w (jZ x g ids) w' gc)(ht:∀b,g.tag b≠.qw->b<w.heap.size):zS w g w' (gx g gc ids M w.heap.size vV):=(MK qm).ro ht
theorem Ob(qm:Ext w (jZ false g ids) w' gc):zS w' gc w' (gx g gc ids M w.heap.size vV):=by
 refine⟨λb hb=>⟨?_,rfl⟩⟩;rcases ZV (M:=M) (vV:=vV) qm b with⟨_,h1,h2,_,h3,hi⟩|⟨h1,_⟩
 ·rw[h1];rw[hb]at h2
  cases ht:g.tag b with
  |ro=>rfl
  |qw=>grind[QC]
  |row i p=>
   grind[xd]
  |box i=>
   grind[xd]
 ·rw[h1,hb];rfl
theorem z2f(qm:Ext w (jZ x g ids) w' gc)(hc:∀b,gc.tag b≠.qw->b<w'.heap.size)(b:Nat)(hb:(gx g gc ids M w.heap.size vV).tag b≠.qw):b<w'.heap.size:=by
 rcases ZV (M:=M) (vV:=vV) qm b with⟨h0,_⟩|⟨h1,_⟩
 ·grind
 ·refine hc b λh=>hb ?_
  rw[h1,h];rfl
theorem Vz{i:Nat}:{l:List Nat}->{k:Nat}->i∉l->qI i l k=none
 |[],_,_=>rfl
 |y::l,k,h=>by
  simp only[gJ,not_or]at h;have:Nat.beq y i=false:=by
   grind[zE]
  simp only[qI,this,zU];exact Vz h.2
theorem ER(qm:Ext w (jZ x g ids) w' gc)(ht:∀b,g.tag b≠.qw->b<w.heap.size){id:Nat}(hi:id∉ids)(hM:id∉M):Qr w g w' (gx g gc ids M w.heap.size vV) id:=by
 have hx:=Vz (k:=0) hM;have hb:∀b,((∃p,g.tag b=.row id p)\/g.tag b=.box id)->(gx g gc ids M w.heap.size vV).tag b=g.tag b/\w'.heap[b]? = w.heap[b]? := by
  grind[ZV]
 refine⟨⟨λq=>by simp[gx,hx],λq b h=>?_⟩,by simp[gx,hx],λh=>?_⟩
 all_goals grind
end
def zve(e:Nat×Nat)(y y':Obj):Prop:=
 (∃t l,y=.row t l 0/\y'=.row t l e.1)\/(∃a a',y=.cell a/\y'=.cell a'/\a'.sk=a.sk)\/(∃k v m,y=.map k v m/\y'=.map k v m)\/(∃t l,y=.nest t l 0 0 none/\y'=.nest t l e.1 e.2 none)
structure Bk (gc G:z8) (oc o':qQ) (M:List Nat) (E:Nat->Nat×Nat):Prop where
 obj:∀j id,zT M j=some id->∀y',o' id=some y'->∃y,oc j=some y/\zve (E j) y y'
 svr:∀j id,zT M j=some id->∀t l,oc j=some (.row t l 0)->G.sv id []=gc.sv j []
 svn:∀j id,zT M j=some id->∀t l,oc j=some (.nest t l 0 0 none)->∀p,G.sv id p=gc.sv j p
 qY:∀j id,zT M j=some id->G.qY id=gc.qY j
 row:∀b j p id,gc.tag b=.row j p->zT M j=some id->G.tag b=.row id p
 box:∀b j id,gc.tag b=.box j->zT M j=some id->G.tag b=.box id
section
variable {w:World}{gc G:z8}{oc o':qQ}{M:List Nat}{E:Nat->Nat×Nat}
theorem GK:(p:zC)->{d:p.den}->{a:z7}->p.inst M E d=some a->a.sk=(p.mk d).sk
 |.val t,d,a,h=>by simp only[zC.inst,zI]at h;subst h;rfl
 |.za,d,a,h=>by simp only[zC.inst,zI]at h;subst h;rfl
 |.ref j,d,a,h=>by simp only[zC.inst,kT]at h;obtain⟨id,_,rfl⟩:=h;rfl
 |.view j,d,a,h=>by simp only[zC.inst,kT]at h;obtain⟨id,_,rfl⟩:=h;rfl
 |.zw j p,d,a,h=>by simp only[zC.inst,kT]at h;obtain⟨id,_,rfl⟩:=h;rfl
 |.qF j,d,a,h=>by simp only[zC.inst,kT]at h;obtain⟨id,_,rfl⟩:=h;rfl
 |.nv j,d,a,h=>by simp only[zC.inst,kT]at h;obtain⟨id,_,rfl⟩:=h;rfl
 |.nvi j,d,a,h=>by simp only[zC.inst,kT]at h;obtain⟨id,_,rfl⟩:=h;rfl
 |.qW f c,d,a,h=>by simp only[zC.inst,kT]at h;obtain⟨a',_,rfl⟩:=h;rfl
 | .ZU f c,d,a,h=>by simp only[zC.inst,kT]at h;obtain⟨a',_,rfl⟩:=h;rfl
 |.agg c,d,a,h=>by
  simp only[zC.inst,kT]at h;obtain⟨a',h,rfl⟩:=h
  simpa only[zC.mk,z7.sk]using GK c h
 |.pr p q,d,a,h=>by
  simp only[zC.inst]at h;split at h
  ·rename_i y z h1 h2;simp only[zI]at h;subst h;simp only[zC.mk,z7.sk,GK p h1,GK q h2]
  grind
 |.un,d,a,h=>by simp only[zC.inst,zI]at h;subst h;rfl
theorem wk:(p:zC)->{d:p.den}->{a:z7}->p.inst M E d=some a->a.isAgg=(p.mk d).isAgg/\(∀c,(p.mk d)≠.jD c)/\(∀y z,a=.pr y z->∃y' z',p.mk d=.pr y' z')/\(a=.un->p.mk d=.un)/\∀m∈a.ids,m∈M
 |.val t,d,a,h=>by grind[zC.inst,zC.mk,z7.ids]
 |.za,d,a,h=>by grind[zC.inst,zC.mk,z7.ids]
 |.ref j,d,a,h=>by grind[zC.inst,Option.map_eq_some_iff,zC.mk,z7.isAgg,z7.ids,js]
 |.view j,d,a,h=>by grind[zC.inst,Option.map_eq_some_iff,zC.mk,z7.isAgg,z7.ids,js]
 |.zw j p,d,a,h=>by grind[zC.inst,Option.map_eq_some_iff,zC.mk,z7.isAgg,z7.ids,js]
 |.qF j,d,a,h=>by grind[zC.inst,Option.map_eq_some_iff,zC.mk,z7.isAgg,z7.ids,js]
 |.nv j,d,a,h=>by grind[zC.inst,Option.map_eq_some_iff,zC.mk,z7.isAgg,z7.ids,js]
 |.nvi j,d,a,h=>by grind[zC.inst,Option.map_eq_some_iff,zC.mk,z7.isAgg,z7.ids,js]
 |.qW f c,d,a,h=>by
  simp only[zC.inst,kT]at h;obtain⟨a',h,rfl⟩:=h;have:=(wk c h).2.2.2.2
  grind[zC.mk,z7.isAgg,z7.ids]
 | .ZU f c,d,a,h=>by
  simp only[zC.inst,kT]at h;obtain⟨a',h,rfl⟩:=h;have:=(wk c h).2.2.2.2
  grind[zC.mk,z7.isAgg,z7.ids]
 |.agg c,d,a,h=>by
  simp only[zC.inst,kT]at h;obtain⟨a',h,rfl⟩:=h;have:=(wk c h).2.2.2.2
  grind[zC.mk,z7.isAgg,z7.ids]
 |.pr p q,d,a,h=>by
  simp only[zC.inst]at h;split at h
  ·rename_i y z h1 h2;simp only[zI]at h;subst h;have k1:=(wk p h1).2.2.2.2;have k2:=(wk q h2).2.2.2.2;refine⟨rfl,by simp[zC.mk],λ_ _ _=>⟨_,_,rfl⟩,by simp,λm hm=>?_⟩
   grind[z7.ids]
  grind
 |.un,d,a,h=>by grind[zC.inst,zC.mk,z7.ids]
theorem uT(hb:Bk gc G oc o' M E):(p:zC)->{d:p.den}->{a:z7}->{cs:List Value}->(zS w gc w G\/p.flat=true)->p.inst M E d=some a->jO w gc oc (p.mk d) cs->jO w G o' a cs
 |.val t,d,a,cs,hf,h,zc=>by
  simp only[zC.inst,zI]at h;subst h;refine⟨zc.1,?_⟩;rcases hf with hf|hf
  ·exact zc.2.kept hf
  ·exact zM.yV hf zc.2
 |.za,d,a,cs,hf,h,zc=>by simp only[zC.inst,zI]at h;subst h;exact zc
 |.ref j,d,a,cs,hf,h,zc=>by
  simp only[zC.inst,kT]at h;obtain⟨id,hm,rfl⟩:=h;obtain⟨v,hv,qN,hx⟩:=zc;refine⟨v,hv,qN,λt l e ho=>?_⟩;obtain⟨y,hy,hk⟩:=hb.obj j id hm _ ho;rcases hk with⟨t',l',rfl,h2⟩|⟨a1,a2,_,h2,_⟩|⟨k,v',m,_,h2⟩|⟨t',l',_,h2⟩
  ·simp only[Obj.row.injEq]at h2;obtain⟨rfl,_,rfl⟩:=h2;exact⟨jq _,λ_=>by rw[hb.svr j id hm _ _ hy];grind⟩
  all_goals grind
 |.view j,d,a,cs,hf,h,zc=>by
  simp only[zC.inst,kT]at h;obtain⟨id,hm,rfl⟩:=h;obtain⟨v,hv,qN,hx⟩:=zc;refine⟨v,hv,qN,λt l e ho=>?_⟩;obtain⟨y,hy,hk⟩:=hb.obj j id hm _ ho;rcases hk with⟨t',l',rfl,h2⟩|⟨a1,a2,_,h2,_⟩|⟨k,v',m,_,h2⟩|⟨t',l',_,h2⟩
  ·simp only[Obj.row.injEq]at h2;obtain⟨rfl,hl,rfl⟩:=h2;have hl:=eq_of_heq hl;subst hl;refine⟨jq _,λ_=>?_⟩;rw[hb.svr j id hm _ _ hy];grind
  all_goals grind
 |.zw j p,d,a,cs,hf,h,zc=>by
  simp only[zC.inst,kT]at h;obtain⟨id,hm,rfl⟩:=h;obtain⟨v,hv,qN,hx⟩:=zc;refine⟨v,hv,qN,λa ho=>?_⟩;obtain⟨y,hy,hk⟩:=hb.obj j id hm _ ho;rcases hk with⟨t',l',_,h2⟩|⟨a1,a2,rfl,h2,hs⟩|⟨k,v',m,_,h2⟩|⟨t',l',_,h2⟩
  ·grind
  ·simp only[Obj.cell.injEq]at h2;subst h2;obtain⟨off,s,h3,h4⟩:=hx _ hy;exact⟨off,s,by grind,by rw[hb.qY j id hm];exact h4⟩
  all_goals grind
 |.qF j,d,a,cs,hf,h,zc=>by
  simp only[zC.inst,kT]at h;obtain⟨id,hm,rfl⟩:=h;obtain⟨v,hv,qN,hx⟩:=zc;refine⟨v,hv,qN,λkt vt mm ho=>?_⟩;obtain⟨y,hy,hk⟩:=hb.obj j id hm _ ho;rcases hk with⟨t',l',_,h2⟩|⟨a1,a2,_,h2,_⟩|⟨k,v',m,rfl,h2⟩|⟨t',l',_,h2⟩
  ·grind
  ·grind
  ·rw[hb.qY j id hm];grind
  grind
 |.nv j,d,a,cs,hf,h,zc=>by
  simp only[zC.inst,kT]at h;obtain⟨id,hm,rfl⟩:=h;obtain⟨v,hv,qN,hx⟩:=zc;refine⟨v,hv,qN,λt l e i hh ho=>?_⟩;obtain⟨y,hy,hk⟩:=hb.obj j id hm _ ho;rcases hk with⟨t',l',_,h2⟩|⟨a1,a2,_,h2,_⟩|⟨k,v',m,_,h2⟩|⟨t',l',rfl,h2⟩
  ·grind
  ·grind
  ·grind
  ·simp only[Obj.nest.injEq]at h2;obtain⟨_,_,rfl,rfl,_⟩:=h2;refine⟨jq _,λ_=>⟨λ_=>?_,λh=>(by simp at h)⟩⟩
   rw[hb.svn j id hm _ _ hy];exact((hx _ _ _ _ _ hy).2 rfl).1 rfl
 |.nvi j,d,a,cs,hf,h,zc=>by
  simp only[zC.inst,kT]at h;obtain⟨id,hm,rfl⟩:=h;obtain⟨v,hv,qN,hx⟩:=zc;refine⟨v,hv,qN,λt l e i hh ho=>?_⟩;obtain⟨y,hy,hk⟩:=hb.obj j id hm _ ho;rcases hk with⟨t',l',_,h2⟩|⟨a1,a2,_,h2,_⟩|⟨k,v',m,_,h2⟩|⟨t',l',rfl,h2⟩
  ·grind
  ·grind
  ·grind
  ·simp only[Obj.nest.injEq]at h2;obtain⟨_,_,rfl,rfl,_⟩:=h2;refine⟨jq _,λ_=>⟨λ_=>?_,λh=>(by simp at h)⟩⟩
   rw[hb.svn j id hm _ _ hy];exact((hx _ _ _ _ _ hy).2 rfl).1 rfl
 |.qW f c,d,a,cs,hf,h,zc=>by
  simp only[zC.inst,kT]at h;obtain⟨a',h,rfl⟩:=h;obtain⟨vs,hv,hx⟩:=zc
  exact⟨vs,hv,uT hb c hf h hx⟩
 | .ZU t c,d,a,cs,hf,h,zc=>by
  simp only[zC.inst,kT]at h;obtain⟨a',h,rfl⟩:=h;obtain⟨x,Dv,hv,hx,hxv⟩:=zc
  exact⟨x,Dv,hv,uT hb c hf h hx,by grind[wk]⟩
 |.agg c,d,a,cs,hf,h,zc=>by
  simp only[zC.inst,kT]at h;obtain⟨a',h,rfl⟩:=h;show jO w G o' a' cs
  exact uT hb c hf h (show jO w gc oc (c.mk d) cs from zc)
 |.pr p q,d,a,cs,hf,h,zc=>by
  simp only[zC.inst]at h;split at h
  ·rename_i y z h1 h2;simp only[zI]at h;subst h;obtain⟨c1,c2,Zw,k1,k2⟩:=zc;have QO:zS w gc w G\/p.flat=true:=hf.imp _root_.id λh=>by grind[zC.flat]
   have Xg:zS w gc w G\/q.flat=true:=hf.imp _root_.id λh=>by grind[zC.flat]
   exact⟨c1,c2,Zw,uT hb p QO h1 k1,uT hb q Xg h2 k2⟩
  grind
 |.un,d,a,cs,hf,h,zc=>by simp only[zC.inst,zI]at h;subst h;exact zc
theorem LW(hb:Bk gc G oc o' M E){p:zC}{d:p.den}{a:z7}{v:Value}(hf:zS w gc w G\/p.flat=true)(h:p.inst M E d=some a)(zc:qy w gc oc (p.mk d) v):qy w G o' a v:=by
 obtain⟨h1,h2,h3,h4,_⟩:=wk p h;obtain⟨cs,Zw,Vw⟩:=gq zc h2;refine y8 (uT hb p hf h Zw) (by grind) (λy z he=>?_) (λhe=>?_)
 all_goals grind[qy]
theorem zM.Gg{w w':World}{g g':z8}:{o o':Ee}->{t:Ty}->{d:t.den}->{cs:List Value}->
  (hm:UD w g w' g' o o')->t.gY=true->zM w g o t d cs->zM w' g' o' t d cs
 |_,_,.int _,_,_,_,_,h=>h
 |_,_,.bool,_,_,_,_,h=>h
 |_,_,.str,_,_,_,_,h=>h
 |_,_,.unit,_,_,_,_,h=>h
 |_,_,.pair a b,(x,y),_,hm,ht,h=>by
  obtain⟨c1,c2,rfl,h1,h2⟩:=h;simp only[Ty.gY,zA]at ht
  exact⟨c1,c2,rfl,zM.Gg (hm.step _) ht.1 h1,zM.Gg (hm.step _) ht.2 h2⟩
 |_,_,.arr n t,_,_,hm,ht,h=>⟨h.1,h.2.1,λi hi=>zM.Gg (hm.step _) (by grind[Ty.gY]) (h.2.2 i hi)⟩
 |_,_,.sl false t,l,_,_,ht,h=>by grind[Ty.gY,Ty.yV]
 |some (id,p),some (vT,p'),.sl true t,l,_,hm,ht,h=>by
  obtain⟨a,cap,rfl,h0,h1,h2,h3⟩:=h;have Ub:Zi w g w' g' id p vT p':=hm;refine⟨a,cap,rfl,?_,h1,h2,?_⟩
  ·have:=Ub.sv [];grind
  ·rcases h3 with h3|⟨b,off,c,e,ha,CN,hb,hs,he⟩
   ·grind
   ·have hk:=Ub.qY [] b (by grind);simp only[Hc]at hk
    exact .inr ⟨b,off,c,e,ha,hk.1,hk.2.trans hb,hs,λi hi=>zM.Gg (o:=some (id,p++[Step.idx (i:Int)])) (o':=some (vT,p'++[Step.idx (i:Int)])) (Ub.step _) (by grind[Ty.gY]) (he i hi)⟩
 |some _,none,.sl true _,_,_,hm,_,_=>hm.elim
 |none,_,.sl true _,_,_,_,_,h=>h.elim
 |_,_,.ptr t,_,_,_,ht,_=>by grind[Ty.gY,Ty.yV]
 |_,_,.fn f t,_,_,_,ht,_=>by grind[Ty.gY,Ty.yV]
 |_,_,.tree _,_,_,_,ht,_=>by grind[Ty.gY,Ty.yV]
theorem j7.yV{w w':World}{g g':z8}{kt vt:Ty}(hk:kt.yV=true)(hv:vt.yV=true):{es:List MapEntry}->{m:List (kt.den×vt.den)}->j7 w g kt vt es m->j7 w' g' kt vt es m
 |[],[],_=>trivial
 |_::_,(_,_)::_,⟨⟨c1,h1,e1⟩,⟨c2,h2,e2⟩,h⟩=>⟨⟨c1,zM.yV hk h1,e1⟩,⟨c2,zM.yV hv h2,e2⟩,j7.yV hk hv h⟩
 |[],_::_,h=>h.elim
 |_::_,[],h=>h.elim
theorem z71(hb:Bk gc G oc o' M E){o:yX}{d:o.den}{y:Obj}{j id:Nat}(hm:zT M j=some id)(hf:zS w gc w G\/o.flat=true)(hj:oc j=some (o.mk d))(h:o.inst M E j d=some y)(zc:qz w gc oc j (o.mk d)):qz w G o' id y:=by
 cases o with
 |row t=>
  simp only[yX.inst,zI]at h;subst h;obtain⟨ht,hr⟩:=zc;refine⟨ht,?_⟩;rw[hb.svr j id hm _ _ hj];obtain⟨a,cap,hv,h0,h1,h2,h3⟩:=hr;refine⟨a,cap,hv,(hb.svr j id hm _ _ hj).trans h0,h1,h2,?_⟩;rcases h3 with h3|⟨b,off,c,e,ha,CN,Vo,hs,he⟩
  ·grind
  ·refine .inr ⟨b,off,c,e,ha,hb.row b j [] id CN hm,Vo,hs,λi hi=>?_⟩;rcases hf with hf|hf
   ·exact zM.yy ht ((zM.yy (o':=none) ht (he i hi)).kept hf)
   ·exact zM.yV hf (he i hi)
 |cell p=>
  simp only[yX.inst,kT]at h;obtain⟨a,h,rfl⟩:=h;have hnt:(p.mk d).kI=false:=by
   have:=(wk p h).2.1;cases Vw:p.mk d<;>first|rfl|grind
  obtain⟨c,e,h1,h2,h3⟩:=zc.out hnt
  exact qz.mk ⟨c,e,by rw[hb.qY j id hm];exact h1,by rw[hb.qY j id hm];exact hb.box _ j id h2 hm,uT hb p hf h h3⟩
 |map kt vt=>
  simp only[yX.inst,zI]at h;subst h;obtain⟨es,ck,h1,h2,h3,h4,h5,h6⟩:=zc;refine⟨es,ck,by rw[hb.qY j id hm];exact h1,by rw[hb.qY j id hm];exact hb.box _ j id h2 hm,h3,h4,?_,h6⟩;rcases hf with hf|hf
  ·exact h5.kept hf
  ·simp only[yX.flat,zA]at hf
   exact h5.yV hf.1 hf.2
 |iter PC|low t=>simp[yX.inst]at h
 |W7 p=>
  simp only[yX.inst]at h
  cases uc:(z7.jD (p.mk d)).kp with
  |false=>grind
  |true=>
   rw[uc]at h;simp only[zJ,kT]at h;obtain⟨a,h,rfl⟩:=h;obtain⟨c,e,h1,h2,h3⟩:=(qz.W7 uc).1 zc;have hf:zS w gc w G:=hf.resolve_right (by simp[yX.flat]);have Ld:(z7.jD a).kp=true:=by
    cases p<;>simp[zC.mk,z7.kp]at uc
    ·simp only[zC.inst,kT]at h;obtain⟨x,_,rfl⟩:=h;rfl
    ·simp only[zC.inst,kT]at h;obtain⟨x,_,rfl⟩:=h;rfl
   exact(qz.W7 Ld).2 ⟨c,e,by rw[hb.qY j id hm];exact h1,by rw[hb.qY j id hm];exact(hf.qY _ h2).1,uT hb p (.inl hf) h h3⟩
 |nest t=>
  simp only[yX.inst,zI]at h;subst h;show zM w G (some (id,[])) (.sl true t) d [G.sv id []];have yU:=hb.svn j id hm _ _ hj;rw[yU];have hmv:UD w gc w G (some (j,[])) (some (id,[])):=⟨λq=>yU _,λq b hq=>⟨hb.row b j q id (by grind) hm,rfl⟩⟩;have zc:zM w gc (some (j,[])) (.sl true t) d [gc.sv j []]:=zc;rcases hf with hf|hf
  ·grind[zM.move]
  ·exact zM.Gg hmv (show(Ty.sl true t).gY=true from hf) zc
end
end Go.Kz
namespace Go.Kz
variable {R:Type}
def Ident(g gc:z8)(oc so:qQ)(j id:Nat):Prop:=
 (∀t l,oc j=some (.row t l 0)->∀t' l' e,so id=some (.row t' l' e)->gc.sv j []=g.sv id [])/\
 (∀a,oc j=some (.cell a)->∀a',so id=some (.cell a')->gc.qY j=g.qY id)/\
 (∀k v m,oc j=some (.map k v m)->∀k' v' m',so id=some (.map k' v' m')->gc.qY j=g.qY id)/\
 (∀t l,oc j=some (.nest t l 0 0 none)->∀t' l' e i h,so id=some (.nest t' l' e i h)->gc.sv j []=g.sv id [])
theorem J5{b b':Y2}{i id:Nat}(h:Uo b i id some=some b'):∀j vT,yN b' j=some vT->yN b j=some vT\/(j=i/\vT=id):=by
 unfold Uo at h;intro j vT hj;split at h
 ·rename_i j0 h0
  cases hb:Nat.beq j0 id with
  |false=>rw[hb]at h;simp at h
  |true=>
   rw[hb]at h;simp only[zJ,zI]at h;subst h;exact .inl hj
 ·cases hb:OW b id with
  |true=>rw[hb]at h;simp at h
  |false=>
   rw[hb]at h;simp only[zU,zI]at h;subst h;simp only[yN]at hj
   cases he:Nat.beq i j with
   |true=>
    rw[he]at hj;simp only[zJ,zI]at hj
    exact .inr ⟨(zE he).symm,hj.symm⟩
   |false=>rw[he]at hj;exact .inl hj
section
variable {w w':World}{g gc:z8}{oc so:qQ}{Y:Nat->Option Nat}
theorem gL{a:z7}{u:Value}(h:qy w g so a u)(ht:∀c,a≠.jD c)(hg:a.isAgg=false):∃cs,jO w g so a cs/\u=cs.headD undef:=by
 obtain⟨cs,h1,h2⟩:=gq h ht;exact⟨cs,h1,by rw[h2,hg];rfl⟩
theorem PY{a a':z7}{p:zC}{d:p.den}{b b':Y2}{u:Value}(h:JV so a p b=some b')(hv:qy w g so a u)(hr:a.wG so Y=some a')(hx:qy w' gc oc (p.mk d) u)
  (hI:∀j id,yN b j=some id->Ident g gc oc so j id):∀j id,yN b' j=some id->Ident g gc oc so j id:=by
 intro j id hj;unfold JV at h;split at h
 ·rename_i id0 ep j0;rcases J5 h j id hj with h1|⟨rfl,rfl⟩
  ·exact hI j id h1
  ·simp only[z7.wG]at hr;split at hr
   ·rename_i t0 l0 e0 _ zg
    cases hb:Nat.beq e0 ep with
    |false=>rw[hb]at hr;simp at hr
    |true=>
     have he:=zE hb;subst he;obtain⟨cs,⟨v,rfl,_,h1⟩,rfl⟩:=gL hv (by simp) rfl;obtain⟨Dv,⟨v',rfl,_,h2⟩,hu⟩:=gL hx (by simp[zC.mk]) rfl;simp only[Z2r]at hu;subst hu;refine⟨λt l ho t' l' e hs=>?_,λa ho a' hs=>by rw[zg]at hs;simp at hs,λ_ _ _ _ _ _ _ hs=>by rw[zg]at hs;simp at hs,λ_ _ _ _ _ _ _ _ hs=>by rw[zg]at hs;simp at hs⟩;rw[<-(h2 _ _ _ ho).2 rfl,<-(h1 _ _ _ zg).2 rfl]
   ·simp at hr
 ·rename_i id0 j0;split at h
  ·rename_i a0 zg;rcases J5 h j id hj with h1|⟨rfl,rfl⟩
   ·exact hI j id h1
   ·obtain⟨cs,⟨v,rfl,_,h1⟩,rfl⟩:=gL hv (by simp) rfl;obtain⟨Dv,⟨v',rfl,_,h2⟩,hu⟩:=gL hx (by simp[zC.mk]) rfl;simp only[Z2r]at hu;subst hu;have zZ:∀a,oc j=some (.cell a)->∀a',so id=some (.cell a')->gc.qY j=g.qY id:=by
     intro a ho a' hs;obtain⟨o1,s1,q1,q2⟩:=h1 _ hs;obtain⟨o2,s2,q3,q4⟩:=h2 _ ho;rw[q2]at q4;simp only[Value.pointer.injEq,zI,Addr.mk.injEq]at q4;exact q4.1.symm
    exact⟨λt l ho t' l' e hs=>by rw[zg]at hs;simp at hs,zZ,λ_ _ _ ho _ _ _ hs=>by rw[zg]at hs;simp at hs,λ_ _ ho _ _ _ _ _ hs=>by rw[zg]at hs;simp at hs⟩
  ·simp at h
 ·rename_i id0 j0;split at h
  ·rename_i k0 v0 m0 zg;rcases J5 h j id hj with h1|⟨rfl,rfl⟩
   ·exact hI j id h1
   ·obtain⟨cs,⟨v,rfl,_,h1⟩,rfl⟩:=gL hv (by simp) rfl;obtain⟨Dv,⟨v',rfl,_,h2⟩,hu⟩:=gL hx (by simp[zC.mk]) rfl;simp only[Z2r]at hu;subst hu;refine⟨λt l ho t' l' e hs=>by rw[zg]at hs;simp at hs,λ_ _ _ hs=>by rw[zg]at hs;simp at hs,λ_ _ _ ho _ _ _ hs=>?_,λ_ _ ho _ _ _ _ _ hs=>by rw[zg]at hs;simp at hs⟩;have q1:=h1 _ _ _ hs;have q2:=h2 _ _ _ ho;rw[q1]at q2;simp only[Value.map.injEq,zI]at q2;exact q2.symm
  ·simp at h
 ·rename_i id0 ep j0;rcases J5 h j id hj with h1|⟨rfl,rfl⟩
  ·exact hI j id h1
  ·simp only[z7.wG]at hr;split at hr
   ·rename_i t0 l0 e0 i0 hh0 _ zg
    cases hb:(UR hh0 []&&Nat.beq (Hr false [] e0 i0) ep) with
    |false=>rw[hb]at hr;simp at hr
    |true=>
     simp only[zA]at hb;have he:=zE hb.2;obtain⟨cs,⟨v,rfl,_,h1⟩,rfl⟩:=gL hv (by simp) rfl;obtain⟨Dv,⟨v',rfl,_,h2⟩,hu⟩:=gL hx (by simp[zC.mk]) rfl;simp only[Z2r]at hu;subst hu;refine⟨λt l ho t' l' e hs=>by rw[zg]at hs;simp at hs,λa ho a' hs=>by rw[zg]at hs;simp at hs,λ_ _ _ _ _ _ _ hs=>by rw[zg]at hs;simp at hs,λ_ _ ho _ _ _ _ _ hs=>?_⟩;rw[<-((h2 _ _ _ _ _ ho).2 rfl).1 rfl,<-((h1 _ _ _ _ _ zg).2 he).1 rfl]
   ·simp at hr
 ·simp at h
theorem Oh{a:z7}{p:zC}{d:p.den}{b b':Y2}(h:JV so a p b=some b'):((∀y z,a≠.pr y z)/\a≠.un/\a.sk=.leaf/\a.isAgg=false)/\(∀y z,p.mk d≠.pr y z)/\p.mk d≠.un/\(p.mk d).sk=.leaf/\(p.mk d).isAgg=false:=by
 unfold JV at h;split at h
 ·simp[zC.mk,z7.sk,z7.isAgg]
 ·simp[zC.mk,z7.sk,z7.isAgg]
 ·simp[zC.mk,z7.sk,z7.isAgg]
 ·simp[zC.mk,z7.sk,z7.isAgg]
 ·simp at h
theorem MX:{c c':z7}->{q:zC}->{d:q.den}->{b b':Y2}->{vs:List Value}->JJ so c q b=some b'->jO w g so c vs->c.wG so Y=some c'->jO w' gc oc (q.mk d) vs->
  (∀j id,yN b j=some id->Ident g gc oc so j id)->∀j id,yN b' j=some id->Ident g gc oc so j id:=by
 intro c
 induction c with
 |pr a c iha ihc=>
  intro c' q d b b' vs h hv hr hx hI
  cases q with
  |pr p q=>
   obtain⟨c1,c2,rfl,h1,h2⟩:=hv;obtain⟨e1,e2,he,k1,k2⟩:=hx;simp only[z7.wG]at hr;split at hr
   ·rename_i a' cc' ha hc;have q2d:∀t x,a=.data t x->JJ so (.pr a c) (.pr p q) b=some b'->∀j id,yN b' j=some id->Ident g gc oc so j id:=by
     rintro t x rfl h
     cases p with
     |val u=>
      simp only[JJ]at h;have hb:=yL h;obtain⟨hs,hb⟩:=hb;obtain⟨hs,_⟩:=Z31.1 hs;obtain rfl:=hs.down;have hl:c1.length=e1.length:=by rw[h1.len,k1.len];rfl
      obtain⟨_,rfl⟩:=Z3c he hl
      exact ihc hb h2 hc k2 hI
     |_=>simp[JJ,JV]at h
    by_cases hd:∃t x,a=.data t x
    ·obtain⟨t,x,hd⟩:=hd;exact q2d t x hd h
    ·have h':(match JV so a p b with
      |some b=>JJ so c q b
      |none=>none)=some b':=by
      cases a<;>first|exact h|exact absurd ⟨_,_,rfl⟩ hd
     split at h'
     ·rename_i b1 Vk;obtain⟨⟨f1,f2,f3,f4⟩,g1,g2,g3,g4⟩:=Oh (d:=d.1) Vk;have l1:c1.length=1:=by rw[h1.len,f3];rfl
      have l2:e1.length=1:=by rw[k1.len,g3];rfl
      obtain⟨rfl,rfl⟩:=Z3c he (l1.trans l2.symm);have hI1:=PY Vk (y8 h1 rfl f1 f2) ha (y8 k1 (by rw[f4,g4]) g1 g2) hI;exact ihc h' h2 hc k2 hI1
     ·simp at h'
   ·simp at hr
  |_=>cases a<;>simp[JJ]at h
 |un=>
  intro c' q d b b' vs h hv hr hx hI;cases q<;>simp[JJ]at h
  subst h;exact hI
 |_=>intro c' q d b b' vs h;cases q<;>simp[JJ]at h
theorem zab{a a':z7}{p:zC}{d:p.den}{b b':Y2}{u:Value}(h:zac so a p b=some b')(hv:qy w g so a u)(hr:a.wG so Y=some a')(hx:qy w' gc oc (p.mk d) u)
  (hI:∀j id,yN b j=some id->Ident g gc oc so j id):∀j id,yN b' j=some id->Ident g gc oc so j id:=by
 unfold zac at h;split at h
 ·rename_i t1 a1 t2 p1;simp only[z7.wG,kT]at hr;obtain⟨a1',hr,_⟩:=hr;obtain⟨cs,⟨x,Dv,rfl,h1,h2⟩,h3⟩:=gL hv (by simp) rfl;obtain⟨cs2,⟨x2,cs2',rfl,k1,k2⟩,k3⟩:=gL hx (by simp[zC.mk]) rfl;simp only[Z2r]at h3 k3;rw[h3]at k3;simp only[Value.iface.injEq]at k3;obtain⟨_,rfl⟩:=k3;have ztc:(∃id ep,a1=.ref id [] ep)\/(∃id,a1=.zw id [])\/(∃id,a1=.qF id)\/(∃id ep,a1=.nv false id [] ep):=by
   unfold JV at h;split at h
   ·exact .inl ⟨_,_,rfl⟩
   ·exact .inr (.inl ⟨_,rfl⟩)
   ·exact .inr (.inr (.inl ⟨_,rfl⟩))
   ·exact .inr (.inr (.inr ⟨_,_,rfl⟩))
   ·simp at h
  have hp:(∀y z,p1.mk d≠.pr y z)/\p1.mk d≠.un:=by
   unfold JV at h;split at h
   ·simp[zC.mk]
   ·simp[zC.mk]
   ·simp[zC.mk]
   ·simp[zC.mk]
   ·simp at h
  have ha:(∀y z,a1≠.pr y z)/\a1≠.un:=by
   rcases ztc with⟨_,_,rfl⟩|⟨_,rfl⟩|⟨_,rfl⟩|⟨_,_,rfl⟩<;>simp
  exact PY h (y8 h1 h2 ha.1 ha.2) hr (y8 k1 k2 hp.1 hp.2) hI
 ·rename_i f c f' q;obtain⟨hb,h⟩:=yL h;simp only[z7.wG,kT]at hr;obtain⟨c',hr,_⟩:=hr;obtain⟨cs,⟨vs,rfl,h1⟩,h3⟩:=gL hv (by simp) rfl;obtain⟨cs2,⟨vs2,rfl,k1⟩,k3⟩:=gL hx (by simp[zC.mk]) rfl;simp only[Z2r]at h3 k3;rw[h3]at k3;simp only[Value.func.injEq]at k3;have Uv:vs=vs2:=by
   have:=Wm Array.toList k3.2.2;simpa using this
  subst Uv;exact MX h h1 hr k1 hI
 ·exact PY h hv hr hx hI
theorem MU{σ:St}{all:z7}{vs:List Value}(Eg:so=σ.z6):(jf:List Nat)->(out:List (Nat×zC))->(d:Qg out)->{b b':Y2}->CK so all jf out b=some b'->
  (∀i∈jf,∀a,jX all i=some a->(∃a',a.wG so Y=some a')/\∀u,vs[i]? = some u->qy w g so a u)->
  (∀k i av,zT jf k=some i->zT ((vb out d).map Prod.snd) k=some av->∃u,vs[i]? = some u/\qy w' gc oc av u)->
  (∀j id,yN b j=some id->Ident g gc oc so j id)->∀j id,yN b' j=some id->Ident g gc oc so j id
 |[],_,_,b,b',h,_,_,hI=>by
  simp only[CK,zI]at h
  subst h;exact hI
 |i::l,[],_,b,b',h,_,_,_=>by simp[CK]at h
 |i::l,(i2,p)::out,d,b,b',h,z1c,hex,hI=>by
  simp only[CK]at h;split at h
  ·rename_i a ha;split at h
   ·rename_i b1 Vk;obtain⟨⟨a',hr⟩,hv⟩:=z1c i (by simp) a ha;obtain⟨u,hu,hx⟩:=hex 0 i (p.mk d.1) rfl rfl;exact MU Eg l out d.2 h (λi' wu=>z1c i' (by simp[wu])) (λk i' av h1 h2=>hex (k+1) i' av h1 h2) (zab Vk (hv u hu) hr hx hI)
   ·simp at h
  ·simp at h
end
end Go.Kz
namespace Go.Kz
variable {R:Type}
theorem BK{M:List Nat}{E:Nat->Nat×Nat}{j:Nat}{p:zC}{d:p.den}{y:Obj}(h:(yX.W7 p).inst M E j d=some y):∃a',p.inst M E d=some a'/\y=.cell (.jD a'):=by
 simp only[yX.inst]at h
 cases hc:(z7.jD (p.mk d)).kp with
 |false=>rw[hc]at h;simp at h
 |true=>
  rw[hc]at h;simp only[zJ,kT]at h;obtain⟨a',h1,h2⟩:=h;exact⟨a',h1,h2.symm⟩
theorem xE{I:Type}:(l:List I)->(i:Nat)->zT l i=l[i]?
 |[],i=>by cases i<;>rfl
 |x::l,0=>rfl
 |x::l,i+1=>by simp only[zT,xE l i];simp
theorem ZM{σ:St}{ids:List Nat}{b:Y2}:{os:List Obj}->{j0:Nat}->Ah σ ids b os j0=true->∀j y id,zT os j=some y->yN b (j0+j)=some id->id∈ids/\sameKind (σ.z6 id) y=true
 |[],j0,_,j,y,id,h,_=>by cases j<;>simp[zT]at h
 |o::os,j0,hk,j,y,id,h,hb=>by
  simp only[Ah,zA]at hk
  cases j with
  |zero=>
   simp only[zT,zI]at h;subst h;rw[Ot]at hb;have h1:=hk.1;rw[hb]at h1;simp only[zA]at h1
   exact⟨jK.1 h1.1,h1.2⟩
  |succ j=>exact ZM hk.2 j y id h (by rw[<-hb];congr 1;omega)
theorem J6{b:Y2}{n:Nat}:{m j0:Nat}->∀j id,zT (Zf b n m j0) j=some id->j<m/\(yN b (j0+j)=some id\/(yN b (j0+j)=none/\id=n+(j0+j)))
 |0,j0,j,id,h=>by cases j<;>simp[Zf,zT]at h
 |m+1,j0,0,id,h=>by
  simp only[Zf,zT,zI]at h;refine⟨by omega,?_⟩;rw[Ot];split at h
  ·rename_i i hi;subst h;exact .inl hi
  ·rename_i hi;exact .inr ⟨hi,h.symm⟩
 |m+1,j0,j+1,id,h=>by
  simp only[Zf,zT]at h;obtain⟨h1,h2⟩:=J6 (m:=m) j id h;have e:j0+1+j=j0+(j+1):=by omega
  rw[e]at h2;exact⟨by omega,h2⟩
theorem pq{M:List Nat}{E:Nat->Nat×Nat}:(l:List yX)->(d:WD l)->{j0:Nat}->{os:List Obj}->Po M E l d j0=some os->
  os.length=l.length/\∀j y,zT os j=some y->∃(o:yX)(e:o.den),zT (wO l d) j=some (o.mk e)/\o.inst M E (j0+j) e=some y/\(YO l=true->o.flat=true)
 |[],d,j0,os,h=>by
  simp only[Po,zI]at h;subst h
  exact⟨rfl,λj y h=>by cases j<;>simp[zT]at h⟩
 |o::l,d,j0,os,h=>by
  simp only[Po]at h;split at h
  ·rename_i x y h1 h2;simp only[zI]at h;subst h;obtain⟨h3,h4⟩:=pq l d.2 h2;refine⟨by simp[h3],λj z hj=>?_⟩
   cases j with
   |zero=>
    simp only[zT,zI]at hj;subst hj
    exact⟨o,d.1,rfl,h1,λh=>by simp only[YO,zA]at h;exact h.1⟩
   |succ j=>
    obtain⟨o',e,k1,k2,k3⟩:=h4 j z hj;refine⟨o',e,k1,?_,λh=>k3 (by simp only[YO,zA]at h;exact h.2)⟩;rw[<-k2];congr 1;omega
  ·simp at h
theorem U1:{l:List Nat}->V1 l=true->l.Nodup
 |[],_=>by simp
 |x::l,h=>by
  simp only[V1,zA,PF]at h;exact Z2m.2 ⟨qA.1 h.1,U1 h.2⟩
theorem E5{I:Type}:{l:List I}->{i:Nat}->l.length<=i->zT l i=none
 |[],i,_=>by cases i<;>rfl
 |_::_,0,h=>by simp at h
 |_::l,i+1,h=>E5 (l:=l) (by simpa using h)
theorem G9:(l:List yX)->(d:WD l)->(wO l d).length=l.length
 |[],_=>rfl
 |_::l,d=>by simp only[wO,X4,G9 l]
def WM(σ:St)(i:Nat):Bool:=match σ.z6 i with
 |some (.row _ _ _)=>true
 |_=>false
structure jC (w:World) (g:z8) (σ:St) (n:Nat) (x:Bool) (ids:List Nat) (b:Y2) (qv:wQ) (r:qv.den) (os:List Obj) (w':World) (gc:z8):Prop where
 ext:Ext w (jZ x g ids) w' gc
 heap:yH w' gc (zT (wO qv.z6 r.2))
 ident:∀j id,yN b j=some id->Ident g gc (zT (wO qv.z6 r.2)) σ.z6 j id
 inst:Po (Zf b n qv.z6.length 0) (PZ σ b) qv.z6 r.2 0=some os
 nodup:V1 (Zf b n qv.z6.length 0)=true
 back:Ah σ ids b os 0=true
 fresh:∀m,n<=m->m<n+8->zu g σ m
 len:qv.z6.length<=8
 flat:x=false\/(xw qv.zy=true/\YO qv.z6=true)
 had:∀i∈ids,σ.z6 i≠none
section
variable {nt:Nat}{w:World}{g:z8}{a:Act}{σ:St}{n:Nat}{x:Bool}{ids:List Nat}{b:Y2}{qv:wQ}{r:qv.den}{os:List Obj}{w':World}{gc:z8}
abbrev jC.M(_:jC w g σ n x ids b qv r os w' gc):List Nat:=Zf b n qv.z6.length 0
abbrev jC.G(_:jC w g σ n x ids b qv r os w' gc):z8:=gx g gc ids (Zf b n qv.z6.length 0) w.heap.size (WM σ)
abbrev jC.st(_:jC w g σ n x ids b qv r os w' gc):St:=za5 σ ids (Zf b n qv.z6.length 0) os
theorem jC.idx(H:jC w g σ n x ids b qv r os w' gc){j id:Nat}(h:zT H.M j=some id):qI id H.M 0=some j:=by
 have:=YF (k:=0) (U1 H.nodup) h
 rwa [Wq]at this
theorem jC.zl2(H:jC w g σ n x ids b qv r os w' gc){j id:Nat}(h:zT H.M j=some id):(yN b j=some id/\id∈ids)\/(yN b j=none/\id=n+j/\j<8):=by
 obtain⟨h1,h2⟩:=J6 j id h;rw[Wq]at h2;rcases h2 with h2|⟨h2,h3⟩
 ·obtain⟨y,hy⟩:=xT (l:=os) (i:=j) (by rw[(pq _ _ H.inst).1];exact h1);exact .inl ⟨h2,(ZM H.back j y id hy (by rw[Wq];exact h2)).1⟩
 ·exact .inr ⟨h2,h3,by have:=H.len;omega⟩
theorem jC.zdu(H:jC w g σ n x ids b qv r os w' gc){j id:Nat}(h:zT H.M j=some id):H.st.z6 id=zT os j:=by
 show(match qI id H.M 0 with
  |some j=>zT os j
  |none=>cond (qs id ids) none (σ.z6 id))=_
 rw[H.idx h]
theorem jC.zdt(H:jC w g σ n x ids b qv r os w' gc){id:Nat}(h:id∉H.M):H.st.z6 id=if id∈ids then none else σ.z6 id:=by
 show(match qI id H.M 0 with
  |some j=>zT os j
  |none=>cond (qs id ids) none (σ.z6 id))=_
 rw[Vz h]
 cases hm:qs id ids with
 |true=>simp[jK.1 hm]
 |false=>simp[qA.1 hm]
theorem jC.new(H:jC w g σ n x ids b qv r os w' gc){id:Nat}(h:σ.z6 id≠none){j:Nat}(hm:zT H.M j=some id):yN b j=some id/\id∈ids:=by
 rcases H.zl2 hm with h1|⟨_,rfl,h2⟩
 ·exact h1
 ·exact absurd (H.fresh _ (by omega) (by omega)).z6 h
theorem jC.bk(H:jC w g σ n x ids b qv r os w' gc):Bk gc H.G (zT (wO qv.z6 r.2)) H.st.z6 H.M (PZ σ b):=by
 obtain⟨hlen,pP⟩:=pq _ _ H.inst;refine⟨λj id hm y' hy=>?_,λj id hm t l ho=>?_,λj id hm t l ho p=>?_,λj id hm=>?_,λb j p id hb hm=>za3 H.ext hb hm,λb j id hb hm=>za4 H.ext hb hm⟩
 ·rw[H.zdu hm]at hy;obtain⟨o,e,h1,h2,_⟩:=pP j y' hy;rw[Wq]at h2;refine⟨_,h1,?_⟩
  cases o with
  |row t=>simp only[yX.inst,zI]at h2;exact .inl ⟨t,e,rfl,h2.symm⟩
  |cell p=>
   simp only[yX.inst,kT]at h2;obtain⟨a',h2,rfl⟩:=h2
   exact .inr (.inl ⟨_,a',rfl,rfl,GK p h2⟩)
  |map kt vt=>simp only[yX.inst,zI]at h2;exact .inr (.inr (.inl ⟨kt,vt,e,rfl,h2.symm⟩))
  |nest t=>simp only[yX.inst,zI]at h2;exact .inr (.inr (.inr ⟨t,e,rfl,h2.symm⟩))
  |iter PC|low t=>simp[yX.inst]at h2
  |W7 p=>
   obtain⟨a',h2b,rfl⟩:=BK h2;exact .inr (.inl ⟨_,_,rfl,rfl,by simp only[z7.sk];exact GK p h2b⟩)
 ·show(match qI id H.M 0 with
   |some j=>if WM σ id then g.sv id [] else gc.sv j []
   |none=>g.sv id [])=_
  rw[H.idx hm];simp only;split
  ·rename_i hk;unfold WM at hk;split at hk
   ·rename_i t' l' e' zg;obtain⟨h1,_⟩:=H.new (by rw[zg];simp) hm;exact((H.ident j id h1).1 t l ho t' l' e' zg).symm
   ·simp at hk
  ·rfl
 ·show(match qI id H.M 0 with
   |some j=>if WM σ id then g.sv id p else gc.sv j p
   |none=>g.sv id p)=_
  rw[H.idx hm];simp only;split
  ·rename_i hk;exfalso;unfold WM at hk;split at hk
   ·rename_i t' l' e' zg;obtain⟨h1,_⟩:=H.new (by rw[zg];simp) hm;obtain⟨y,hy⟩:=xT (l:=os) (i:=j) (by rw[hlen];exact(J6 j id hm).1);have hs:=(ZM H.back j y id hy (by rw[Wq];exact h1)).2;obtain⟨o,e,h3,h4,_⟩:=pP j y hy;rw[h3]at ho
    cases o with
    |nest t=>simp only[yX.inst,zI]at h4;subst h4;rw[zg]at hs;simp[sameKind]at hs
    |row t=>simp[yX.mk]at ho
    |cell p=>simp[yX.mk]at ho
    |map kt vt=>simp[yX.mk]at ho
    |iter PC|low t=>simp[yX.mk]at ho
    |W7 p=>simp[yX.mk]at ho
   ·simp at hk
  ·rfl
 ·show(match qI id H.M 0 with
   |some j=>gc.qY j
   |none=>g.qY id)=_
  rw[H.idx hm]
theorem jC.carry(H:jC w g σ n x ids b qv r os w' gc):zS w' gc w' H.G\/(xw qv.zy=true/\YO qv.z6=true):=by
 rcases H.flat with h|h
 ·left;have he:=H.ext;rw[h]at he;exact Ob he
 ·exact .inr h
theorem jC.kept(H:jC w g σ n x ids b qv r os w' gc)(zq:zP nt g w a σ)(id:Nat)(h:σ.z6 id≠none\/id<n\/n+8<=id):qu g H.G id (σ.z6 id) (H.st.z6 id):=by
 by_cases hM:id∈H.M
 ·obtain⟨j,hm⟩:∃j,zT H.M j=some id:=by
   obtain⟨j,hj,he⟩:=Wl.1 hM;exact⟨j,by rw[xE,wV hj,he]⟩
  rcases H.zl2 hm with⟨h1,h2⟩|⟨h1,rfl,h2⟩
  ·rw[H.zdu hm];obtain⟨hlen,pP⟩:=pq _ _ H.inst;obtain⟨y,hy⟩:=xT (l:=os) (i:=j) (by rw[hlen];exact(J6 j id hm).1);rw[hy];obtain⟨_,hs⟩:=ZM H.back j y id hy (by rw[Wq];exact h1);obtain⟨o,e,h3,h4,_⟩:=pP j y hy;rw[Wq]at h4;have hid:=H.ident j id h1;have GC:=H.bk;have zsf:=H.heap.z6 j _ h3
   cases Eg:σ.z6 id with
   |none=>exact absurd Eg (H.had id h2)
   |some so=>
    rw[Eg]at hs;have xQ:=zq.heap.z6 id _ Eg
    have hE:PZ σ b j=(match so with
     |.row _ _ e=>(e,0)
     |.nest _ _ e i _=>(e,i+1)
     |_=>(0,0)):=by
     cases so<;>simp[PZ,h1,Eg]
    cases o with
    |row t=>
     simp only[yX.inst,zI]at h4;subst h4
     cases so with
     |row u l e0=>
      simp only[sameKind,Z31]at hs;obtain⟨hs,_⟩:=hs;obtain rfl:=hs.down;have yU:=hid.1 _ _ h3 _ _ _ Eg;simp only at hE;refine .inr (.inl ⟨u,l,e,e0,(PZ σ b j).1,rfl,rfl,.inr ⟨by rw[hE],?_,λp=>?_⟩⟩)
      ·obtain⟨_,a1,c1,_,q1,_⟩:=xQ;obtain⟨_,a2,c2,_,q2,_⟩:=zsf;rw[<-yU,q2]at q1;simp only[Value.slice.injEq]at q1;exact q1.2.1
      ·show(match qI id H.M 0 with
        |some j=>if WM σ id then g.sv id p else gc.sv j p
        |none=>g.sv id p)=_
       rw[H.idx hm]
       simp[WM,Eg]
     |_=>simp[sameKind]at hs
    |cell p=>
     simp only[yX.inst,kT]at h4;obtain⟨a',h4,rfl⟩:=h4
     cases so with
     |cell a0=>
      simp only[sameKind]at hs;refine .inr (.inr (.inl ⟨a0,a',rfl,rfl,Sk.qJ hs,?_⟩));rw[GC.qY j id hm]
      exact hid.2.1 _ h3 _ Eg
     |_=>simp[sameKind]at hs
    |map kt vt=>
     simp only[yX.inst,zI]at h4;subst h4
     cases so with
     |map Xv X8 m0=>
      simp only[sameKind,zA,Z31]at hs;obtain⟨⟨e1,_⟩,⟨e2,_⟩⟩:=hs;obtain rfl:=e1.down;obtain rfl:=e2.down;refine .inr (.inr (.inr (.inl ⟨_,_,m0,e,rfl,rfl,?_⟩)));rw[GC.qY j id hm]
      exact hid.2.2.1 _ _ _ h3 _ _ _ Eg
     |_=>simp[sameKind]at hs
    |nest t=>
     simp only[yX.inst,zI]at h4;subst h4
     cases so with
     |nest u l e0 i0 hole=>
      cases hole with
      |some p=>simp[sameKind]at hs
      |none=>
       simp only[sameKind,Z31]at hs;obtain⟨hs,_⟩:=hs;obtain rfl:=hs.down;have yU:=hid.2.2.2 _ _ h3 _ _ _ _ _ Eg;simp only at hE;refine .inr (.inr (.inr (.inr ⟨u,l,e,e0,(PZ σ b j).1,i0,(PZ σ b j).2,none,none,rfl,rfl,by rw[hE];exact jq _,by rw[hE];exact Z1h _,λ_=>?_,λhi=>?_⟩)))
       ·rw[GC.svn j id hm _ _ h3 []];exact yU
       ·rw[hE]at hi;simp at hi
     |_=>simp[sameKind]at hs
    |iter PC|low t=>simp[yX.inst]at h4
    |W7 p=>
     obtain⟨a',h4b,rfl⟩:=BK h4
     cases so with
     |cell a0=>
      simp only[sameKind]at hs;refine .inr (.inr (.inl ⟨a0,_,rfl,rfl,Sk.qJ hs,?_⟩));rw[GC.qY j id hm]
      exact hid.2.1 _ h3 _ Eg
     |_=>simp[sameKind]at hs
  ·exfalso;rcases h with h|h|h
   ·exact h (H.fresh _ (by omega) (by omega)).z6
   ·omega
   ·omega
 ·rw[H.zdt hM];by_cases hi:id∈ids
  ·rw[qn hi];exact .inl rfl
  ·rw[qP hi]
   cases ho:σ.z6 id with
   |none=>exact .inl rfl
   |some o=>exact qu.same (ER H.ext zq.heap.tags hi hM)
end
end Go.Kz
namespace Go.Kz
variable {R:Type}
section
variable {nt:Nat}{w:World}{g:z8}{a:Act}{σ:St}{n:Nat}{x:Bool}{ids:List Nat}{b:Y2}{qv:wQ}{r:qv.den}{os:List Obj}{w':World}{gc:z8}
theorem jC.notM(H:jC w g σ n x ids b qv r os w' gc){m:Nat}(hm:m<n\/n+8<=m)(hf:zu g σ m):m∉H.M:=by
 intro hM;obtain⟨j,hj,he⟩:=Wl.1 hM;rcases H.zl2 (j:=j) (id:=m) (by rw[xE,wV hj,he]) with⟨_,h2⟩|⟨_,rfl,_⟩
 ·exact H.had m h2 hf.z6
 ·omega
theorem jC.ok(H:jC w g σ n x ids b qv r os w' gc)(zq:zP nt g w a σ):zP nt H.G w' a H.st:=by
 have qU:=zg8 (M:=H.M) (vV:=WM σ) H.ext zq.heap.tags;have z7d:∀m,¬zu g σ m->σ.z6 m≠none\/m<n\/n+8<=m:=by
  intro m hm;by_cases h:n<=m/\m<n+8
  ·exact absurd (H.fresh m h.1 h.2) hm
  ·right;omega
 refine⟨λi av hi=>?_,⟨λid y hy=>?_,λb hb=>z2f H.ext H.heap.tags b hb⟩,zq.size,zq.defers,zq.known.kept qU⟩
 ·obtain⟨v,h1,h2⟩:=zq.zy i av hi;exact⟨v,h1,qy.frame qU (λid hid=>H.kept zq id (z7d id λhf=>hf.zy i av hi hid)) h2⟩
 ·by_cases hM:id∈H.M
  ·obtain⟨j,hj,he⟩:=Wl.1 hM;have hm:zT H.M j=some id:=by rw[xE,wV hj,he]
   rw[H.zdu hm]at hy;obtain⟨_,pP⟩:=pq _ _ H.inst;obtain⟨o,e,h3,h4,h5⟩:=pP j y hy;rw[Wq]at h4;exact z71 H.bk hm (H.carry.imp _root_.id λh=>h5 h.2) h3 h4 (H.heap.z6 j _ h3)
  ·rw[H.zdt hM]at hy;by_cases hi:id∈ids
   ·rw[qn hi]at hy;simp at hy
   ·rw[qP hi]at hy;refine qz.frame qU (ER H.ext zq.heap.tags hi hM) (λav ha vT OQ=>H.kept zq vT (z7d vT λhf=>?_)) (zq.heap.z6 id y hy);subst ha;exact hf.cells id av hy OQ
theorem jC.free(H:jC w g σ n x ids b qv r os w' gc){m:Nat}(hm:m<n\/n+8<=m)(hf:zu g σ m):zu H.G H.st m:=by
 have hM:=H.notM hm hf;have zi8:∀{t:Tag},((∃p,JY H.M t=.row m p)\/JY H.M t=.box m)->False:=by
  intro t ht
  cases t with
  |qw=>simp[JY]at ht
  |ro=>simp[JY]at ht
  |row j p=>
   simp only[JY]at ht
   cases hj:zT H.M j with
   |none=>simp[hj]at ht
   |some id=>simp[hj]at ht;subst ht;exact hM (js hj)
  |box j=>
   simp only[JY]at ht
   cases hj:zT H.M j with
   |none=>simp[hj]at ht
   |some id=>simp[hj]at ht;subst ht;exact hM (js hj)
 refine⟨?_,λbb p hb=>?_,λbb hb=>?_,hf.zy,λid av ho hmem=>?_⟩
 ·rw[H.zdt hM,hf.z6];split<;>rfl
 ·rcases ZV (M:=H.M) (vV:=WM σ) H.ext bb with⟨_,h1,_⟩|⟨h1,_⟩
  ·exact hf.row bb p (h1.symm.trans hb)
  ·exact zi8 (.inl ⟨p,h1.symm.trans hb⟩)
 ·rcases ZV (M:=H.M) (vV:=WM σ) H.ext bb with⟨_,h1,_⟩|⟨h1,_⟩
  ·exact hf.box bb (h1.symm.trans hb)
  ·exact zi8 (.inr (h1.symm.trans hb))
 ·by_cases hI:id∈H.M
  ·obtain⟨j,hj,he⟩:=Wl.1 hI;have hmj:zT H.M j=some id:=by rw[xE,wV hj,he]
   rw[H.zdu hmj]at ho;obtain⟨_,pP⟩:=pq _ _ H.inst;obtain⟨o,e,h3,h4,h5⟩:=pP j _ ho
   cases o with
   |cell p=>
    simp only[yX.inst,kT,Obj.cell.injEq]at h4;obtain⟨a',h4,rfl⟩:=h4
    exact hM ((wk p h4).2.2.2.2 m hmem)
   |W7 p=>
    obtain⟨a',h4b,h6⟩:=BK h4;simp only[Obj.cell.injEq]at h6;subst h6
    exact hM ((wk p h4b).2.2.2.2 m (by simpa[z7.ids]using hmem))
   |_=>simp[yX.inst]at h4
  ·rw[H.zdt hI]at ho;by_cases hi:id∈ids
   ·rw[qn hi]at ho;simp at ho
   ·rw[qP hi]at ho;exact hf.cells id av ho hmem
theorem AY{M:List Nat}{E:Nat->Nat×Nat}:(l:List (Nat×zC))->(d:Qg l)->{vs:List z7}->pD M E l d=some vs->∀m,m∈(vZ vs).ids->m∈M
 |[],d,vs,h,m,hm=>by
  simp only[pD,zI]at h;subst h
  simp[vZ,z7.ids]at hm
 |(i,p)::l,d,vs,h,m,hm=>by
  simp only[pD]at h;split at h
  ·rename_i a vs' h1 h2;simp only[zI]at h;subst h;simp only[vZ,z7.ids,PH]at hm;rcases hm with hm|hm
   ·exact(wk p h1).2.2.2.2 m hm
   ·exact AY l d.2 h2 m hm
  ·simp at h
theorem Cx:(n:Nat)->(l:List z7)->∀m,m∈(vZ (pQ n l)).ids->m∈(vZ l).ids
 |0,_,_,h=>h
 |_+1,[],_,h=>h
 |n+1,a::l,m,h=>by
  simp only[pQ]at h;simp only[vZ,z7.ids,PH];exact .inr (Cx n l m h)
theorem NM(l:List z7)(m:Nat)(h:m∈(gd l).ids):m∈(vZ l).ids:=by
 match l,h with
 |[],h=>simp[gd,z7.ids,vZ]at h
 |[a],h=>simp only[vZ,z7.ids,PH];exact .inl h
 |a::c::l,h=>exact h
theorem DD{G:z8}{oc o':qQ}{M:List Nat}{E:Nat->Nat×Nat}(hb:Bk gc G oc o' M E):(l:List (Nat×zC))->(d:Qg l)->{vs:List z7}->{us:List Value}->(zS w gc w G\/xw l=true)->pD M E l d=some vs->
  qj w gc oc (vZ ((vb l d).map Prod.snd)) us->qj w G o' (vZ vs) us
 |[],d,vs,us,_,h,hv=>by
  simp only[pD,zI]at h;subst h
  simpa[vb,vZ,qj]using hv
 |(i,p)::l,d,vs,us,hf,h,hv=>by
  simp only[pD]at h;split at h
  ·rename_i a vs' h1 h2;simp only[zI]at h;subst h;simp only[vb,Qw,vZ,qj]at hv⊢;obtain⟨v,rest,rfl,k1,k2⟩:=hv;exact⟨v,rest,rfl,LW hb (hf.imp _root_.id λh=>by simp only[xw,zA]at h;exact h.1) h1 k1,
    DD hb l d.2 (hf.imp _root_.id λh=>by simp only[xw,zA]at h;exact h.2) h2 k2⟩
  ·simp at h
theorem AQ{G:z8}{oc o':qQ}{M:List Nat}{E:Nat->Nat×Nat}(hb:Bk gc G oc o' M E):(k:Nat)->(l:List (Nat×zC))->(d:Qg l)->{vs:List z7}->{u:Value}->(zS w gc w G\/xw l=true)->pD M E l d=some vs->
  qy w gc oc (gd (pQ k ((vb l d).map Prod.snd))) u->qy w G o' (gd (pQ k vs)) u
 |0,l,d,vs,u,hf,h,hv=>by
  simp only[pQ]at hv⊢
  match l,d,hf,h,hv with
  |[],d,hf,h,hv=>
   simp only[pD,zI]at h;subst h
   simpa[vb,gd,vZ,qy,qj]using hv
  |[(i,p)],d,hf,h,hv=>
   simp only[pD]at h;split at h
   ·rename_i a vs' h1 h2;simp only[zI]at h h2;subst h2;subst h;simp only[vb,Qw,Z2b,gd]at hv⊢;exact LW hb (hf.imp _root_.id λh=>by simp only[xw,zA]at h;exact h.1) h1 hv
   ·simp at h
  |(i,p)::(i2,p2)::l,d,hf,h,hv=>
   have hlen:∃a1 a2 vs',vs=a1::a2::vs':=by
    simp only[pD]at h;split at h
    ·rename_i a vs' h1 h2;split at h2
     ·simp only[zI]at h h2;subst h2;subst h;exact⟨_,_,_,rfl⟩
     ·simp at h2
    ·simp at h
   obtain⟨a1,a2,vs',rfl⟩:=hlen;have je:qy w gc oc (.jD (vZ ((vb ((i,p)::(i2,p2)::l) d).map Prod.snd))) u:=hv;show qy w G o' (.jD (vZ (a1::a2::vs'))) u;simp only[qy]at je⊢;obtain⟨us,rfl,je⟩:=je
   exact⟨us,rfl,DD hb _ d hf h je⟩
 |k+1,[],d,vs,u,hf,h,hv=>by
  simp only[pD,zI]at h;subst h
  simpa[vb,pQ,gd,vZ,qy,qj]using hv
 |k+1,(i,p)::l,d,vs,u,hf,h,hv=>by
  simp only[pD]at h;split at h
  ·rename_i a vs' h1 h2;simp only[zI]at h;subst h;simp only[vb,Qw,pQ]at hv⊢;exact AQ hb k l d.2 (hf.imp _root_.id λh=>by simp only[xw,zA]at h;exact h.2) h2 hv
  ·simp at h
end
end Go.Kz
namespace Go.Kz
variable {R:Type}
theorem CV{l:List (Nat×zC)}:{an:List Nat}->CW l an=true->∀i∈an,∃p,zT l i=some p/\p.2.isVal=false
 |[],_,i,h=>by simp at h
 |j::an,hk,i,h=>by
  simp only[CW,zA]at hk;rcases gJ.1 h with rfl|h
  ·have h1:=hk.1;split at h1
   ·rename_i k p hp;exact⟨_,hp,by simpa using h1⟩
   ·simp at h1
  ·exact CV hk.2 i h
section
variable {P:Program}{o:Oper}{a:Act}{w:World}{K:Act->World->Prop}{Q:Exit->Act->World->Prop}{c:Ctx}{σ:St}{g:z8}{k:St->Option R}{r:R}{base:Nat}
theorem z9v{σ:St}{n fid:Nat}{all:z7}{f:z7->St->Option R}{r:R}(h:EO c σ n (.qW fid .un) all f=some r)(hu:kJ all .un=all):(match WC all (c.env fid) with
   |some (.pure p res F)=>kS σ n all p res F f
   |some (.mut fin jf qv F)=>zdy σ n all fin jf qv F f
   |none=>none)=some r:=by
 unfold EO at h;simp only[gF,gk,zJ,hu]at h;split at h<;>simp_all
theorem Tk{n:Nat}{σ:St}{i:Nat}{x:z7}(zq:zP n g w a σ)(ho:σ.z6 i=some (.cell x))(uc:(z7.jD x).kp=true):
  ∃g',zP n g' w a (σ.setObj i (.cell (.jD x)))/\Ext w g w g'/\zS w g w g'/\(∀m,zu g σ m->zu g' (σ.setObj i (.cell (.jD x))) m)/\
   ∀j,qu g g' j (σ.z6 j) ((σ.setObj i (.cell (.jD x))).z6 j):=by
 obtain⟨c,e,h1,h2,h3⟩:=(zq.heap.z6 i _ ho).out (LV uc);let g':z8:={ g with tag:=λb=>if b=g.qY i then .ro else g.tag b };have qU:zS w g w g':=⟨λb hb=>⟨by simp only[g'];split<;>first|rfl|exact hb,rfl⟩⟩;have pj:∀j,j≠i->Qr w g w g' j:=λj hj=>by
  refine⟨⟨λq=>rfl,λq b hb=>⟨?_,rfl⟩⟩,rfl,λhb=>⟨?_,rfl⟩⟩
  ·simp only[g'];rw[qP (λhe=>by subst he;rw[h2]at hb;simp at hb)];exact hb
  ·simp only[g'];rw[qP (λhe=>by rw[he,h2]at hb;simp only[Tag.box.injEq]at hb;exact hj hb.symm)];exact hb
 have hki:qu g g' i (σ.z6 i) (some (.cell (.jD x))):=.inr (.inr (.inl ⟨_,_,ho,rfl,rfl,rfl⟩));have hk:∀j,qu g g' j (σ.z6 j) ((σ.setObj i (.cell (.jD x))).z6 j):=by
  intro j;by_cases hj:j=i
  ·subst hj;simp only[St.setObj,zD];exact hki
  ·simp only[St.setObj];rw[zm _ _ hj];exact qu.same (pj j hj)
 refine⟨g',zq.pf qU pj (.inl hki) ((qz.W7 uc).2 ⟨c,e,h1,by simp[g'],jO.frame qU (λj _=>hk j) h3⟩) (λb hb=>?_),?_,qU,λm hm=>?_,hk⟩
 ·simp only[g']at hb;split at hb
  ·rename_i he;subst he;exact zq.heap.tags _ (by rw[h2];simp)
  ·exact zq.heap.tags b hb
 ·refine⟨rfl,rfl,rfl,jq _,jq _,λb _ hb=>⟨rfl,?_⟩⟩;simp only[g'];rw[qP (λhe=>by subst he;rw[h2]at hb;simp at hb)]
 ·have hmi:m≠i:=λhe=>by subst he;have:=hm.z6;rw[ho]at this;simp at this
  refine⟨by simp only[St.setObj];rw[zm _ _ hmi];exact hm.z6,λb p hb=>?_,λb hb=>?_,hm.zy,λj av hj=>?_⟩
  ·simp only[g']at hb;split at hb
   ·simp at hb
   ·exact hm.row b p hb
  ·simp only[g']at hb;split at hb
   ·simp at hb
   ·exact hm.box b hb
  ·by_cases Kd:j=i
   ·subst Kd;simp only[St.setObj,zD,zI,Obj.cell.injEq]at hj;subst hj;have:=hm.cells j _ ho;simpa[z7.ids]using this
   ·simp only[St.setObj]at hj;rw[zm _ _ Kd]at hj;exact hm.cells j av hj
theorem HL{n:Nat}:(os:List yX)->(is:List Nat)->{σ:St}->{g:z8}->{k:St->Option R}->{r:R}->zP n g w a σ->Dw os is σ k=some r->
  ∃σ' g',k σ'=some r/\zP n g' w a σ'/\Ext w g w g'/\zS w g w g'/\(∀m,zu g σ m->zu g' σ' m)/\σ'.next=σ.next/\∀al vs,qj w g σ.z6 al vs->qj w g' σ'.z6 al vs
 |[],is,σ,g,k,r,zq,h=>⟨σ,g,by cases is<;>simpa[Dw]using h,zq,Ext.refl w g,⟨λb hb=>⟨hb,rfl⟩⟩,λm hm=>hm,rfl,λ_ _ h=>h⟩
 |o::os,[],σ,g,k,r,zq,h=>⟨σ,g,by cases o<;>simpa[Dw]using h,zq,Ext.refl w g,⟨λb hb=>⟨hb,rfl⟩⟩,λm hm=>hm,rfl,λ_ _ h=>h⟩
 |o::os,i::is,σ,g,k,r,zq,h=>by
  have plain:Dw os is σ k=some r->∃σ' g',k σ'=some r/\zP n g' w a σ'/\Ext w g w g'/\zS w g w g'/\(∀m,zu g σ m->zu g' σ' m)/\σ'.next=σ.next/\∀al vs,qj w g σ.z6 al vs->qj w g' σ'.z6 al vs:=λh=>HL os is zq h
  cases o with
  |W7 p=>
   simp only[Dw]at h;split at h
   ·rename_i x ho
    cases uc:(z7.jD x).kp with
    |false=>rw[uc]at h;exact plain h
    |true=>
    rw[uc]at h;simp only[zJ]at h;obtain⟨g1,h1,h2,h2r,h3,h4⟩:=Tk zq ho uc;obtain⟨σ',g',k1,k2,k3,k3r,k4,k5,k6⟩:=HL os is h1 h;exact⟨σ',g',k1,k2,h2.trans k3,⟨λb hb=>let z:=k3r.qY b (h2r.qY b hb).1;⟨z.1,rfl⟩⟩,λm hm=>k4 m (h3 m hm),k5,λal vs hv=>k6 al vs (qj.frame h2r (λj _=>h4 j) hv)⟩
   ·exact plain h
  |row _=>exact plain h
  |cell _=>exact plain h
  |map _ _=>exact plain h
  |nest _=>exact plain h
  |iter _|low _=>exact plain h
theorem Ib:(l:List yX)->(d:WD l)->{j:Nat}->{o:yX}->zT l j=some o->∃e:o.den,zT (wO l d) j=some (o.mk e)
 |o::l,d,0,o',h=>by
  simp only[zT,zI]at h;subst h
  exact⟨d.1,rfl⟩
 |o::l,d,j+1,o',h=>Ib l d.2 h
 |[],_,j,o',h=>by cases j<;>simp[zT]at h
theorem Pp{so:qQ}{ids:List Nat}{g gc:z8}{w w':World}{xx:Bool}{fo:List yX}{fd:WD fo}(hh:yH w g so)(qm:Ext w (jZ xx g ids) w' gc)(gB:yH w' gc (zT (wO fo fd)))
  (Fa:∀id o,id∈ids->so id=some o->∃o',o.wG so (λi=>qI i ids 0)=some o') :
  (l:Y2)->{b b':Y2}->Mx so ids fo l b=some b'->(∀j id,yN b j=some id->Ident g gc (zT (wO fo fd)) so j id)->∀j id,yN b' j=some id->Ident g gc (zT (wO fo fd)) so j id
 |[],b,b',h,hI=>by
  simp only[Mx,zI]at h
  subst h;exact hI
 |(j,_)::l,b,b',h,hI=>by
  simp only[Mx]at h;split at h
  ·rename_i id hj;split at h
   ·rename_i q x hq ho;have hm:=(yL h).1;replace h:=(yL h).2;simp only[zA]at hm;obtain⟨hm,uc⟩:=hm;split at h
    ·rename_i b1 Vk;obtain⟨d,hd⟩:=Ib fo fd hq;have Ld:(z7.jD (q.mk d)).kp=true:=by
      unfold zaa at Vk;split at Vk
      ·rfl
      ·rfl
      ·simp at Vk
     obtain⟨c,e,h1,h2,h3⟩:=(qz.W7 uc).1 (hh.z6 id _ ho);obtain⟨c',e',k1,k2,k3⟩:=(qz.W7 Ld).1 (gB.z6 j _ hd);have hblk:=(hI j id hj).2.1 _ hd _ ho;rw[hblk]at k1;have yP:=hh.tags (g.qY id) (by rw[h2];simp);have LS:=(qm.vV (g.qY id) yP (.inr ((Gx (w:=w) (x:=xx)).qY _ ((xX (w:=w) (ids:=ids)).qY _ h2).1).1)).1;rw[LS,h1]at k1;simp only[zI,Go.Obj.cells.injEq]at k1;obtain⟨rfl,_⟩:=k1;obtain⟨o',hr⟩:=Fa id _ (jK.1 hm) ho;simp only[Obj.wG,Zd,kT]at hr;obtain⟨y1,⟨y2,hr,_⟩,_⟩:=hr;unfold zaa at Vk;split at Vk
     ·simp only[z7.wG,kT]at hr;obtain⟨y3,hr,_⟩:=hr;exact Pp hh qm gB Fa l h (MX Vk h3 hr k3 hI)
     ·exact Pp hh qm gB Fa l h (PY Vk (y8 h3 rfl (by simp) (by simp)) hr (y8 k3 rfl (by simp[zC.mk]) (by simp[zC.mk])) hI)
     ·simp at Vk
    ·simp at h
   ·exact Pp hh qm gB Fa l h hI
  ·exact Pp hh qm gB Fa l h hI
theorem zdj{fid:Nat}{all:z7}{vals:List Value}{fin:wQ}{jf:List Nat}{qv:wQ}{F:fin.den->Option qv.den}(hco:qe P fid (.mut fin jf qv F))
  (zn:(execOp a.eval o).run P w=(callFunc fid vals.toArray).run P w) (hall:qj w g σ.z6 all vals) (zq:zP c.ntmps g w a σ) (v7:∀m,base<=m->m<base+8->zu g σ m)
  (h:(cond (vG all&&BQ fin.zy 0&&CW fin.zy jf&&(YA fin.zy all||(xw qv.zy&&YO qv.z6))&&Nat.ble qv.z6.length 8)
  (match (CK σ.z6 all jf qv.zy []).bind λb=>Mx σ.z6 (wc σ.z6 100 (uB fin.zy all) []) qv.z6 b b with
   |some b=>z6d σ all fin (wc σ.z6 100 (uB fin.zy all) []) λd=>(F d).bind λr=>O4 σ base (wc σ.z6 100 (uB fin.zy all) []) b jf qv r λv σ=>σ.qM c o.dst v k
   |none=>none) none)=some r) (hK:vz c.ntmps k r g w σ base true K):o.wp P a w K Q:=by
 replace h:=yL h;obtain⟨hb,h⟩:=h;simp only[zA,CX]at hb;obtain⟨⟨⟨⟨hval,zsy⟩,zts⟩,z8e⟩,hlen⟩:=hb;have hlen:=zL hlen;split at h
 ·rename_i b ztn;obtain⟨b0,hb0,Vk⟩:=Zh.1 ztn;generalize gA:wc σ.z6 100 (uB fin.zy all) []=ids at h Vk;have hnd:ids.Nodup:=by rw[<-gA];exact xA _ _ _ (by simp)
  unfold z6d at h;split at h
  ·rename_i os hos;obtain⟨hol,hog⟩:=YV hos;have qU:Wy σ.z6 ids os:=⟨hol,hog⟩;obtain⟨xx,hxx,hxf⟩:∃xx:Bool,(xx=true\/YA fin.zy all=true)/\(xx=false\/(xw qv.zy=true/\YO qv.z6=true)):=by
    rcases z8e with hf|hf
    ·exact⟨false,.inr hf,.inl rfl⟩
    ·exact⟨true,.inl rfl,.inr hf⟩
   obtain⟨d,h,Oj,Fa,LX⟩:=B2 (x:=xx) hnd qU zq.heap fin.zy zsy hval hxx hall h;obtain⟨e,he,h9⟩:=ZL fin.z6 h;subst he;simp only[Zh]at h9;obtain⟨rv,hF,h8⟩:=h9;replace h:=h8;have zg:∀j o',zT (wO fin.z6 e) j=some o'->qz w (kC g ids) (zT (wO fin.z6 e)) j o'/\∀y,o'=.cell y->∀m∈y.ids,m<ids.length:=by
    intro j o' hj;obtain⟨i,hi⟩:=xT (l:=ids) (i:=j) (by rw[<-hol];exact kg hj);obtain⟨o,o2,h1,h2,h3⟩:=hog j i hi;rw[hj]at h3;simp only[zI]at h3;subst h3;exact RC hnd qU hi h2 (zq.heap.z6 i o h1)
   have zse:fin.z6.length=ids.length:=by rw[<-hol,G9]
   have z1c:zP vals.length (jZ xx g ids) w ⟨vals.toArray,[]⟩ (St.of (vb fin.zy d) (wO fin.z6 e)):=by
    refine⟨λi av hi=>?_,⟨λj o' hj=>?_,λbb hbb=>zq.heap.tags bb (LZ hbb)⟩,by simp,rfl,(zq.known.kept xX).kept Gx⟩
    ·obtain⟨_,v,h2,h3,_⟩:=Oj i av hi;exact⟨v,by simpa using h2,h3⟩
    ·exact qz.frame Gx (Bw j) (λ_ _ vT _=>Bg vT _) (zg j o' hj).1
   have QN:∀m,fin.z6.length<=m->zu (jZ xx g ids) (St.of (vb fin.zy d) (wO fin.z6 e)) m:=by
    intro m hm;rw[zse]at hm;refine⟨?_,λbb p hbb=>?_,λbb hbb=>?_,λi av hi hmem=>?_,λj y hj hmem=>?_⟩
    ·exact E5 (by rw[G9,zse];exact hm)
    ·have:=Lx (.inl ⟨p,hbb⟩);omega
    ·have:=Lx (.inr hbb);omega
    ·obtain⟨_,v,_,_,h4⟩:=Oj i av hi;have:=h4 m hmem;omega
    ·have:=(zg j _ hj).2 y rfl m hmem;omega
   have YI:∀v w',(∃g',Ext w (jZ xx g ids) w' g'/\yH w' g' (zT (wO qv.z6 rv.2))/\
     (∀k i av,zT jf k=some i->zT ((vb qv.zy rv.1).map Prod.snd) k=some av->∃u,vals[i]? = some u/\qy w' g' (zT (wO qv.z6 rv.2)) av u)/\
     qy w' g' (zT (wO qv.z6 rv.2)) (gd (pQ jf.length ((vb qv.zy rv.1).map Prod.snd))) v)->K (a.put o.dst v) w':=by
    intro v w' ⟨gc,qm,gB,hex,KZ⟩;unfold O4 at h;split at h
    ·rename_i os' vs q18 Uv;replace h:=yL h;obtain⟨pX,h⟩:=h;simp only[zA]at pX;have q1z:=MU (so:=σ.z6) (g:=g) (gc:=gc) (w:=w) (w':=w') (oc:=zT (wO qv.z6 rv.2)) (Y:=λi=>qI i ids 0) (vs:=vals) rfl jf qv.zy rv.1 hb0 (λi hi av Kf=>by
      obtain⟨p,hp1,hp2⟩:=CV zts i hi;obtain⟨u,Oq,hu2,_⟩:=Ws hall Kf;refine⟨Fa i av p Kf hp1 hp2,λu' hu'=>?_⟩;rw[Oq]at hu';simp only[zI]at hu';subst hu';exact hu2) hex (λj id hj=>by simp[yN]at hj)
     have hid:=Pp (fd:=rv.2) zq.heap qm gB (λid o hid ho=>by
      obtain⟨j,hj,he⟩:=Wl.1 hid;obtain⟨o1,o2,h1,h2,_⟩:=hog j id (by rw[xE,wV hj,he]);rw[ho]at h1;simp only[zI]at h1;subst h1;exact⟨o2,h2⟩) b0 Vk q1z
     have H:jC w g σ base xx ids b qv rv os' w' gc:=⟨qm,gB,hid,q18,pX.1,pX.2,v7,hlen,hxf,λi hi=>by
      obtain⟨j,hj,he⟩:=Wl.1 hi;obtain⟨o1,_,h1,_⟩:=hog j i (by rw[xE,wV hj,he]);rw[h1];simp⟩
     refine z9l (w:=w) (g:=g) (H.ok zq) (MK qm) (λm hm hf=>⟨H.free hm hf,λhmem=>?_⟩) rfl ?_ h (λhh=>by simp at hh) hK
     ·exact H.notM hm hf (AY _ _ Uv m (Cx _ _ m (NM _ m hmem)))
     ·exact AQ H.bk jf.length qv.zy rv.1 (H.carry.imp _root_.id λh=>h.1) Uv KZ
    ·simp at h
   rcases hco w (jZ xx g ids) (d,e) vals rv LX z1c QN hF with⟨hr1,Ov⟩|⟨v,w',hr1,Ov⟩
   ·unfold Oper.wp;rw[zn,hr1,Oper.upon_enter];refine Calls.mono Ov (λe' w' he=>?_);obtain⟨v,rfl,hv⟩:=he;exact YI v w' hv
   ·unfold Oper.wp;rw[zn,hr1,Oper.upon_value];exact YI v w' Ov
  ·simp at h
 ·simp at h
theorem Dn(Lc:CH P c.env){fid:Nat}{all:z7}{vals:List Value}(zn:(execOp a.eval o).run P w=(callFunc fid vals.toArray).run P w)(hall:qj w g σ.z6 all vals)
  (zq:zP c.ntmps g w a σ) (v7:∀m,base<=m->m<base+8->zu g σ m)
  (h:(match WC all (c.env fid) with
   |some (.pure p res F)=>kS σ base all p res F λv σ=>σ.qM c o.dst v k
   |some (.mut fin jf qv F)=>zdy σ base all fin jf qv F λv σ=>σ.qM c o.dst v k
   |none=>none)=some r) (hK:vz c.ntmps k r g w σ base true K):o.wp P a w K Q:=by
 split at h
 ·rename_i p res F LD;have hco:=Lc fid _ (Vb LD);unfold kS at h
  cases hb:(ud res||wR all) with
  |true=>
   rw[hb]at h
   exact Gq hco zn hall zq v7 h hK
  |false=>
   rw[hb]at h;obtain⟨zae,σ1,g1,Y0,h1,h2,h3,Uv⟩:=Uf p all zq.heap hall h;refine Gq (mo:=true) hco zn Uv (h3.st h1 zq) (λm hm1 hm2=>h3.fresh h1 (v7 m hm1 hm2)) Y0 ?_;intro σ' g' a' w' pg qG qm Fm Ff w8;exact hK σ' g' a' w' pg qG (h3.ext.trans qm) (λm hm hf=>Fm m hm (h3.fresh h1 hf)) (Ff.trans h2) w8
 ·rename_i fin jf qv F LD;have hco:=Lc fid _ (Vb LD);unfold zdy at h;obtain⟨σ0,g0,h0,Xk,z8f,_,ztb,q1d,q0a⟩:=HL _ _ zq h;clear h;have hK0:vz c.ntmps k r g0 w σ0 base true K:=by
   intro σ' g' a' w' pg qG kM Fm Ff w8;exact hK σ' g' a' w' pg qG (z8f.trans kM) (λm hm hf=>Fm m hm (ztb m hf)) (Ff.trans q1d) w8
  exact zdj hco zn (q0a _ _ hall) Xk (λm h1 h2=>ztb m (v7 m h1 h2)) h0 hK0
 ·simp at h
theorem z5l(Lc:CH P c.env){cl:Call}{x:Operand}(ho:o.op=.call cl)(ZA:cl.callee=.value x)
  (zq:zP c.ntmps g w a σ) (v7:∀m,base<=m->m<base+8->zu g σ m) {gv args:z7} (hx:ev σ x=some gv) (hargs:I2 σ cl.args.toList=some args)
  (h:(EO c σ base gv args λv σ=>σ.qM c o.dst v k)=some r) (hK:vz c.ntmps k r g w σ base true K):o.wp P a w K Q:=by
 obtain⟨eg,_⟩:=qH zq hx;obtain⟨ea,_⟩:=VJ zq hargs;unfold EO at h;split at h
 ·rename_i fid all Ft;obtain⟨us,hfv,hall⟩:=EN eg ea Ft;refine Dn Lc (fid:=fid) (all:=all) (vals:=(cl.args.toList.map a.eval)++us) ?_ hall zq v7 h hK;have e1:cl.args.map a.eval=(cl.args.toList.map a.eval).toArray:=by apply Z22.1;rw[Z30]
  simp[execOp,ho,resolve,ZA,hfv,Deferred.ofValue,invoke,e1]
 ·simp at h
theorem zhk{q:Bool}{n:Nat}(hy:Mt o=true):opM q c σ n o k=No c σ n o k:=by
 unfold opM;split
 ·rename_i ho;simp[Mt,gP,ho]at hy
 ·rename_i ho;simp[Mt,gP,ho]at hy
 ·rename_i ho;simp[Mt,gP,ho]at hy
 ·rename_i ho;simp[Mt,gP,ho]at hy
 ·rename_i ho;simp[Mt,gP,ho]at hy
 ·rename_i ho;simp[Mt,gP,ho]at hy
 ·rfl
theorem z5p{q:Bool}(hc:xW P c)(zq:zP c.ntmps g w a σ)(v7:∀m,base<=m->m<base+8->zu g σ m)(h:opM q c σ base o k=some r)(hK:vz c.ntmps k r g w σ base (YE q o) K):o.wp P a w K Q:=by
 have hK':vz c.ntmps k r g w σ base (N0 o) K:=by
  intro σ' g' a' w' h1 h2 h3 h4 h5 h6;refine hK σ' g' a' w' h1 h2 h3 h4 h5 λhm=>h6 ?_
  cases q with
  |false=>exact hm
  |true=>
   simp only[YE,zJ,Wh]at hm;exact hm.1
 unfold opM at h;split at h
 ·rename_i x args ts ho
  cases q with
  |false=>exact UM hc zq v7 h hK'
  |true=>
   simp only[zJ]at h;split at h
   ·rename_i gv av hx ha;refine z5l hc.env ho rfl zq v7 hx ha h ?_;intro σ' g' a' w' h1 h2 h3 h4 h5 _;exact hK σ' g' a' w' h1 h2 h3 h4 h5 (λhh=>by simp[YE,BW,ho]at hh)
   ·simp at h
 ·rename_i x nm args ts ho
  cases q with
  |false=>exact UM hc zq v7 h hK'
  |true=>
   simp only[zJ]at h;split at h
   ·rename_i xv av hx ha;obtain⟨fid,all,vals,zn,hall,hu,h⟩:=Rt hc.tt hc.ms (nm:=nm) (ts:=ts) ho zq hx ha h;refine Dn hc.env zn hall zq v7 (z9v h hu) ?_;intro σ' g' a' w' h1 h2 h3 h4 h5 _;exact hK σ' g' a' w' h1 h2 h3 h4 h5 (λhh=>by simp[YE,BW,ho]at hh)
   ·simp at h
 ·rename_i t x ho
  cases q with
  |false=>exact UM hc zq v7 h hK'
  |true=>
   simp only[zJ]at h;split at h
   ·rename_i av hx;exact z5g hc.mt ho zq (v7 base (jq _) (by omega)) hx h hK
   ·simp at h
 ·rename_i x ho
  cases q with
  |false=>exact UM hc zq v7 h hK'
  |true=>
   simp only[zJ]at h;split at h
   ·rename_i av hx;refine zdh (base:=base) ho zq hx h ?_;intro σ' g' a' w' h1 h2 h3 h4 h5 _;exact hK σ' g' a' w' h1 h2 h3 h4 h5 (λhh=>by simp[YE,BW,ho]at hh)
   ·simp at h
 ·rename_i x ho
  cases q with
  |false=>exact UM hc zq v7 h hK'
  |true=>
   simp only[zJ]at h;split at h
   ·rename_i av hx;refine z5j (base:=base) ho zq hx h ?_;intro σ' g' a' w' h1 h2 h3 h4 h5 _;exact hK σ' g' a' w' h1 h2 h3 h4 h5 (λhh=>by simp[YE,BW,ho]at hh)
   ·simp at h
 ·rename_i args ts ho
  cases hd:(q&&zie c o.dst) with
  |false=>rw[hd]at h;exact UM hc zq v7 h hK'
  |true=>
   rw[hd]at h;simp only[zJ]at h;split at h
   ·rename_i x y t t' hargs QH;split at h
    ·rename_i av bv ow u hx hy wi
     cases hb:Nat.beq t t' with
     |false=>rw[hb]at h;simp at h
     |true=>
      rw[hb]at h;have htq:=zE hb;subst htq;simp only[zJ]at h;refine Nl hc.tt ho hargs QH wi hx hy zq (v7 base (jq _) (by omega)) h ?_;intro σ' g' a' w' h1 h2 h3 h4 h5 _;exact hK σ' g' a' w' h1 h2 h3 h4 h5 (λhh=>by
       cases q<;>simp[YE,N0,ho]at hh)
    ·simp at h
   ·simp at h
 ·exact UM hc zq v7 h hK'
end
end Go.Kz
namespace Go.Kz
variable {R:Type}
section
variable {P:Program}{ops:Array Oper}{Q:Exit->Act->World->Prop}{q:Bool}
theorem O7{q:Bool}{o:Oper}(h:YE q o=false):YE false o=false:=by
 cases q with
 |false=>exact h
 |true=>
  simp only[YE,zJ,Wh]at h;exact h.1
def yZ(q:Bool)(P:Program)(ops:Array Oper)(Q:Exit->Act->World->Prop)(o:Oper)(K:Act->World->Prop)(a:Act)(w:World):Prop:=
 if Region.wanted o (yielded ops a.tmps)=true then
  (Mt o=true/\∃v,(∀w',Mi o w w'->(execOp a.eval o).run P w'=.ok (.value v) w')/\K (a.put o.dst v) w)\/
  (Mt o=false/\o.wp P a w (λa' w'=>(YE q o=false->vq w w')/\K a' w') Q)
 else K (a.put o.dst undef) w
def Jk(q:Bool)(P:Program)(ops:Array Oper)(Q:Exit->Act->World->Prop)(K:Act->World->Prop):List (Nat×Oper)->Act->World->Prop
 |[],a,w=>K a w
 |(_,o)::l,a,w=>yZ q P ops Q o (Jk q P ops Q K l) a w
theorem Aq{K:Act->World->Prop}:(l m:List (Nat×Oper))->Jk q P ops Q K (l++m)=Jk q P ops Q (Jk q P ops Q K m) l
 |[],m=>rfl
 |(i,o)::l,m=>by
  funext a w;simp only[Qm,Jk,Aq l m]
def Ed(l:List (Nat×Oper))(a a':Act):Prop:=∀i,(∀x∈l,x.2.dst≠some i)->a'.tmps[i]? = a.tmps[i]?
theorem Oper.z3o{o:Oper}{a:Act}{w:World}{K:Act->World->Prop}(h:o.wp P a w K Q):
  o.wp P a w (λa' w'=>(∀i,o.dst≠some i->a'.tmps[i]? = a.tmps[i]?)/\K a' w') Q:=by
 have JU:∀(b:Act)(v:Value),b.tmps=a.tmps->∀i,o.dst≠some i->(b.put o.dst v).tmps[i]? = a.tmps[i]? := by
  intro b v hb i hi;rw[VT,qP (λh=>hi h.1),hb]
 unfold Oper.wp at *;generalize (execOp a.eval o).run P w=x at *
 cases x with
 |ok n w'=>
  cases n<;>simp only[Oper.upon]at h⊢
  case value v=>exact⟨JU a v rfl,h⟩
  case skip=>exact⟨JU a _ rfl,h⟩
  case defer d=>exact⟨JU _ _ rfl,h⟩
  case enter f args=>
   refine Calls.mono h λe w'' he=>?_
   cases e with
   |returned v=>exact⟨JU a v rfl,he⟩
   |panicked c=>exact he
   |outgrown=>exact he
  case row row args=>exact Rows.mono h λv w'' he=>⟨JU a v rfl,he⟩
 |halt x w'=>cases x<;>simp only[Oper.upon]at h⊢ <;>exact h
theorem yZ.frame{o:Oper}{K:Act->World->Prop}{a:Act}{w:World}(h:yZ q P ops Q o K a w):
  yZ q P ops Q o (λa' w'=>((YE q o=false->vq w w')/\∀i,o.dst≠some i->a'.tmps[i]? = a.tmps[i]?)/\K a' w') a w:=by
 have JU:∀v,∀i,o.dst≠some i->(a.put o.dst v).tmps[i]? = a.tmps[i]? := by
  intro v i hi;rw[VT,qP (λh=>hi h.1)]
 unfold yZ at *;split
 ·rename_i hw;rw[qn hw]at h;rcases h with⟨hy,v,h1,h2⟩|⟨hy,h1⟩
  ·exact .inl ⟨hy,v,h1,⟨λ_=>vq.refl w,JU v⟩,h2⟩
  ·exact .inr ⟨hy,Oper.wp_mono (λa' w' hh=>⟨hh.2.1,⟨hh.2.1,hh.1⟩,hh.2.2⟩) (Oper.z3o h1)⟩
 ·rename_i hw;rw[qP hw]at h;exact⟨⟨λ_=>vq.refl w,JU _⟩,h⟩
theorem yZ.mono{o:Oper}{K K':Act->World->Prop}{a:Act}{w:World}(hk:∀a w,K a w->K' a w)(h:yZ q P ops Q o K a w):yZ q P ops Q o K' a w:=by
 unfold yZ at *;split
 ·rename_i hw;rw[qn hw]at h;rcases h with⟨hy,v,h1,h2⟩|⟨hy,h1⟩
  ·exact .inl ⟨hy,v,h1,hk _ _ h2⟩
  ·exact .inr ⟨hy,Oper.wp_mono (λa' w' hh=>⟨hh.1,hk _ _ hh.2⟩) h1⟩
 ·rename_i hw;rw[qP hw]at h;exact hk _ _ h
theorem vq.size{w w':World}(h:vq w w'):w.heap.size<=w'.heap.size:=by
 rcases Z4q w.heap.size with h0|h0
 ·omega
 ·have:=h (w.heap.size-1) (by omega);have h2:w.heap[w.heap.size-1]?≠none:=by simp;omega
  rw[<-this]at h2;simp at h2;omega
theorem vq.trans{w w' w'':World}(h:vq w w')(k:vq w' w''):vq w w'':=λb hb=>(k b (by have:=h.size;omega)).trans (h b hb)
theorem DV{K:Act->World->Prop}:(l:List (Nat×Oper))->noM l=true->(a:Act)->(w:World)->Jk false P ops Q K l a w->
  Jk false P ops Q (λa' w'=>(vq w w'/\Ed l a a')/\K a' w') l a w
 |[],_,a,w,h=>⟨⟨vq.refl w,λ_ _=>rfl⟩,h⟩
 |(i,o)::l,hm,a,w,h=>by
  simp only[noM,zA,PF]at hm;have h1:=yZ.frame (show yZ false P ops Q o (Jk false P ops Q K l) a w from h);refine yZ.mono (λa1 w1 hh=>?_) h1;obtain⟨⟨w8,Oj⟩,pO⟩:=hh;have h2:=DV l hm.2 a1 w1 pO;have mono:∀(l:List (Nat×Oper)) (K K':Act->World->Prop),(∀a w,K a w->K' a w)->∀a w,Jk false P ops Q K l a w->Jk false P ops Q K' l a w:=by
   intro l
   induction l with
   |nil=>exact λK K' hk a w h=>hk a w h
   |cons x l ih=>exact λK K' hk a w h=>yZ.mono (λa w h=>ih K K' hk a w h) h
  refine mono l _ _ (λa2 w2 hh=>?_) a1 w1 h2;obtain⟨⟨q2t,q0t⟩,hk⟩:=hh;refine⟨⟨(w8 hm.1).trans q2t,λj hj=>?_⟩,hk⟩;rw[q0t j (λx hx=>hj x (by simp[hx])),Oj j (hj (i,o) (by simp))]
theorem yZ.zx7{o:Oper}{K:Act->World->Prop}{a:Act}{w:World}(h:yZ false P ops Q o K a w):yZ q P ops Q o K a w:=by
 unfold yZ at *;split
 ·rename_i hw;rw[qn hw]at h;rcases h with h1|⟨hy,h1⟩
  ·exact .inl h1
  ·exact .inr ⟨hy,Oper.wp_mono (λa' w' hh=>⟨λhm=>hh.1 (O7 hm),hh.2⟩) h1⟩
 ·rename_i hw;rw[qP hw]at h;exact h
theorem I7{K:Act->World->Prop}:(l:List (Nat×Oper))->(a:Act)->(w:World)->Jk false P ops Q K l a w->Jk q P ops Q K l a w
 |[],a,w,h=>h
 |(_,_)::l,a,w,h=>yZ.zx7 (yZ.mono (λa w h=>I7 l a w h) h)
theorem DJ{K:Act->World->Prop}:(l:List (Nat×Oper))->(a:Act)->(w:World)->Jk q P ops Q K l a w->Jk q P ops Q (λa' w'=>Ed l a a'/\K a' w') l a w
 |[],a,w,h=>⟨λ_ _=>rfl,h⟩
 |(i,o)::l,a,w,h=>by
  refine yZ.mono (λa1 w1 hh=>?_) (yZ.frame (show yZ q P ops Q o (Jk q P ops Q K l) a w from h));obtain⟨⟨_,Oj⟩,pO⟩:=hh;have mono:∀(l:List (Nat×Oper)) (K K':Act->World->Prop),(∀a w,K a w->K' a w)->∀a w,Jk q P ops Q K l a w->Jk q P ops Q K' l a w:=by
   intro l
   induction l with
   |nil=>exact λK K' hk a w h=>hk a w h
   |cons x l ih=>exact λK K' hk a w h=>yZ.mono (λa w h=>ih K K' hk a w h) h
  refine mono l _ _ (λa2 w2 hh=>⟨λj hj=>?_,hh.2⟩) a1 w1 (DJ l a1 w1 pO);rw[hh.1 j (λx hx=>hj x (by simp[hx])),Oj j (hj (i,o) (by simp))]
theorem Az{K K':Act->World->Prop}(hk:∀a w,K a w->K' a w):(l:List (Nat×Oper))->(a:Act)->(w:World)->Jk q P ops Q K l a w->Jk q P ops Q K' l a w
 |[],a,w,h=>hk a w h
 |(_,_)::l,_,_,h=>yZ.mono (λa w h=>Az hk l a w h) h
end
theorem splitAt_eq{p:Oper->Bool}:{l acc:List (Nat×Oper)}->{Ue rest:List (Nat×Oper)}->{d:Option Nat}->splitAt p l acc=some (Ue,d,rest)->acc++l=Ue++rest
 |[],_,_,_,_,h=>by simp[splitAt]at h
 |(i,o)::l,acc,Ue,rest,d,h=>by
  simp only[splitAt]at h
  cases hp:p o with
  |true=>
   rw[hp]at h;simp only[zJ,zI,p8]at h;obtain⟨rfl,_,rfl⟩:=h
   simp
  |false=>
   rw[hp]at h;have:=splitAt_eq (l:=l) h;rw[<-this];simp
theorem pB:{l:List (Nat×Oper)}->{σ:St}->{i:Nat}->{av:z7}->(wN l σ).zy i=some av->σ.zy i=some av/\∀x∈l,x.2.dst≠some i
 |[],σ,i,av,h=>⟨h,by simp⟩
 |(j,o)::l,σ,i,av,h=>by
  simp only[wN]at h;obtain⟨h1,h2⟩:=pB (l:=l) h
  cases hd:o.dst with
  |none=>
   rw[hd]at h1
   exact⟨h1,λx hx=>(gJ.1 hx).elim (λe=>by subst e;simp[hd]) (λhx=>h2 x hx)⟩
  |some d=>
   rw[hd]at h1;simp only[St.gj,Y4]at h1
   cases hb:Nat.beq i d with
   |true=>rw[hb]at h1;simp at h1
   |false=>
    rw[hb]at h1;refine⟨h1,λx hx=>?_⟩;rcases gJ.1 hx with rfl|hx
    ·rw[hd];intro he;simp only[zI]at he;subst he;rw[R4]at hb;simp at hb
    ·exact h2 x hx
theorem WG:(l:List (Nat×Oper))->(σ:St)->(wN l σ).z6=σ.z6/\(wN l σ).next=σ.next
 |[],_=>⟨rfl,rfl⟩
 |(_,o)::l,σ=>by
  simp only[wN];obtain⟨h1,h2⟩:=WG l (σ.gj o.dst);cases hd:o.dst<;>rw[hd]at h1 h2<;>exact⟨h1,h2⟩
end Go.Kz
namespace Go.Kz
def zoe(g:z8)(σ:St)(base:Nat)(l:List (Nat×Oper)):Prop:=∀x∈l,∀m,base+8*x.1<=m->m<base+8*x.1+8->zu g σ m
def Out(base:Nat)(l:List (Nat×Oper))(m:Nat):Prop:=∀x∈l,m<base+8*x.1\/base+8*x.1+8<=m
theorem z1d{n:Nat}{g:z8}{w w':World}{a a':Act}{σ:St}(zq:zP n g w a σ)(w8:vq w w')(hd:a'.defers=[])(hs:a'.tmps.size=n)
  (zy:∀i av,σ.zy i=some av->a'.tmps[i]? = a.tmps[i]?):zP n g w' a' σ:=by
 have ht:=zq.heap.tags;have hr:zS w g w' g:=⟨λb hb=>⟨hb,w8 b (ht b (by rw[hb];simp))⟩⟩;have pj:∀id,Qr w g w' g id:=λid=>⟨⟨λ_=>rfl,λ_ b hb=>⟨hb,w8 b (ht b (by rw[hb];simp))⟩⟩,rfl,λhb=>⟨hb,w8 _ (ht _ (by rw[hb];simp))⟩⟩
 have hk:∀id,qu g g id (σ.z6 id) (σ.z6 id):=λid=>qu.refl g id _
 refine⟨λi av hi=>?_,⟨λid x hx=>?_,λb hb=>?_⟩,hs,hd,zq.known.kept hr⟩
 ·obtain⟨u,hu,zc⟩:=zq.zy i av hi;exact⟨u,by rw[zy i av hi];exact hu,qy.frame hr (λid _=>hk id) zc⟩
 ·exact qz.frame hr (pj id) (λ_ _ vT _=>hk vT) (zq.heap.z6 id x hx)
 ·have:=ht b hb;have:=w8.size;omega
theorem MV{σ:St}{d:Nat}{b:Bool}(h:CQ σ d=some b):σ.zy d=some (.data .bool b):=by
 unfold CQ at h;split at h
 ·rename_i x hx;simp only[zI]at h;subst h;exact hx
 ·simp at h
section
variable {P:Program}{ops:Array Oper}{Q:Exit->Act->World->Prop}{c:Ctx}{base:Nat}{dst:Nat->Option Nat}
theorem uH{o:Oper}{f:Nat->Option Bool}(h:o.guard=none):Region.wanted o f=true:=by simp[Region.wanted,h]
theorem Kn{o:Oper}{a:Act}{j t:Nat}{want b:Bool}(h:o.guard=some (j,want))(hd:(ops[j]?).bind (·.dst)=some t)(hv:a.tmps[t]? = some (.bool b)):
  Region.wanted o (yielded ops a.tmps)=(b == want):=by
 simp[Region.wanted,h,yielded,hd,hv]
theorem F4{n:Nat}{g:z8}{w:World}{a:Act}{σ:St}(zq:zP n g w a σ){t:Nat}{b:Bool}(h:σ.zy t=some (.data .bool b)):a.tmps[t]? = some (.bool b):=by
 obtain⟨v,hv,zc⟩:=zq.zy t _ h;rw[hv,ZW zc]
theorem AJ{n:Nat}{g:z8}{w:World}{a:Act}{σ:St}(zq:zP n g w a σ){t:Nat}{av:z7}(h:σ.zy t=some av):zP n g w a (σ.set t av):=by
 refine⟨λi x hi=>?_,zq.heap,zq.size,zq.defers,zq.known⟩;simp only[St.set,Y4]at hi
 cases hb:Nat.beq i t with
 |true=>
  rw[hb]at hi;simp only[zJ,zI]at hi;subst hi;have:=zE hb;subst this
  exact zq.zy _ _ h
 |false=>rw[hb]at hi;exact zq.zy i x hi
theorem U7{x:Nat}:{l:List Nat}->(qs x l=true↔x∈l)
 |[]=>by simp[qs]
 |y::l=>by
  simp only[qs,gJ]
  cases h:Nat.beq y x with
  |true=>simp[zE h]
  |false=>
   have va:x≠y:=by intro he;subst he;rw[R4]at h;simp at h
   simp[va,U7 (l:=l)]
def Und(a:Act)(uz:List Nat):Prop:=∀s∈uz,∀b,a.tmps[s]?≠some (.bool b)
theorem Ay{o:Oper}{a:Act}{j t:Nat}{want:Bool}(h:o.guard=some (j,want))(hd:(ops[j]?).bind (·.dst)=some t)(hv:∀b,a.tmps[t]?≠some (.bool b)):
  Region.wanted o (yielded ops a.tmps)=false:=by
 have hy:yielded ops a.tmps j=none:=by
  cases hx:a.tmps[t]? with
  |none=>simp[yielded,hd,hx]
  |some v=>
   cases v with
   |bool b=>exact absurd hx (hv b)
   |_=>simp[yielded,hd,hx]
 simp[Region.wanted,h,hy]
theorem Fg{d s:Nat}:{l:List Nat}->s∈rmN d l->s∈l/\s≠d
 |[],h=>by simp[rmN]at h
 |x::l,h=>by
  simp only[rmN]at h
  cases hb:Nat.beq x d with
  |true=>
   rw[hb]at h;have:=Fg (l:=l) h
   exact⟨by simp[this.1],this.2⟩
  |false=>
   rw[hb]at h;rcases gJ.1 h with rfl|h
   ·exact⟨by simp,λhe=>by subst he;rw[R4]at hb;simp at hb⟩
   ·have:=Fg (l:=l) h;exact⟨by simp[this.1],this.2⟩
theorem EA{d:Option Nat}{s:Nat}{l:List Nat}(h:s∈JQ d l):s∈l/\d≠some s:=by
 cases d with
 |none=>exact⟨h,by simp⟩
 |some d=>
  have:=Fg h;exact⟨this.1,by simp;exact λhe=>this.2 he.symm⟩
theorem Pw{s:Nat}:{l:List (Nat×Oper)}->{u:List Nat}->s∈Cq l u->s∈u/\∀x∈l,x.2.dst≠some s
 |[],u,h=>⟨h,by simp⟩
 |(i,o)::l,u,h=>by
  obtain⟨h1,h2⟩:=Pw (l:=l) h;obtain⟨h3,h4⟩:=EA h1;refine⟨h3,λx hx=>?_⟩;rcases gJ.1 hx with rfl|hx
  ·exact h4
  ·exact h2 x hx
theorem Und.vV{a a':Act}{u:List Nat}{d:Option Nat}(h:Und a u)(hs:∀i,d≠some i->a'.tmps[i]? = a.tmps[i]?):Und a' (JQ d u):=by
 intro s hm b;obtain⟨h1,h2⟩:=EA hm;rw[hs s h2];exact h s h1 b
theorem Und.skip{a:Act}{u:List Nat}{d:Option Nat}(h:Und a u):Und (a.put d undef) (Ha d u):=by
 intro s hm b;rw[VT];split
 ·intro he;cases he
 ·rename_i va
  cases d with
  |none=>exact h s hm b
  |some d=>
   rcases gJ.1 hm with rfl|hm
   ·have PE:a.tmps.size<=s:=by
     by_cases yP:s<a.tmps.size
     ·exact absurd ⟨rfl,yP⟩ va
     ·omega
    rw[Z3n PE];simp
   ·exact h s hm b
theorem YK(hc:xW P c)(vl:∀j,dst j=(ops[j]?).bind (·.dst)):(q:Bool)->(n:Nat)->{R:Type}->{opened uz:List Nat}->{l:List (Nat×Oper)}->{σ:St}->{g:z8}->{a:Act}->{w:World}->{k:St->Option R}->{r:R}->
  {K:Act->World->Prop}->Zo c base dst q n R opened uz l σ k=some r->zP c.ntmps g w a σ->Und a uz->(l.map Prod.fst).Nodup->zoe g σ base l->
  (∀σ' g' a' w',k σ'=some r->zP c.ntmps g' w' a' σ'->Ext w g w' g'->(∀m,Out base l m->zu g σ m->zu g' σ' m)->σ'.next=σ.next->K a' w')->
  Jk q P ops Q K l a w
 |_,0,_,_,_,_,_,_,_,_,_,_,_,h,_,_,_,_,_=>by simp[Zo]at h
 |q,n+1,R,opened,uz,[],σ,g,a,w,k,r,K,h,zq,_,_,_,hK=>by
  simp only[Zo]at h
  exact hK σ g a w h zq (Ext.refl _ _) (λm _ hf=>hf) rfl
 |q,n+1,R,opened,uz,(i,o)::l,σ,g,a,w,k,r,K,h,zq,Zt,hnd,v7,hK=>by
  simp only[Qw,Z2m]at hnd;have one:opM q c σ (base+8*i) o (λσ=>Zo c base dst q n R opened (JQ o.dst uz) l σ k)=some r->Region.wanted o (yielded ops a.tmps)=true->Jk q P ops Q K ((i,o)::l) a w:=by
   intro h hw;have z7o:∀σ1 g1 a1 w1,Zo c base dst q n R opened (JQ o.dst uz) l σ1 k=some r->zP c.ntmps g1 w1 a1 σ1->Ext w g w1 g1->
     (∀m,(m<base+8*i\/base+8*i+8<=m)->zu g σ m->zu g1 σ1 m)->σ1.next=σ.next->(∀s,o.dst≠some s->a1.tmps[s]? = a.tmps[s]?)->Jk q P ops Q K l a1 w1:=by
    intro σ1 g1 a1 w1 h1 yM yC QO WR Ug;refine YK hc vl q n h1 yM (Zt.vV Ug) hnd.2 (λx hx m h1 h2=>QO m ?_ (v7 x (by simp[hx]) m h1 h2)) (λσ2 g2 a2 w2 h2 wS wT Xg GX=>?_)
    ·have va:x.1≠i:=λhe=>hnd.1 (by rw[<-he];exact pe.2 ⟨x,hx,rfl⟩)
     omega
    ·exact hK σ2 g2 a2 w2 h2 wS (yC.trans wT) (λm hm hf=>Xg m (λx hx=>hm x (by simp[hx])) (QO m (hm (i,o) (by simp)) hf)) (GX.trans WR)
   show yZ q P ops Q o (Jk q P ops Q K l) a w;refine yZ.mono (λa1 w1 hh=>hh.2 hh.1.2) (yZ.frame (K:=λa1 w1=>(∀s,o.dst≠some s->a1.tmps[s]? = a.tmps[s]?)->Jk q P ops Q K l a1 w1) ?_);unfold yZ;rw[qn hw]
   cases hy:Mt o with
   |true=>
    left;obtain⟨av,v,h1,h2,h3,h4⟩:=(Af hc hy zq (by rw[<-zhk hy];exact h)).out;refine⟨rfl,v,h1,λUg=>?_⟩;rcases uw h4 with⟨hd,hk⟩|⟨d,hd,yP,hk⟩
    ·rw[hd]at Ug⊢;exact z7o σ g a w hk zq (Ext.refl _ _) (λ_ _ hm=>hm) rfl (by rw[hd];exact Ug)
    ·rw[hd]at Ug⊢;exact z7o _ g _ w hk (zq.put yP h2) (Ext.refl _ _) (λm _ hm=>hm.set d (h3 m hm)) rfl (by rw[hd];exact Ug)
   |false=>
    right;refine⟨rfl,z5p (base:=base+8*i) hc zq (λm h1 h2=>v7 (i,o) (by simp) m h1 h2) h ?_⟩;intro σ1 g1 a1 w1 h1 yM yC QO WR w8;exact⟨λh1=>w8 h1,λUg=>z7o σ1 g1 a1 w1 h1 yM yC QO WR Ug⟩
  have skip:Zo c base dst q n R opened (Ha o.dst uz) l (σ.gj o.dst) k=some r->Region.wanted o (yielded ops a.tmps)=false->Jk q P ops Q K ((i,o)::l) a w:=by
   intro h hw;show yZ q P ops Q o (Jk q P ops Q K l) a w;unfold yZ;rw[hw];simp only[Z2q,Z1w];refine YK hc vl q n h (zq.zki o.dst undef) Zt.skip hnd.2 (λx hx m h1 h2=>(v7 x (by simp[hx]) m h1 h2).gj o.dst) (λσ2 g2 a2 w2 h2 wS wT Xg GX=>?_);refine hK σ2 g2 a2 w2 h2 wS wT (λm hm hf=>Xg m (λx hx=>hm x (by simp[hx])) (hf.gj o.dst)) (GX.trans ?_);cases o.dst<;>rfl
  simp only[Zo]at h;split at h
  ·rename_i hg;exact one h (uH hg)
  ·rename_i j want hg;split at h
   ·simp at h
   ·rename_i t hdt;rw[vl]at hdt;split at h
    ·rename_i b hb;have hw:=Kn (o:=o) (a:=a) hg hdt (F4 zq hb)
     cases hm:qs j opened with
     |true=>
      rw[hm]at h;simp only[zJ]at h
      cases hbw:(b == want) with
      |true=>
       rw[hbw]at h hw
       exact one h hw
      |false=>
       rw[hbw]at h hw
       exact skip h hw
     |false=>
      rw[hm]at h;simp only[zU]at h;split at h
      ·rename_i Ue d rest hsp;have hl:=splitAt_eq hsp;rw[JD]at hl
       cases Sq:(q&&Ux c σ Ue) with
       |true=>
        rw[Sq]at h;simp only[zJ]at h;have h':Zo c base dst q n R (j::opened) uz ((i,o)::l) (σ.set t (.data .bool b)) k=some r:=by
         cases b<;>exact h
        exact YK hc vl q n h' (AJ zq hb) Zt (by simp only[Qw,Z2m];exact hnd) (λx hx m h1 h2=>(v7 x hx m h1 h2).set t (by simp[z7.ids])) (λσ2 g2 a2 w2 h2 wS wT Xg GX=>hK σ2 g2 a2 w2 h2 wS wT (λm hm hf=>Xg m hm (hf.set t (by simp[z7.ids]))) GX)
       |false=>
       rw[Sq]at h;simp only[zU]at h
       cases Ua:noM Ue with
       |false=>rw[Ua]at h;simp at h
       |true=>
        rw[Ua]at h;simp only[zJ,Zh]at h;obtain⟨v,hv,h⟩:=h;have je:Zo c base dst false n Bool (j::opened) uz Ue (σ.set t (.data .bool b)) (λσ=>CQ σ d)=some v:=by
         cases b<;>exact hv
        cases yP:Nat.blt d c.ntmps with
        |false=>rw[yP]at h;simp at h
        |true=>
         rw[yP]at h;simp only[zJ]at h;rw[hl,Aq];have zsj:(Ue.map Prod.fst).Nodup/\(rest.map Prod.fst).Nodup/\∀x∈Ue.map Prod.fst,x∉rest.map Prod.fst:=by
          have:(((i,o)::l).map Prod.fst).Nodup:=by simp only[Qw,Z2m];exact hnd
          rw[hl,XZ,Z49]at this;exact⟨this.1,this.2.1,λx hx hy=>this.2.2 x hx x hy rfl⟩
         have hmem:∀x,x∈Ue\/x∈rest->x∈(i,o)::l:=by
          intro x hx;rw[hl];exact PH.2 hx
         have Xk:=AJ zq hb;have q21:=YK (K:=λa' w'=>a'.tmps[d]? = some (.bool v)/\a'.defers=[]/\a'.tmps.size=c.ntmps/\w'.os=w.os/\w'.tape=w.tape/\w'.output=w.output/\w.drawn<=w'.drawn) hc vl false n je Xk Zt zsj.1
          (λx hx m h1 h2=>(v7 x (hmem x (.inl hx)) m h1 h2).set t (by simp[z7.ids]))
          (λσ' g' a' w' h' qG kM _ _=>⟨F4 qG (MV h'),qG.defers,qG.size,kM.os,kM.tape,kM.output,kM.drawn⟩)
         refine Az (λa1 w1 hh=>?_) Ue a w (I7 Ue a w (DV Ue Ua a w q21));obtain⟨⟨w8,Oj⟩,h1,h2,h3,h4,h5,h6,h7⟩:=hh;have xQ:=WG Ue σ;have q0r:zP c.ntmps g w a (wN Ue σ):=by
          refine⟨λi av hi=>?_,?_,zq.size,zq.defers,zq.known⟩
          ·rw[xQ.1];exact zq.zy i av (pB hi).1
          ·rw[xQ.1];exact zq.heap
         have yM:zP c.ntmps g w1 a1 (wN Ue σ):=z1d q0r w8 h2 h3 (λi av hi=>Oj i (pB hi).2);have wS:zP c.ntmps g w1 a1 ((wN Ue σ).set d (.data .bool v)):=by
          refine⟨λi x hi=>?_,yM.heap,yM.size,yM.defers,yM.known⟩;simp only[St.set,Y4]at hi
          cases hbq:Nat.beq i d with
          |true=>
           rw[hbq]at hi;simp only[zJ,zI]at hi;subst hi;have:=zE hbq;subst this
           exact⟨_,h1,wC v⟩
          |false=>rw[hbq]at hi;exact yM.zy i x hi
         have zta:∀m,zu g σ m->zu g ((wN Ue σ).set d (.data .bool v)) m:=by
          intro m hf;have:zu g (wN Ue σ) m:=⟨by rw[xQ.1];exact hf.z6,hf.row,hf.box,λi av hi=>hf.zy i av (pB hi).1,λid av hi=>hf.cells id av (by rw[<-xQ.1];exact hi)⟩;exact this.set d (by simp[z7.ids])
         have yC:Ext w g w1 g:=⟨h4,h5,h6,h7,w8.size,λb hb _=>⟨w8 b hb,rfl⟩⟩;refine YK hc vl q n h wS (λs hs b=>by
          obtain⟨q1,q2⟩:=Pw hs;rw[Oj s q2];exact Zt s q1 b) zsj.2.1 (λx hx m q1 q2=>zta m (v7 x (hmem x (.inr hx)) m q1 q2)) (λσ2 g2 a2 w2 q2 wS wT Xg GX=>?_)
         refine hK σ2 g2 a2 w2 q2 wS (yC.trans wT) (λm hm hf=>Xg m (λx hx=>hm x (hmem x (.inr hx))) (zta m hf)) (GX.trans xQ.2)
      ·simp at h
    ·cases hmu:qs t uz with
     |false=>rw[hmu]at h;simp at h
     |true=>
      rw[hmu]at h;simp only[zJ]at h;exact skip h (Ay hg hdt (Zt t (U7.1 hmu)))
    ·simp at h
end
end Go.Kz
namespace Go.Kz
variable {R:Type}
theorem xD{I:Type}:(l:List I)->(i:Nat)->(zV i l).map Prod.fst=List.range' i l.length
 |[],_=>rfl
 |x::l,i=>by simp only[zV,Qw,xD l,X4,List.range'_succ]
theorem YU{I:Type}:{l:List I}->{i:Nat}->{x:Nat×I}->x∈zV i l->i<=x.1/\l[x.1-i]? = some x.2
 |[],_,_,h=>by simp[zV]at h
 |y::l,i,x,h=>by
  simp only[zV,gJ]at h;rcases h with rfl|h
  ·simp
  ·obtain⟨h1,h2⟩:=YU h;refine⟨by omega,?_⟩;have e:x.1-i=(x.1-(i+1))+1:=by omega
   rw[e];simpa using h2
theorem Jt{I:Type}(l:List I)(i:Nat):((zV i l).map Prod.fst).Nodup:=by
 rw[xD];exact List.nodup_range'
theorem L6{I:Type}:(l:List I)->(i:Nat)->zT l i=l[i]?
 |[],i=>by cases i<;>rfl
 |x::l,0=>rfl
 |x::l,i+1=>by simp only[zT,L6 l i];simp
section
variable {P:Program}{ops:Array Oper}{Q:Exit->Act->World->Prop}{q:Bool}
theorem Pv(j:Nat):gu ops.toList j=(ops[j]?).bind (·.dst):=by
 simp only[gu,L6,Z2i]
theorem PG{o:Oper}{a:Act}{w:World}{v:Value}{K:Act->World->Prop}(h:(execOp a.eval o).run P w=.ok (.value v) w)(hk:K (a.put o.dst v) w):o.wp P a w K Q:=by
 unfold Oper.wp;rw[h,Oper.upon_value];exact hk
theorem Rw:(L:List (Nat×Oper))->(∀x∈L,ops[x.1]? = some x.2)->(a:Act)->(w:World)->Jk q P ops Q (Q .normal) L a w->wpOps P ops Q (L.map Prod.fst) a w
 |[],_,a,w,h=>h
 |(i,o)::L,hL,a,w,h=>by
  have ih:=Rw L (λx hx=>hL x (by simp[hx]));have ho:ops[i]? = some o:=hL (i,o) (by simp);simp only[Qw,wpOps,ho];have h':yZ q P ops Q o (Jk q P ops Q (Q .normal) L) a w:=h;unfold yZ at h';split
  ·rename_i hw;rw[qn hw]at h';left;rcases h' with⟨_,v,h1,h2⟩|⟨_,h1⟩
   ·exact PG (h1 w (Mi.refl _ w)) (ih _ _ h2)
   ·exact Oper.wp_mono (λa' w' hh=>ih _ _ hh.2) h1
  ·rename_i hw;rw[qP hw]at h';exact ih _ _ h'
theorem ju(x:Nat×Oper)(h:x∈zV 0 ops.toList):ops[x.1]? = some x.2:=by
 have:=(YU h).2;rw[<-Z2i];simpa using this
theorem uR{x:Nat×Oper}(h:x∈zV 0 ops.toList):x.1<ops.toList.length:=by
 have:=(YU h).2;rw[Nat.sub_zero]at this;exact(Z3u.1 this).1
theorem zcn{id:Nat}{a:Act}{w:World}(h:Jk q P ops Q (Q .normal) (zV 0 ops.toList) a w):(Code.region id ops false).wp P Q a w:=by
 refine wp_region ?_;have:=Rw _ ju a w h;rw[xD,<-List.range_eq_range']at this;simpa using this
end
section
variable {P:Program}{ops:Array Oper}{c:Ctx}
theorem Rl{q:Bool}{fuel:Nat}{L:List (Nat×Oper)}(hc:xW P c){Q:Exit->Act->World->Prop}{σ:St}{g:z8}{a:Act}{w:World}{k:St->Option R}{r:R}{K:Act->World->Prop}
  (hL:∀x∈L,x.1<ops.toList.length) (hnd:(L.map Prod.fst).Nodup)
  (h:Zo c σ.next (gu ops.toList) q fuel R [] [] L σ (λσ'=>k { σ' with next:=σ.next+8*ops.toList.length })=some r) (zq:zP c.ntmps g w a σ) (hf:qC g σ)
  (hK:∀σ' g' a' w',k σ'=some r->zP c.ntmps g' w' a' σ'->Ext w g w' g'->qC g' σ'->K a' w'):Jk q P ops Q K L a w:=by
 refine YK hc Pv q fuel h zq (by intro s hs;simp at hs) hnd (λx _ m h1 _=>hf m (by omega)) (λσ' g' a' w' hk qG qm KY hn=>?_);refine hK _ g' a' w' hk ⟨qG.zy,qG.heap,qG.size,qG.defers,qG.known⟩ qm (λm hm=>?_);have Ub:σ.next+8*ops.toList.length<=m:=hm;have:=KY m (λx hx=>.inr (by have:=hL x hx;omega)) (hf m (by omega));exact⟨this.z6,this.row,this.box,this.zy,this.cells⟩
end
end Go.Kz
