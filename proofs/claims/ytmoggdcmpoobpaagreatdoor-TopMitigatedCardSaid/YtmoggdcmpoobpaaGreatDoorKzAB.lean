/-
  All operations together.
-/
import Derived.Test.YtmoggdcmpoobpaaGreatDoorKzXE
import Derived.Test.YtmoggdcmpoobpaaGreatDoorKzUA
set_option linter.unusedVariables false
set_option linter.unusedSimpArgs false
namespace Go.Kz
variable {R:Type}
structure xP (P:Program) (c:Ctx):Prop where
 tt:p6 P c.tt
 mt:C9 P c.mt
 eqs:Rk P c.eqs
 env:BA P c.env
section
variable {P:Program}{o:Oper}{a:Act}{w:World}{K:Act->World->Prop}{Q:Exit->Act->World->Prop}{c:Ctx}{J:St}{g:z8}{k:St->Option R}{r:R}{base:Nat}{mo:Bool}
theorem Xe(hc:xP P c)(hy:M7 o=true)(zj:zU c.ntmps g w a J)(h:Tw c J base o k=some r):wk P o a w g J c k r:=by
 simp only[M7,zA,U0]at hy;obtain⟨hj,hy⟩:=hy;simp only[Tw,hj,zP]at h
 cases ho:o.op with
 |move x=>exact NG (.inl ho) zj h
 |assign x=>exact NG (.inr ho) zj h
 |pick t x y=>exact zab ho zj h
 |binOp op t x y t'=>exact S7 hc.tt hc.eqs ho zj h
 |unOp op t x=>exact zaa ho zj h
 |convert t t' x=>exact Ld hc.tt ho zj h
 |indexAddr t x i=>exact z1h hc.tt ho zj h
 |fieldAddr t x i=>exact z1i hc.tt ho zj h
 |nilCheck x=>exact Hv ho zj h
 |load t x=>exact zaf hc.tt ho zj h
 |extract x i=>exact Lc ho zj h
 |lookup t x i ok=>exact S4 hc.mt ho zj h
 |slice t x lo hi mx=>cases mx with
  |none=>exact z1f hc.tt ho zj h
  |some mx=>simp[Gf,ho]at hy
 |build t ps=>exact z1m hc.tt ho zj h
 |index t x i=>exact S5 hc.tt ho zj h
 |field t x i=>simp[yE,ho]at h
 |makeInterface t x=>simp[yE,ho]at h
 |typeAssert x xt t ok=>simp[yE,ho]at h
 |makeFunc f first cap=>
  cases f with
  |func f=>exact Hk ho zj h
  |_=>simp[yE,ho]at h
 |call cl=>
  obtain⟨callee,args,ts⟩:=cl
  cases callee with
  |builtin b=>
   cases b with
   |len=>exact zhe ho hc.tt hc.mt zj h
   |max=>exact zhd ho zj h
   |min=>exact zhc ho zj h
   |_=>simp[Gf,ho]at hy
  |_=>simp[Gf,ho]at hy
 |_=>simp[Gf,ho]at hy
theorem zag(hj:Ak o=true)(zj:zU c.ntmps g w a J)(h:k (J.kD o.dst)=some r)(hK:vY c.ntmps k r g w J base (NS o) K):o.wp P a w K Q:=by
 have ho:∃v,o.op=.assign (.const v):=by
  unfold Ak at hj;split at hj
  ·exact⟨_,by assumption⟩
  ·exact⟨_,by assumption⟩
  ·exact⟨_,by assumption⟩
  ·simp at hj
 obtain⟨v,ho⟩:=ho;unfold Oper.wp;have ze:(execOp a.eval o).run P w=.ok (.value (a.eval (.const v))) w:=by simp[execOp,ho]
 rw[ze,Oper.upon_value];refine hK _ g _ w h (zj.zh9 o.dst _) (Ext.refl _ _) (λm _ hm=>hm.kD o.dst) ?_ (λ_=>vp.refl w);cases o.dst<;>rfl
theorem CM(hc:xP P c)(zj:zU c.ntmps g w a J)(vO:∀m,base<=m->m<base+8->zJ g J m)(h:Tw c J base o k=some r)(hK:vY c.ntmps k r g w J base (NS o) K):o.wp P a w K Q:=by
 have hf:zJ g J base:=vO base (yH _) (by omega)
 cases hj:Ak o with
 |true=>
  simp only[Tw,hj,zB]at h
  exact zag hj zj h hK
 |false=>
 cases hy:M7 o with
 |true=>exact(Xe hc hy zj h).wp zj hK
 |false=>
  simp only[Tw,hj,zP]at h;simp only[M7,hj,Z40,Z2w]at hy
  cases ho:o.op with
  |alloc t=>exact z1o hc.tt ho zj hf h hK
  |box t x=>exact zhf ho zj hf h hK
  |makeSlice t x y=>exact E4 hc.tt ho zj hf h hK
  |buildSlice t n ps=>exact Bf hc.tt ho zj hf (λow u Qc hu hb h=>zad hc.tt ho zj hf Qc hu hb h hK) h hK
  |slice t x lo hi mx=>cases mx with
   |none=>simp[Gf,ho]at hy
   |some mx=>exact S3 hc.tt ho zj h hK
  |store t x y=>exact z1e hc.tt ho zj h (by simpa[NS,ho]using hK)
  |mapUpdate t x i y=>exact E3 hc.mt ho zj h (by simpa[NS,ho]using hK)
  |mapEntry t x i=>exact Hw hc.mt ho zj h (by simpa[NS,ho]using hK)
  |entryStore t x i y=>exact Be hc.mt ho zj h (by simpa[NS,ho]using hK)
  |makeMap t rs=>cases rs with
   |none=>exact Lb ho zj hf h hK
   |some _=>simp[yE,ho]at h
  |call cl=>
   obtain⟨callee,args,ts⟩:=cl
   cases callee with
   |builtin b=>
    cases b with
    |append=>exact S8 hc.tt ho zj hf (λx y t u ow av bv ha ht Qc hx hy h=>Le hc.tt ho zj ha ht Qc hx hy h (by simpa[NS,ho]using hK)) h (by simpa[NS,ho]using hK)
    |clear=>simp[yE,ho]at h
    |copy=>exact zah hc.tt ho zj h (by simpa[NS,ho]using hK)
    |_=>first|(simp[Gf,ho]at hy;done)|(simp[yE,ho]at h;done)
   |value x=>
    simp only[yE,ho]at h;split at h
    ·rename_i gv av hx ha;exact zai hc.env ho rfl zj vO hx ha h hK
    ·simp at h
   |invoke x m=>simp[yE,ho]at h
  |_=>first|(simp[Gf,ho]at hy;done)|(simp[yE,ho]at h;done)
end
end Go.Kz
namespace Go.Kz
variable {R:Type}
theorem je{x:Nat}:{l:List Nat}->(j8 x l=true↔x∈l)
 |[]=>by simp[j8]
 |y::l=>by
  simp only[j8,pF]
  cases h:Nat.beq y x with
  |true=>simp[zE h]
  |false=>
   have vg:x≠y:=by intro he;subst he;rw[Mt]at h;simp at h
   simp[vg,je (l:=l)]
theorem jR{x:Nat}{l:List Nat}:j8 x l=false↔x∉l:=by
 rw[<-je];simp
def qF(g:z8)(J:St):Prop:=∀m,J.next<=m->zJ g J m
theorem PZ{x:Nat}:{l:List Nat}->{k j:Nat}->qC x l k=some j->∃d,j=k+d/\zR l d=some x
 |[],_,_,h=>by simp[qC]at h
 |y::l,k,j,h=>by
  simp only[qC]at h
  cases hb:Nat.beq y x with
  |true=>
   rw[hb]at h;simp only[zB,zI]at h
   exact⟨0,by omega,by simp[zR,zE hb]⟩
  |false=>
   rw[hb]at h;obtain⟨d,hd,hn⟩:=PZ (l:=l) h;exact⟨d+1,by omega,hn⟩
theorem wZ{x j:Nat}{l:List Nat}(h:qC x l 0=some j):zR l j=some x:=by
 obtain⟨d,hd,hn⟩:=PZ h;rw[hd,QK];exact hn
theorem Qq{x:Nat}:{l:List Nat}->{k d:Nat}->l.Nodup->zR l d=some x->qC x l k=some (k+d)
 |[],_,d,_,h=>by cases d<;>simp[zR]at h
 |y::l,k,0,_,h=>by
  simp only[zR,zI]at h;subst h
  simp[qC,Mt]
 |y::l,k,d+1,hn,h=>by
  simp only[Z2e]at hn;have hm:x∈l:=jo h;have vg:Nat.beq y x=false:=by
   cases hb:Nat.beq y x with
   |true=>rw[zE hb]at hn;exact absurd hm hn.1
   |false=>rfl
  simp only[qC,vg,zP];rw[Qq (l:=l) hn.2 h];congr 1;omega
theorem uT{I:Type}:{l:List I}->{i:Nat}->i<l.length->∃x,zR l i=some x
 |[],_,h=>by simp at h
 |x::_,0,_=>⟨x,rfl⟩
 |_::l,i+1,h=>uT (l:=l) (by simpa using h)
theorem uF{z6:Nat->Option Obj}:(n:Nat)->(todo seen:List Nat)->seen.Nodup->(kO z6 n todo seen).Nodup
 |0,_,_,h=>h
 |_+1,[],_,h=>h
 |n+1,x::todo,seen,h=>by
  simp only[kO]
  cases hm:j8 x seen with
  |true=>exact uF n _ _ h
  |false=>
   have hx:(seen++[x]).Nodup:=by
    rw[Z4g];refine⟨h,by simp,λa ha b hb=>?_⟩;simp only[II]at hb;subst hb;intro he;subst he;exact jR.1 hm ha
   simp only[zP];split<;>exact uF n _ _ hx
def kg(g:z8)(ids:List Nat):z8 where
 tag:=λb=>match g.tag b with
  |.row i p=>(match qC i ids 0 with
   |some j=>.row j p
   |none=>.zt)
  |.box i=>(match qC i ids 0 with
   |some j=>.box j
   |none=>.zt)
  |t=>t
 sv:=λj p=>match zR ids j with
  |some i=>g.sv i p
  |none=>undef
 qp:=λj=>match zR ids j with
  |some i=>g.qp i
  |none=>0
section
variable {w:World}{g:z8}{ids:List Nat}
theorem xN:zT w g w (kg g ids):=⟨λb hb=>⟨by simp[kg,hb],rfl⟩⟩
theorem z18:Ext w g w (kg g ids):=by
 refine⟨rfl,rfl,rfl,yH _,yH _,λb _ ht=>⟨rfl,?_⟩⟩;rcases ht with ht|ht<;>simp[kg,ht]
theorem JX{i j:Nat}(h:zR ids j=some i)(p:Path):(kg g ids).sv j p=g.sv i p:=by simp[kg,h]
theorem kj{i j:Nat}(h:zR ids j=some i):(kg g ids).qp j=g.qp i:=by simp[kg,h]
theorem XC(hn:ids.Nodup){i j:Nat}(h:zR ids j=some i):xG w g w (kg g ids) i [] j []:=by
 have hx:=Qq (k:=0) hn h;rw[QK]at hx;exact⟨λq=>JX h _,λq b hb=>⟨by simp[kg,hb,hx],rfl⟩⟩
theorem XD(hn:ids.Nodup){i j:Nat}(h:zR ids j=some i){b:Nat}(hb:g.tag b=.box i):(kg g ids).tag b=.box j:=by
 have hx:=Qq (k:=0) hn h;rw[QK]at hx;simp[kg,hb,hx]
theorem Dm{b m:Nat}(h:(∃p,(kg g ids).tag b=.row m p)\/(kg g ids).tag b=.box m):m<ids.length:=by
 have key:∀i j,qC i ids 0=some j->j<ids.length:=λi j h=>wa (wZ h)
 simp only[kg]at h
 cases ht:g.tag b with
 |zt=>rw[ht]at h;simp at h
 |ro=>rw[ht]at h;simp at h
 |row i p=>
  rw[ht]at h
  cases hx:qC i ids 0 with
  |none=>simp[hx]at h
  |some j=>simp[hx]at h;rw[<-h];exact key i j hx
 |box i=>
  rw[ht]at h
  cases hx:qC i ids 0 with
  |none=>simp[hx]at h
  |some j=>simp[hx]at h;rw[<-h];exact key i j hx
theorem LN{b:Nat}(h:(kg g ids).tag b≠.zt):g.tag b≠.zt:=by
 intro h';simp[kg,h']at h
structure Jo (z6:qZ) (ids:List Nat) (os:List Obj):Prop where
 len:os.length=ids.length
 get:∀j i,zR ids j=some i->∃o o',z6 i=some o/\o.w3 z6 (λi=>qC i ids 0)=some o'/\zR os j=some o'
theorem Q3{Y:Nat->Option Nat}{z6:qZ}:{l:List Nat}->{os:List Obj}->JU Y z6 l=some os->
  os.length=l.length/\∀j i,zR l j=some i->∃o o',z6 i=some o/\o.w3 z6 Y=some o'/\zR os j=some o'
 |[],os,h=>by
  simp only[JU,zI]at h;subst h
  exact⟨rfl,λj i h=>by simp[zR]at h⟩
 |x::l,os,h=>by
  simp only[JU]at h;split at h
  ·rename_i o os' ho Tg;simp only[zI]at h;subst h;obtain⟨h1,h2⟩:=Q3 Tg;refine⟨by simp[h1],λj i hj=>?_⟩
   cases j with
   |zero=>
    simp only[zR,zI]at hj;subst hj;simp only[WZ]at ho;obtain⟨o0,h3,h4⟩:=ho
    exact⟨o0,o,h3,h4,rfl⟩
   |succ j=>exact h2 j i hj
  ·simp at h
theorem XB{z6:qZ}{Y:Nat->Option Nat}:{a a':z7}->a.w3 z6 Y=some a'->a'.sk=a.sk
 |.data t d,a',h=>by simp only[z7.w3,zI]at h;subst h;rfl
 |.zi,a',h=>by simp only[z7.w3,zI]at h;subst h;rfl
 |.ref i p ep,a',h=>by
  simp only[z7.w3]at h;split at h
  ·rename_i t l e zp
   cases hb:Nat.beq e ep with
   |false=>rw[hb]at h;simp at h
   |true=>rw[hb]at h;simp only[zB,wO]at h;obtain⟨j,hj,rfl⟩:=h;rfl
  ·simp at h
 |.view i p ep x y,a',h=>by
  simp only[z7.w3]at h;split at h
  ·rename_i t l e zp
   cases hb:Nat.beq e ep with
   |false=>rw[hb]at h;simp at h
   |true=>rw[hb]at h;simp only[zB,wO]at h;obtain⟨j,hj,rfl⟩:=h;rfl
  ·simp at h
 |.zq i p,a',h=>by simp only[z7.w3,wO]at h;obtain⟨j,hj,rfl⟩:=h;rfl
 |.qV i,a',h=>by simp only[z7.w3,wO]at h;obtain⟨j,hj,rfl⟩:=h;rfl
 |.nv pt i p ep,a',h=>by
  simp only[z7.w3]at h;split at h
  ·rename_i t l e i' zp
   cases hb:Nat.beq (HG false p e i') ep with
   |false=>rw[hb]at h;simp at h
   |true=>rw[hb]at h;simp only[zB,wO]at h;obtain⟨j,hj,rfl⟩:=h;rfl
  ·simp at h
 |.qP f c,a',h=>by simp only[z7.w3,wO]at h;obtain⟨j,hj,rfl⟩:=h;rfl
 | .V6 f c,a',h=>by simp only[z7.w3,wO]at h;obtain⟨j,hj,rfl⟩:=h;rfl
 |.agg c,a',h=>by
  simp only[z7.w3,wO]at h;obtain⟨c',hc,rfl⟩:=h
  simp only[z7.sk,XB hc]
 |.pr a b,a',h=>by
  simp only[z7.w3]at h;split at h
  ·rename_i x y hx hy;simp only[zI]at h;subst h;simp only[z7.sk,XB hx,XB hy]
  ·simp at h
 |.un,a',h=>by simp only[z7.w3,zI]at h;subst h;rfl
 |.va _ _ _,a',h=>by simp[z7.w3]at h
 |.jS _,a',h=>by simp[z7.w3]at h
theorem PA{z6:qZ}{Y:Nat->Option Nat}{a:z7}(h:a.we=false):xm z6 Y a=a.w3 z6 Y:=by
 cases a<;>first|rfl|simp[z7.we]at h
theorem MO{z6:qZ}{Y:Nat->Option Nat}{a a':z7}(h:xm z6 Y a=some a'):a'.sk=a.sk:=by
 cases ht:a.we with
 |false=>rw[PA ht]at h;exact XB h
 |true=>
  cases a<;>simp[z7.we]at ht;simp only[xm,wO]at h;obtain⟨c,hc,rfl⟩:=h;simp only[z7.sk,XB hc]
theorem F8{z6:qZ}{Y:Nat->Option Nat}{Gk:Nat}{n:Int}{left:List Int}{cur:Int}{a':z7}(h:xm z6 Y (uJ Gk n left cur)=some a'):∃j,Y Gk=some j/\a'=uJ j n left cur:=by
 simp only[uJ,xm,z7.w3,wO]at h;obtain⟨c,hc,rfl⟩:=h
 cases hm:Y Gk with
 |none=>rw[hm]at hc;simp at hc
 |some j=>
  rw[hm]at hc;simp only[Z2h,zI]at hc;exact⟨j,rfl,by rw[<-hc];rfl⟩
theorem YY{z6:qZ}{os:List Obj}(hn:ids.Nodup)(ho:Jo z6 ids os):{a a':z7}->{cs:List Value}->a.w3 z6 (λi=>qC i ids 0)=some a'->jM w g z6 a cs->
  jM w (kg g ids) (zR os) a' cs/\a'.sk=a.sk/\a'.isAgg=a.isAgg/\(∀m∈a'.ids,m<ids.length)/\(∀c,a≠.jS c)/\(∀x y,a'=.pr x y->∃x' y',a=.pr x' y')/\(a'=.un->a=.un)
 |.data t d,a',cs,h,za=>by
  simp only[z7.w3,zI]at h;subst h
  exact⟨⟨za.1,za.2.kept xN⟩,rfl,rfl,by simp[z7.ids],by simp,by simp,by simp⟩
 |.zi,a',cs,h,za=>by
  simp only[z7.w3,zI]at h;subst h
  exact⟨za,rfl,rfl,by simp[z7.ids],by simp,by simp,by simp⟩
 |.ref i p ep,a',cs,h,za=>by
  simp only[z7.w3]at h;split at h
  ·rename_i t l e zp
   cases hb:Nat.beq e ep with
   |false=>rw[hb]at h;simp at h
   |true=>
    rw[hb]at h;have he:=zE hb;subst he;simp only[zB,wO]at h;obtain⟨j,hj,rfl⟩:=h;have VQ:=wZ hj;obtain⟨v,hv,qc,hx⟩:=za;refine⟨⟨v,hv,qc,λt' l' e' SF=>?_⟩,rfl,rfl,by simpa[z7.ids]using wa VQ,by simp,by simp,by simp⟩;obtain⟨o,o',h1,h2,h3⟩:=ho.get j i VQ;rw[zp]at h1;simp only[zI]at h1;subst h1;simp only[Obj.w3,zI]at h2;subst h2;rw[h3]at SF;simp only[zI,Obj.row.injEq]at SF;obtain⟨_,_,rfl⟩:=SF;exact⟨yH _,λ_=>by rw[JX VQ];exact(hx _ _ _ zp).2 rfl⟩
  ·simp at h
 |.view i p ep x y,a',cs,h,za=>by
  simp only[z7.w3]at h;split at h
  ·rename_i t l e zp
   cases hb:Nat.beq e ep with
   |false=>rw[hb]at h;simp at h
   |true=>
    rw[hb]at h;have he:=zE hb;subst he;simp only[zB,wO]at h;obtain⟨j,hj,rfl⟩:=h;have VQ:=wZ hj;obtain⟨v,hv,qc,hx⟩:=za;refine⟨⟨v,hv,qc,λt' l' e' SF=>?_⟩,rfl,rfl,by simpa[z7.ids]using wa VQ,by simp,by simp,by simp⟩;obtain⟨o,o',h1,h2,h3⟩:=ho.get j i VQ;rw[zp]at h1;simp only[zI]at h1;subst h1;simp only[Obj.w3,zI]at h2;subst h2;rw[h3]at SF;simp only[zI,Obj.row.injEq]at SF;obtain⟨rfl,hl,rfl⟩:=SF;have hl:=Z34 hl;subst hl;exact⟨yH _,λ_=>by rw[JX VQ];exact(hx _ _ _ zp).2 rfl⟩
  ·simp at h
 |.zq i p,a',cs,h,za=>by
  simp only[z7.w3,wO]at h;obtain⟨j,hj,rfl⟩:=h;have VQ:=wZ hj;obtain⟨v,hv,qc,hx⟩:=za;refine⟨⟨v,hv,qc,λy hy=>?_⟩,rfl,rfl,by simpa[z7.ids]using wa VQ,by simp,by simp,by simp⟩;obtain⟨o,o',h1,h2,h3⟩:=ho.get j i VQ;rw[h3]at hy;simp only[zI]at hy;subst hy
  cases o with
  |row t l e=>simp[Obj.w3]at h2
  |map k v m=>simp[Obj.w3]at h2
  |nest t l e i h=>cases h<;>simp[Obj.w3]at h2
  |cell z=>
   simp only[Obj.w3,wO,Obj.cell.injEq]at h2;obtain⟨z',hz,rfl⟩:=h2;obtain⟨off,s,jO,gi⟩:=hx _ h1
   exact⟨off,s,by rw[MO hz];exact jO,by rw[kj VQ];exact gi⟩
 |.qV i,a',cs,h,za=>by
  simp only[z7.w3,wO]at h;obtain⟨j,hj,rfl⟩:=h;have VQ:=wZ hj;obtain⟨v,hv,qc,hx⟩:=za;refine⟨⟨v,hv,qc,λkt vt m hm=>?_⟩,rfl,rfl,by simpa[z7.ids]using wa VQ,by simp,by simp,by simp⟩;obtain⟨o,o',h1,h2,h3⟩:=ho.get j i VQ;rw[h3]at hm;simp only[zI]at hm;subst hm
  cases o with
  |row t l e=>simp[Obj.w3]at h2
  |cell z=>simp[Obj.w3]at h2
  |nest t l e i h=>cases h<;>simp[Obj.w3]at h2
  |map k' v' m'=>
   rw[kj VQ];exact hx _ _ _ h1
 |.nv pt i p ep,a',cs,h,za=>by
  simp only[z7.w3]at h;split at h
  ·rename_i t l e i' zp
   cases hb:Nat.beq (HG false p e i') ep with
   |false=>rw[hb]at h;simp at h
   |true=>
    rw[hb]at h;have he:=zE hb;simp only[zB,wO]at h;obtain⟨j,hj,rfl⟩:=h;have VQ:=wZ hj;obtain⟨v,hv,qc,hx⟩:=za;refine⟨⟨v,hv,qc,λt' l' e' i'' h'' SF=>?_⟩,rfl,rfl,by simpa[z7.ids]using wa VQ,by simp,by simp,by simp⟩;obtain⟨o,o',h1,h2,h3⟩:=ho.get j i VQ;rw[zp]at h1;simp only[zI]at h1;subst h1;simp only[Obj.w3,zI]at h2;subst h2;rw[h3]at SF;simp only[zI,Obj.nest.injEq]at SF;obtain⟨_,_,rfl,rfl,_⟩:=SF;refine⟨jF _,λ_=>⟨λ_=>by rw[JX VQ];exact((hx _ _ _ _ _ zp).2 he).1 rfl,λh=>(by simp at h)⟩⟩
  ·simp at h
 |.qP f c,a',cs,h,za=>by
  simp only[z7.w3,wO]at h;obtain⟨c',hc,rfl⟩:=h;obtain⟨vs,hv,hx⟩:=za;obtain⟨h1,h2,_,h3,_⟩:=YY hn ho hc hx
  exact⟨⟨vs,hv,h1⟩,rfl,rfl,h3,by simp,by simp,by simp⟩
 | .V6 t c,a',cs,h,za=>by
  simp only[z7.w3,wO]at h;obtain⟨c',hc,rfl⟩:=h;obtain⟨x,Du,hv,hx,hxv⟩:=za;obtain⟨h1,h2,wx,h3,_⟩:=YY hn ho hc hx
  exact⟨⟨x,Du,hv,h1,by rw[wx];exact hxv⟩,rfl,rfl,h3,by simp,by simp,by simp⟩
 |.agg c,a',cs,h,za=>by
  simp only[z7.w3,wO]at h;obtain⟨c',hc,rfl⟩:=h;obtain⟨h1,h2,_,h3,_⟩:=YY hn ho hc (show jM w g z6 c cs from za)
  exact⟨h1,h2,rfl,h3,by simp,by simp,by simp⟩
 |.pr a b,a',cs,h,za=>by
  simp only[z7.w3]at h;split at h
  ·rename_i x y hx hy;simp only[zI]at h;subst h;obtain⟨c1,c2,pe,ok1,ok2⟩:=za;obtain⟨h1,h2,_,h3,_⟩:=YY hn ho hx ok1;obtain⟨k1,k2,_,k3,_⟩:=YY hn ho hy ok2;refine⟨⟨c1,c2,pe,h1,k1⟩,by simp[z7.sk,h2,k2],rfl,λm hm=>?_,by simp,λ_ _ _=>⟨a,b,rfl⟩,by simp⟩;simp only[z7.ids,Gx]at hm;rcases hm with hm|hm
   ·exact h3 m hm
   ·exact k3 m hm
  ·simp at h
 |.un,a',cs,h,za=>by
  simp only[z7.w3,zI]at h;subst h
  exact⟨za,rfl,rfl,by simp[z7.ids],by simp,by simp,by simp⟩
 |.va _ _ _,a',cs,h,_=>by simp[z7.w3]at h
 |.jS _,a',cs,h,_=>by simp[z7.w3]at h
theorem NQ{z6:qZ}{os:List Obj}(hn:ids.Nodup)(ho:Jo z6 ids os){a a':z7}{v:Value}(h:a.w3 z6 (λi=>qC i ids 0)=some a')(hv:zm w g z6 a v):
  zm w (kg g ids) (zR os) a' v/\∀m∈a'.ids,m<ids.length:=by
 have ht:∀c,a≠.jS c:=by intro c hc;subst hc;simp[z7.w3]at h
 obtain⟨cs,za,Qs⟩:=kB hv ht;obtain⟨h1,h2,h3,h4,h5,h6,h7⟩:=YY hn ho h za;refine⟨jz h1 (by rw[h3];exact Qs) (λx y he=>?_) (λhe=>?_),h4⟩
 ·obtain⟨x',y',rfl⟩:=h6 x y he;simp only[zm]at hv
 ·have:=h7 he;subst this;simp only[zm]at hv
theorem NY{z6:qZ}{os:List Obj}(hn:ids.Nodup)(ho:Jo z6 ids os){i j:Nat}(hj:zR ids j=some i){o o':Obj}(h:o.w3 z6 (λi=>qC i ids 0)=some o')(za:zn w g z6 i o):
  zn w (kg g ids) (zR os) j o'/\∀y,o'=.cell y->∀m∈y.ids,m<ids.length:=by
 cases o with
 |row t l e=>
  simp only[Obj.w3,zI]at h;subst h;refine⟨⟨za.1,?_⟩,by simp⟩;rw[JX hj]
  exact zN.move xN (o:=some (i,[])) (o':=some (j,[])) (XC hn hj) za.2
 |cell y=>
  simp only[Obj.w3,wO]at h;obtain⟨y',hy,rfl⟩:=h
  cases Qc:y.we with
  |true=>
   cases p9:y.wh with
   |true=>
    obtain⟨x,rfl⟩:=Ag p9;obtain⟨c,e,h1,h2,h3⟩:=(zn.Zj p9).1 za;simp only[xm,wO]at hy;obtain⟨x',hx,rfl⟩:=hy;obtain⟨k1,_,_,k2,_⟩:=YY hn ho hx h3;have Ho:(z7.jS x').wh=true:=by
     cases x<;>simp[z7.wh]at p9
     ·simp only[z7.w3,wO]at hx;obtain⟨x2,hx,rfl⟩:=hx;rfl
     ·simp only[z7.w3,wO]at hx;obtain⟨x2,hx,rfl⟩:=hx;rfl
    refine⟨(zn.Zj Ho).2 ⟨c,e,by rw[kj hj];exact h1,?_,k1⟩,λz hz=>?_⟩
    ·rw[kj hj];exact(xN (w:=w).qp _ h2).1
    ·simp only[Obj.cell.injEq]at hz
     subst hz;exact k2
   |false=>
   obtain⟨Gk,n,bm,seen,last,rfl,h1,h2,h3,h4⟩:=(zn.iter Qc p9).1 za;obtain⟨j',Zy,rfl⟩:=F8 hy;have VQ:=wZ Zy;refine⟨(zn.iter rfl).2 ⟨j',n,bm,seen,last,rfl,by rw[kj hj];exact h1,by rw[kj hj];exact XD hn hj h2,h3,λkt vt m hm=>?_⟩,λz hz=>?_⟩
   ·obtain⟨o,o',k1,k2,k3⟩:=ho.get j' Gk VQ;rw[k3]at hm;simp only[zI]at hm;subst hm
    cases o with
    |row t l e=>simp[Obj.w3]at k2
    |cell z=>simp[Obj.w3]at k2
    |nest t l e i h=>cases h<;>simp[Obj.w3]at k2
    |map k' v' m'=>rw[kj VQ];exact h4 _ _ _ k1
   ·simp only[Obj.cell.injEq]at hz;subst hz
    simpa[uJ,z7.ids]using wa VQ
  |false=>
  rw[PA Qc]at hy;obtain⟨c,e,h1,h2,h3⟩:=za.out Qc;obtain⟨k1,_,_,k2,_⟩:=YY hn ho hy h3;refine⟨zn.mk ⟨c,e,by rw[kj hj];exact h1,by rw[kj hj];exact XD hn hj h2,k1⟩,λz hz=>?_⟩;simp only[Obj.cell.injEq]at hz
  subst hz;exact k2
 |map kt vt m=>
  simp only[Obj.w3,zI]at h;subst h;obtain⟨es,ck,h1,h2,h3,h4,h5,h6⟩:=za
  exact⟨⟨es,ck,by rw[kj hj];exact h1,by rw[kj hj];exact XD hn hj h2,h3,h4,h5.kept xN,h6⟩,by simp⟩
 |nest t l e i' hole=>
  cases hole with
  |some p=>simp[Obj.w3]at h
  |none=>
   simp only[Obj.w3,zI]at h;subst h;refine⟨?_,by simp⟩;show zN w (kg g ids) (some (j,[])) (.sl true t) l [(kg g ids).sv j []];rw[JX hj];exact zN.move xN (o:=some (i,[])) (o':=some (j,[])) (XC hn hj) (show zN w g (some (i,[])) (.sl true t) l [g.sv i []] from za)
end
theorem Vv{z6:qZ}{Y:Nat->Option Nat}:{l l':List (Nat×z7)}->YJ z6 Y l=some l'->∀i a',yO l' i=some a'->∃a,yO l i=some a/\a.w3 z6 Y=some a'
 |[],l',h,i,a',hi=>by
  simp only[YJ,zI]at h;subst h
  simp[yO]at hi
 |(j,a)::l,l',h,i,a',hi=>by
  simp only[YJ]at h;split at h
  ·rename_i a1 l1 h1 h2;simp only[zI]at h;subst h;simp only[yO]at hi⊢
   cases hb:Nat.beq j i with
   |true=>
    rw[hb]at hi;simp only[zB,zI]at hi;subst hi
    exact⟨a,by simp,h1⟩
   |false=>
    rw[hb]at hi;simp only[zP]at hi⊢;exact Vv h2 i a' hi
  ·simp at h
theorem YC{J:St}:{live:List Nat}->{l:List (Nat×z7)}->ZA J live=some l->∀i a,yO l i=some a->J.zk i=some a
 |[],l,h,i,a,hi=>by
  simp only[ZA,zI]at h;subst h
  simp[yO]at hi
 |j::live,l,h,i,a,hi=>by
  simp only[ZA]at h;split at h
  ·rename_i a1 l1 h1 h2;simp only[zI]at h;subst h;simp only[yO]at hi
   cases hb:Nat.beq j i with
   |true=>
    rw[hb]at hi;simp only[zB,zI]at hi;subst hi
    rw[<-zE hb];exact h1
   |false=>
    rw[hb]at hi;exact YC h2 i a hi
  ·simp at h
section
variable {n:Nat}{w:World}{a:Act}{g:z8}{J:St}{r:R}
theorem z16{k:List (Nat×z7)->List Obj->Option R}{l:List (Nat×z7)}(hl:∀i a,yO l i=some a->J.zk i=some a)(zj:zU n g w a J)(h:LM l J k=some r):
  ∃sl os g',k sl os=some r/\zU n g' w a (St.of sl os)/\Ext w g w g'/\qF g' (St.of sl os):=by
 unfold LM at h;simp only at h;split at h
 ·rename_i l' os hs Tg;have hnd:(kO J.z6 100 (l.flatMap λx=>x.2.ids) []).Nodup:=uF _ _ _ (by simp);generalize gI:kO J.z6 100 (l.flatMap λx=>x.2.ids) []=ids at *;obtain⟨hlen,wG⟩:=Q3 Tg;have qY:Jo J.z6 ids os:=⟨hlen,wG⟩;have zf8:∀i av,yO l' i=some av->∃v,a.tmps[i]? = some v/\zm w (kg g ids) (zR os) av v/\∀m∈av.ids,m<ids.length:=by
   intro i av hi;obtain⟨a0,h1,h2⟩:=Vv hs i av hi;obtain⟨v,hv,za⟩:=zj.zk i a0 (hl i a0 h1);obtain⟨k1,k2⟩:=NQ hnd qY h2 za;exact⟨v,hv,k1,k2⟩
  have zp:∀j o',zR os j=some o'->zn w (kg g ids) (zR os) j o'/\∀y,o'=.cell y->∀m∈y.ids,m<ids.length:=by
   intro j o' hj;obtain⟨i,hi⟩:=uT (l:=ids) (i:=j) (by rw[<-hlen];exact wa hj);obtain⟨o,o2,h1,h2,h3⟩:=wG j i hi;rw[hj]at h3;simp only[zI]at h3;subst h3;exact NY hnd qY hi h2 (zj.heap.z6 i o h1)
  refine⟨l',os,kg g ids,h,⟨λi av hi=>?_,⟨λj o' hj=>(zp j o' hj).1,λb hb=>zj.heap.tags b (LN hb)⟩,zj.size,zj.defers,zj.known.kept xN⟩,z18,λm hm=>?_⟩
  ·obtain⟨v,h1,h2,_⟩:=zf8 i av hi;exact⟨v,h1,h2⟩
  ·have Gp:ids.length<=m:=by rw[<-hlen];exact hm
   refine⟨?_,λb p hb=>?_,λb hb=>?_,λi av hi hmem=>?_,λj y hj hmem=>?_⟩
   ·cases hc:zR os m with
    |none=>exact hc
    |some o=>have:=wa hc;omega
   ·have:=Dm (.inl ⟨p,hb⟩);omega
   ·have:=Dm (.inr hb);omega
   ·obtain⟨v,_,_,h3⟩:=zf8 i av hi;have:=h3 m hmem;omega
   ·have:=(zp j _ hj).2 y rfl m hmem;omega
 ·simp at h
end
theorem z0k{a b:Step}(h:z0l a b=true):a=b:=by
 cases a<;>cases b<;>simp[z0l]at h<;>rfl
theorem H9:{p q:Path}->CL p q=true->p=q
 |[],[],_=>rfl
 |a::p,b::q,h=>by
  simp only[CL,zA]at h
  rw[z0k h.1,H9 h.2]
 |[],_::_,h=>by simp[CL]at h
 |_::_,[],h=>by simp[CL]at h
theorem j9{b:Bool}{x:Option R}{r:R}(h:cond b x none=some r):b=true/\x=some r:=by
 cases b<;>simp_all
theorem zH.w8:(p:zH)->{a:z7}->{k:p.den->Option R}->{r:R}->p.take a k=some r->∃d,a=p.mk d/\k d=some r
 |.val t,a,k,r,h=>by
  cases a with
  |data u d=>
   simp only[zH.take]at h;replace h:=yY h;obtain⟨rfl,h⟩:=h
   exact⟨d,rfl,h⟩
  |_=>simp[zH.take]at h
 |.zi,a,k,r,h=>by
  cases a with
  |zi=>exact⟨(),rfl,h⟩
  |_=>simp[zH.take]at h
 |.ref id,a,k,r,h=>by
  cases a with
  |ref vF p ep=>
   cases p with
   |nil=>
    simp only[zH.take]at h;replace h:=j9 h;obtain⟨hb,h⟩:=h;simp only[zA,Q7]at hb;obtain⟨rfl,rfl⟩:=hb
    exact⟨(),rfl,h⟩
   |cons s q=>simp[zH.take]at h
  |_=>simp[zH.take]at h
 |.view id,a,k,r,h=>by
  cases a with
  |view vF p ep x y=>
   cases p with
   |nil=>
    simp only[zH.take]at h;replace h:=j9 h;obtain⟨hb,h⟩:=h;simp only[zA,Q7]at hb;obtain⟨rfl,rfl⟩:=hb
    exact⟨(x,y),rfl,h⟩
   |cons s q=>simp[zH.take]at h
  |_=>simp[zH.take]at h
 |.zq id p,a,k,r,h=>by
  cases a with
  |zq vF p'=>
   simp only[zH.take]at h;replace h:=j9 h;obtain⟨hb,h⟩:=h;simp only[zA,Q7]at hb;obtain⟨rfl,hb⟩:=hb;obtain rfl:=H9 hb
   exact⟨(),rfl,h⟩
  |_=>simp[zH.take]at h
 |.qV id,a,k,r,h=>by
  cases a with
  |qV vF=>
   simp only[zH.take]at h;replace h:=j9 h;obtain⟨hb,h⟩:=h;simp only[Q7]at hb;subst hb
   exact⟨(),rfl,h⟩
  |_=>simp[zH.take]at h
 |.nv id,a,k,r,h=>by
  cases a with
  |nv pt vF p ep=>
   cases pt with
   |true=>simp[zH.take]at h
   |false=>
    cases p with
    |nil=>
     simp only[zH.take]at h;replace h:=j9 h;obtain⟨hb,h⟩:=h;simp only[zA,Q7]at hb;obtain⟨rfl,rfl⟩:=hb
     exact⟨(),rfl,h⟩
    |cons s q=>simp[zH.take]at h
  |_=>simp[zH.take]at h
 |.nvi id,a,k,r,h=>by
  cases a with
  |nv pt vF p ep=>
   cases pt with
   |true=>simp[zH.take]at h
   |false=>
    cases p with
    |nil=>simp[zH.take]at h
    |cons s q=>
     cases q with
     |cons s' q'=>cases s<;>simp[zH.take]at h
     |nil=>
      cases s with
      |fst=>simp[zH.take]at h
      |snd=>simp[zH.take]at h
      |idx i=>
       simp only[zH.take]at h;replace h:=j9 h;obtain⟨hb,h⟩:=h;simp only[zA,Q7]at hb;obtain⟨rfl,rfl⟩:=hb
       exact⟨i,rfl,h⟩
  |_=>simp[zH.take]at h
 |.qP f c,a,k,r,h=>by
  cases a with
  |qP g d=>
   simp only[zH.take]at h;replace h:=j9 h;obtain⟨hb,h⟩:=h;simp only[Q7]at hb;subst hb;replace h:=zH.w8 c h;obtain⟨d',rfl,h⟩:=h
   exact⟨d',rfl,h⟩
  |_=>simp[zH.take]at h
 | .V6 f c,a,k,r,h=>by
  cases a with
  |V6 g d=>
   simp only[zH.take]at h;replace h:=j9 h;obtain⟨hb,h⟩:=h;simp only[Q7]at hb;subst hb;replace h:=zH.w8 c h;obtain⟨d',rfl,h⟩:=h
   exact⟨d',rfl,h⟩
  |_=>simp[zH.take]at h
 |.agg c,a,k,r,h=>by
  cases a with
  |agg d=>
   simp only[zH.take]at h;replace h:=zH.w8 c h;obtain⟨d',rfl,h⟩:=h
   exact⟨d',rfl,h⟩
  |_=>simp[zH.take]at h
 |.pr p q,a,k,r,h=>by
  cases a with
  |pr x y=>
   simp only[zH.take]at h;replace h:=zH.w8 p h;obtain⟨d,rfl,h⟩:=h;replace h:=zH.w8 q h;obtain⟨e,rfl,h⟩:=h
   exact⟨(d,e),rfl,h⟩
  |_=>simp[zH.take]at h
 |.un,a,k,r,h=>by
  cases a with
  |un=>exact⟨(),rfl,h⟩
  |_=>simp[zH.take]at h
theorem j3.w8(o:j3){x:Obj}{k:o.den->Option R}{r:R}(h:o.take x k=some r):∃d,x=o.mk d/\k d=some r:=by
 cases o with
 |row t=>
  cases x with
  |row u l ep=>
   simp only[j3.take]at h;replace h:=j9 h;obtain⟨hb,h⟩:=h;simp only[Q7]at hb;subst hb;replace h:=yY h;obtain⟨he,h⟩:=h;simp only[Ty.sl.injEq,Ur]at he;subst he
   exact⟨l,rfl,h⟩
  |_=>simp[j3.take]at h
 |cell p=>
  cases x with
  |cell a=>
   simp only[j3.take]at h;replace h:=zH.w8 p h;obtain⟨d,rfl,h⟩:=h
   exact⟨d,rfl,h⟩
  |_=>simp[j3.take]at h
 |map kt vt=>
  cases x with
  |map Ay X6 m=>
   simp only[j3.take,zfw]at h;split at h
   ·rename_i h1 h2 _ _;obtain rfl:=h1.down;obtain rfl:=h2.down;exact⟨m,rfl,h⟩
   ·simp at h
  |_=>simp[j3.take]at h
 |nest t=>
  cases x with
  |nest u l e i hole=>
   cases hole with
   |some p=>simp[j3.take]at h
   |none=>
    simp only[j3.take]at h;replace h:=j9 h;obtain⟨hb,h⟩:=h;simp only[zA,Q7]at hb;obtain⟨rfl,rfl⟩:=hb;replace h:=yY h;obtain⟨he,h⟩:=h;simp only[Ty.sl.injEq,Ur]at he;subst he
    exact⟨l,rfl,h⟩
  |_=>simp[j3.take]at h
 |iter id=>
  cases x with
  |cell a=>
   simp only[j3.take]at h;split at h
   ·rename_i hq _ _;cases hq
   ·rename_i hq _ _;cases hq
   ·rename_i hq _ _;cases hq
   ·rename_i hq _ _;cases hq
   ·rename_i id1 id2 n left cur k1 hq1 SG;cases hq1;cases SG;replace h:=j9 h;obtain⟨hb,h⟩:=h;simp only[Q7]at hb;subst hb;exact⟨(n,left,cur),rfl,h⟩
   ·rename_i hq _ _;cases hq
   ·simp at h
  |_=>simp[j3.take]at h
 |Zj p=>
  cases x with
  |cell a=>
   simp only[j3.take]at h;split at h
   ·rename_i hq _ _;cases hq
   ·rename_i hq _ _;cases hq
   ·rename_i hq _ _;cases hq
   ·rename_i hq _ _;cases hq
   ·rename_i hq _ _;cases hq
   ·rename_i p1 a1 k1 hq0 hq1 SG;cases hq0;cases hq1;cases SG;replace h:=zH.w8 p h;obtain⟨d,rfl,h⟩:=h;exact⟨d,rfl,h⟩
   ·simp at h
  |_=>simp[j3.take]at h
theorem Y6:(l:List (Nat×zH))->{m:List (Nat×z7)}->{k:Zp l->Option R}->{r:R}->GG l m k=some r->∃d,m=vR l d/\k d=some r
 |[],[],k,r,h=>⟨(),rfl,h⟩
 |[],_::_,k,r,h=>by simp[GG]at h
 |_::_,[],k,r,h=>by simp[GG]at h
 |(i,p)::l,(j,a)::m,k,r,h=>by
  simp only[GG]at h;replace h:=j9 h;obtain⟨hb,h⟩:=h;simp only[Q7]at hb;subst hb;replace h:=zH.w8 p h;obtain⟨d,rfl,h⟩:=h;replace h:=Y6 l h;obtain⟨e,rfl,h⟩:=h;exact⟨(d,e),rfl,h⟩
theorem xO:(l:List j3)->{m:List Obj}->{k:Vk l->Option R}->{r:R}->VD l m k=some r->∃d,m=wC l d/\k d=some r
 |[],[],k,r,h=>⟨(),rfl,h⟩
 |[],_::_,k,r,h=>by simp[VD]at h
 |_::_,[],k,r,h=>by simp[VD]at h
 |o::l,x::m,k,r,h=>by
  simp only[VD]at h;replace h:=j3.w8 o h;obtain⟨d,rfl,h⟩:=h;replace h:=xO l h;obtain⟨e,rfl,h⟩:=h;exact⟨(d,e),rfl,h⟩
end Go.Kz
namespace Go.Kz
variable {R:Type}
def jZ(x:Bool)(g:z8)(ids:List Nat):z8:={ kg g ids with
 tag:=λb=>match g.tag b with
  |.row i p=>(match qC i ids 0 with
   |some j=>.row j p
   |none=>if x then .ro else .zt)
  |.box i=>(match qC i ids 0 with
   |some j=>.box j
   |none=>if x then .ro else .zt)
  |t=>t }
section
variable {w:World}{g:z8}{ids:List Nat}{x:Bool}
theorem Wn{b:Nat}(h:(kg g ids).tag b≠.zt):(jZ x g ids).tag b=(kg g ids).tag b:=by
 simp only[kg,jZ]at h⊢
 cases ht:g.tag b with
 |zt=>rfl
 |ro=>rfl
 |row i p=>
  rw[ht]at h
  cases hx:qC i ids 0 with
  |none=>simp[hx]at h
  |some j=>simp[hx]
 |box i=>
  rw[ht]at h
  cases hx:qC i ids 0 with
  |none=>simp[hx]at h
  |some j=>simp[hx]
theorem Wm:zT w (kg g ids) w (jZ x g ids):=⟨λb hb=>⟨by rw[Wn (by rw[hb];simp)];exact hb,rfl⟩⟩
theorem A6(id:Nat):xC w (kg g ids) w (jZ x g ids) id:=by
 refine⟨⟨λ_=>rfl,λq b hb=>⟨by rw[Wn (by rw[hb];simp)];exact hb,rfl⟩⟩,rfl,λhb=>⟨by rw[Wn (by rw[hb];simp)];exact hb,rfl⟩⟩
theorem A7(id:Nat)(o:Option Obj):qq (kg g ids) (jZ x g ids) id o o:=qq.same (w:=default) (w':=default) (A6 id)
theorem ZB{b:Nat}(h:g.tag b=.zt\/g.tag b=.ro):(jZ x g ids).tag b=g.tag b:=by
 rcases h with h|h<;>simp[jZ,h]
theorem HB{b:Nat}(h:(jZ x g ids).tag b≠.zt):g.tag b≠.zt:=by
 intro h';simp[jZ,h']at h
theorem HA{b m:Nat}(h:(∃p,(jZ x g ids).tag b=.row m p)\/(jZ x g ids).tag b=.box m):m<ids.length:=by
 refine Dm (g:=g) (b:=b) ?_;by_cases hr:(kg g ids).tag b=.zt
 ·exfalso;simp only[kg,jZ]at h hr
  cases ht:g.tag b with
  |zt=>rw[ht]at h;simp at h
  |ro=>rw[ht]at hr;simp at hr
  |row i p=>
   rw[ht]at h hr
   cases hx:qC i ids 0 with
   |none=>cases x<;>simp[hx]at h
   |some j=>simp[hx]at hr
  |box i=>
   rw[ht]at h hr
   cases hx:qC i ids 0 with
   |none=>cases x<;>simp[hx]at h
   |some j=>simp[hx]at hr
 ·rw[Wn hr]at h;exact h
theorem uc{b i:Nat}(h:(∃p,g.tag b=.row i p)\/g.tag b=.box i)(hi:i∉ids):(jZ x g ids).tag b=if x then .ro else .zt:=by
 have hx:qC i ids 0=none:=by
  cases h':qC i ids 0 with
  |none=>rfl
  |some j=>exact absurd (jo (wZ h')) hi
 rcases h with⟨p,h⟩|h<;>simp[jZ,h,hx]
theorem z1q{t:Ty}{d:t.den}{cs:List Value}(h:zN w (CA { g with tag:=λb=>match g.tag b with
  |.row i p=>if i∈ids then .zt else .row i p
  |.box i=>if i∈ids then .zt else .box i
  |t=>t }) none t d cs):zN w (jZ true g ids) none t d cs:=by
 refine h.kept ⟨λb hb=>⟨?_,rfl⟩⟩;simp only[CA]at hb
 cases ht:g.tag b with
 |zt=>simp[ht]at hb
 |ro=>simp[jZ,ht]
 |row i p=>
  by_cases hi:i∈ids
  ·simp[ht,hi]at hb
  ·rw[uc (.inl ⟨p,ht⟩) hi];rfl
 |box i=>
  by_cases hi:i∈ids
  ·simp[ht,hi]at hb
  ·rw[uc (.inr ht) hi];rfl
end
section
variable {w:World}{g:z8}{J:St}
def VJ(g:z8)(ids:List Nat):z8:={ g with tag:=λb=>match g.tag b with
 |.row i p=>if i∈ids then .zt else .row i p
 |.box i=>if i∈ids then .zt else .box i
 |t=>t }
theorem I0{ids:List Nat}:zT w g w (VJ g ids):=⟨λb hb=>⟨by simp[VJ,hb],rfl⟩⟩
theorem AP{ids:List Nat}{id:Nat}(hi:id∉ids):xC w g w (VJ g ids) id:=
 ⟨⟨λ_=>rfl,λq b hb=>⟨by simp at hb;simp[VJ,hb,hi],rfl⟩⟩,rfl,λhb=>⟨by simp[VJ,hb,hi],rfl⟩⟩
theorem CN{ids:List Nat}(id:Nat):(J.only λi=>!j8 i ids).z6 id=if id∈ids then none else J.z6 id:=by
 simp only[St.only]
 cases h:j8 id ids with
 |true=>rw[yX (je.1 h)];rfl
 |false=>rw[qW (jR.1 h)];rfl
theorem CO{ids:List Nat}(id:Nat):qq g (VJ g ids) id (J.z6 id) ((J.only λi=>!j8 i ids).z6 id):=by
 rw[CN];by_cases h:id∈ids
 ·rw[yX h];exact .inl rfl
 ·rw[qW h];exact qq.same (w:=default) (w':=default) (AP h)
theorem Sz{ids:List Nat}(hh:yC w g J.z6):yC w (VJ g ids) (J.only λi=>!j8 i ids).z6:=by
 refine⟨λid o ho=>?_,λb hb=>hh.tags b λh=>hb (by simp[VJ,h])⟩;rw[CN]at ho;by_cases h:id∈ids
 ·rw[yX h]at ho;simp at ho
 ·rw[qW h]at ho;exact zn.frame I0 (AP h) (λ_ _ vF _=>CO vF) (hh.z6 id o ho)
variable {ids:List Nat}{os:List Obj}{x:Bool}
theorem Xs(hn:ids.Nodup)(ho:Jo J.z6 ids os)(hh:yC w g J.z6):(l:List (Nat×zH))->{all:z7}->{vs:List Value}->{i0:Nat}->{k:Zp l->Option R}->{r:R}->
  Aj l i0=true->vV all=true->(x=true\/Q8 l all=true)->qx w g J.z6 all vs->
  pA (J.only λi=>!j8 i ids) J.z6 (λi=>qC i ids 0) l all k=some r->
  ∃d,k d=some r/\(∀i av,yO (vR l d) i=some av->i0<=i/\∃v,vs[i-i0]? = some v/\zm w (jZ x g ids) (zR os) av v/\∀m∈av.ids,m<ids.length)/\
   (∀n a p,jB all n=some a->zR l n=some p->p.2.isVal=false->∃a',a.w3 J.z6 (λi=>qC i ids 0)=some a')/\vs.length=l.length
 |[],all,vs,i0,k,r,_,hv,_,Gg,h=>by
  cases all with
  |un=>
   simp only[qx]at Gg;subst Gg
   exact⟨(),h,λi av hi=>by simp[vR,yO]at hi,λn a p hn=>by cases n<;>simp[jB]at hn,rfl⟩
  |_=>simp[pA]at h
 |(i1,p)::l,all,vs,i0,k,r,hk,hv,hx,Gg,h=>by
  cases all with
  |pr a c=>
   simp only[Aj,zA,Q7]at hk;obtain⟨rfl,hk⟩:=hk;simp only[vV,zA]at hv;simp only[qx]at Gg;obtain⟨v,rest,rfl,SY,ud⟩:=Gg;have fin:∀(d:p.den),(pA (J.only λi=>!j8 i ids) J.z6 (λi=>qC i ids 0) l c λe=>k (d,e))=some r->zm w (jZ x g ids) (zR os) (p.mk d) v->(∀m∈(p.mk d).ids,m<ids.length)->
     (p.isVal=false->∃a',a.w3 J.z6 (λi=>qC i ids 0)=some a')->(x=true\/Q8 l c=true)->
     ∃d,k d=some r/\(∀i av,yO (vR ((i1,p)::l) d) i=some av->i1<=i/\∃u,(v::rest)[i-i1]? = some u/\zm w (jZ x g ids) (zR os) av u/\∀m∈av.ids,m<ids.length)/\
      (∀n b q,jB (.pr a c) n=some b->zR ((i1,p)::l) n=some q->q.2.isVal=false->∃a',b.w3 J.z6 (λi=>qC i ids 0)=some a')/\(v::rest).length=((i1,p)::l).length:=by
    intro d h hvd gI Ex hx;obtain⟨e,hke,h1,h2,h3⟩:=Xs hn ho hh l hk hv.2 hx ud h;refine⟨(d,e),hke,λi av hi=>?_,λn b q hb hq SG=>?_,by simp[h3]⟩
    ·simp only[vR,yO]at hi
     cases hb:Nat.beq i1 i with
     |true=>
      rw[hb]at hi;simp only[zB,zI]at hi;subst hi;have:=zE hb;subst this
      exact⟨yH _,v,by simp,hvd,gI⟩
     |false=>
      rw[hb]at hi;obtain⟨q1,u,q2,q3,q4⟩:=h1 i av hi;refine⟨by omega,u,?_,q3,q4⟩;have e:i-i1=(i-(i1+1))+1:=by omega
      rw[e];simpa using q2
    ·cases n with
     |zero=>
      simp only[jB,zI]at hb;simp only[zR,zI]at hq;subst hb;subst hq
      exact Ex SG
     |succ n=>exact h2 n b q hb hq SG
   cases p with
   |val t=>
    simp only[pA]at h;obtain⟨wx,Qr,PY,EJ⟩:=wI hv.1;obtain⟨cs,za,Qs⟩:=kB SY EJ;have K4:jM w (VJ g ids) (J.only λi=>!j8 i ids).z6 a cs:=jM.frame I0 (λid _=>CO id) za;have hh':=Sz (ids:=ids) hh;have hd:∃d,(pA (J.only λi=>!j8 i ids) J.z6 (λi=>qC i ids 0) l c λe=>k (d,e))=some r/\t.zG=true/\zN w (jZ x g ids) none t d cs:=by
     rcases hx with rfl|hx
     ·obtain⟨d,h1,h2,h3⟩:=gE hh' 20 K4 h;exact⟨d,h1,h2,z1q h3⟩
     ·simp only[Q8,zA,zH.isVal,Gu,Bool.false_or]at hx;obtain⟨d,h1,h2,h3⟩:=uh 20 hx.1 K4 h;refine⟨d,h1,h2,h3.kept ⟨λb hb=>⟨?_,rfl⟩⟩⟩;have:g.tag b=.ro:=by
       simp only[VJ]at hb;cases ht:g.tag b<;>rw[ht]at hb<;>simp at hb<;>first|rfl|(split at hb<;>simp at hb)
      rw[ZB (.inr this),this]
    obtain⟨d,h1,h2,h3⟩:=hd;refine fin d h1 ?_ (by simp[zH.mk,z7.ids]) (by simp[zH.isVal]) (hx.imp _root_.id λhx=>by simp only[Q8,zA]at hx;exact hx.2);simp only[zH.mk,zm]
    exact⟨cs,⟨h2,h3⟩,by rw[Qs,QV hh' hv.1 h];rfl⟩
   |_=>
    simp only[pA]at h;split at h
    ·rename_i a' ha';obtain⟨d,he,h⟩:=zH.w8 _ h;obtain⟨h1,h2⟩:=NQ hn ho ha' SY;refine fin d h ?_ (by rw[<-he];exact h2) (λ_=>⟨a',ha'⟩) (hx.imp _root_.id λhx=>by simp only[Q8,zA]at hx;exact hx.2);rw[<-he];exact zm.frame Wm (λid _=>A7 id _) h1
    ·simp at h
  |_=>simp[pA]at h
end
end Go.Kz
namespace Go.Kz
variable {R:Type}
def QE(M:List Nat):Tag->Tag
 |.row j p=>(match zR M j with
  |some id=>.row id p
  |none=>.zt)
 |.box j=>(match zR M j with
  |some id=>.box id
  |none=>.zt)
 |t=>t
def kW(g gc:z8)(ids M:List Nat)(size:Nat)(vE:Nat->Bool):z8 where
 tag:=λb=>if b<size then (match g.tag b with
   |.row i p=>if i∈ids then QE M (gc.tag b) else .row i p
   |.box i=>if i∈ids then QE M (gc.tag b) else .box i
   |t=>t) else QE M (gc.tag b)
 sv:=λi p=>match qC i M 0 with
  |some j=>if vE i then g.sv i p else gc.sv j p
  |none=>g.sv i p
 qp:=λi=>match qC i M 0 with
  |some j=>gc.qp j
  |none=>g.qp i
section
variable {w w':World}{g gc:z8}{ids M:List Nat}{x:Bool}{vE:Nat->Bool}
theorem xW(qf:Ext w (jZ x g ids) w' gc)(b:Nat):
  (b<w.heap.size/\(kW g gc ids M w.heap.size vE).tag b=g.tag b/\gc.tag b=(jZ x g ids).tag b/\w'.heap[b]? = w.heap[b]?/\((jZ x g ids).tag b=.zt\/(jZ x g ids).tag b=.ro)/\
   ∀i∈ids,(∀p,g.tag b≠.row i p)/\g.tag b≠.box i)\/
  ((kW g gc ids M w.heap.size vE).tag b=QE M (gc.tag b)/\(b<w.heap.size->∃i∈ids,(∃p,g.tag b=.row i p)\/g.tag b=.box i)):=by
 by_cases qk:b<w.heap.size
 ·have key:∀t,g.tag b=t->((jZ x g ids).tag b=.zt\/(jZ x g ids).tag b=.ro)->(kW g gc ids M w.heap.size vE).tag b=t->(∀i∈ids,(∀p,g.tag b≠.row i p)/\g.tag b≠.box i)->
    (b<w.heap.size/\(kW g gc ids M w.heap.size vE).tag b=g.tag b/\gc.tag b=(jZ x g ids).tag b/\w'.heap[b]? = w.heap[b]?/\((jZ x g ids).tag b=.zt\/(jZ x g ids).tag b=.ro)/\
   ∀i∈ids,(∀p,g.tag b≠.row i p)/\g.tag b≠.box i):=by
   intro t ht hl hb hi;obtain⟨h1,h2⟩:=qf.vE b qk hl;exact⟨qk,hb.trans ht.symm,h2,h1,hl,hi⟩
  have zqu:g.tag b=.zt\/g.tag b=.ro\/(∃i p,g.tag b=.row i p)\/∃i,g.tag b=.box i:=by cases g.tag b<;>simp
  rcases zqu with ht|ht|⟨i,p,ht⟩|⟨i,ht⟩
  ·left;exact key _ ht (by rw[ZB (.inl ht),ht];simp) (by simp[kW,ht,qk]) (by simp[ht])
  ·left;exact key _ ht (by rw[ZB (.inr ht),ht];simp) (by simp[kW,ht,qk]) (by simp[ht])
  ·by_cases hi:i∈ids
   ·right;exact⟨by simp[kW,ht,qk,hi],λ_=>⟨i,hi,.inl ⟨p,ht⟩⟩⟩
   ·left;refine key _ ht ?_ (by simp[kW,ht,qk,hi]) (λi' wm=>⟨λp' he=>?_,by simp[ht]⟩)
    ·rw[uc (.inl ⟨p,ht⟩) hi];cases x<;>simp
    ·rw[ht]at he;simp only[Tag.row.injEq]at he;rw[he.1]at hi;exact hi wm
  ·by_cases hi:i∈ids
   ·right;exact⟨by simp[kW,ht,qk,hi],λ_=>⟨i,hi,.inr ht⟩⟩
   ·left;refine key _ ht ?_ (by simp[kW,ht,qk,hi]) (λi' wm=>⟨λp' he=>by simp[ht]at he,λhe=>?_⟩)
    ·rw[uc (.inr ht) hi];cases x<;>simp
    ·rw[ht]at he;simp only[Tag.box.injEq]at he;rw[he]at hi;exact hi wm
 ·right;exact⟨by simp[kW,qk],λh=>absurd h qk⟩
theorem z63(qf:Ext w (jZ x g ids) w' gc){b j id:Nat}{p:Path}(h:gc.tag b=.row j p)(hm:zR M j=some id):(kW g gc ids M w.heap.size vE).tag b=.row id p:=by
 rcases xW (M:=M) (vE:=vE) qf b with⟨_,_,h2,_,h3,_⟩|⟨h1,_⟩
 ·rw[h]at h2;rw[<-h2]at h3;simp at h3
 ·rw[h1,h];simp[QE,hm]
theorem z65(qf:Ext w (jZ x g ids) w' gc){b j id:Nat}(h:gc.tag b=.box j)(hm:zR M j=some id):(kW g gc ids M w.heap.size vE).tag b=.box id:=by
 rcases xW (M:=M) (vE:=vE) qf b with⟨_,_,h2,_,h3,_⟩|⟨h1,_⟩
 ·rw[h]at h2;rw[<-h2]at h3;simp at h3
 ·rw[h1,h];simp[QE,hm]
theorem IX(qf:Ext w (jZ x g ids) w' gc):Ext w g w' (kW g gc ids M w.heap.size vE):=by
 refine⟨qf.os,qf.tape,qf.output,qf.drawn,qf.size,λb hb ht=>?_⟩;obtain⟨h1,h2⟩:=qf.vE b hb (by rw[ZB ht];exact ht);refine⟨h1,?_⟩;rcases ht with ht|ht<;>simp[kW,hb,ht]
theorem zdg(qf:Ext w (jZ x g ids) w' gc)(ht:∀b,g.tag b≠.zt->b<w.heap.size):zT w g w' (kW g gc ids M w.heap.size vE):=(IX qf).ro ht
theorem Ma(qf:Ext w (jZ false g ids) w' gc):zT w' gc w' (kW g gc ids M w.heap.size vE):=by
 refine⟨λb hb=>⟨?_,rfl⟩⟩;rcases xW (M:=M) (vE:=vE) qf b with⟨_,h1,h2,_,h3,hi⟩|⟨h1,_⟩
 ·rw[h1];rw[hb]at h2
  cases ht:g.tag b with
  |ro=>rfl
  |zt=>rw[ZB (.inl ht),ht]at h2;simp at h2
  |row i p=>
   by_cases hm:i∈ids
   ·exact absurd ht ((hi i hm).1 p)
   ·rw[uc (.inl ⟨p,ht⟩) hm]at h2;simp at h2
  |box i=>
   by_cases hm:i∈ids
   ·exact absurd ht (hi i hm).2
   ·rw[uc (.inr ht) hm]at h2;simp at h2
 ·rw[h1,hb];rfl
theorem T1(qf:Ext w (jZ x g ids) w' gc)(hc:∀b,gc.tag b≠.zt->b<w'.heap.size)(b:Nat)(hb:(kW g gc ids M w.heap.size vE).tag b≠.zt):b<w'.heap.size:=by
 rcases xW (M:=M) (vE:=vE) qf b with⟨h0,_⟩|⟨h1,_⟩
 ·exact Z2r h0 qf.size
 ·refine hc b λh=>hb ?_
  rw[h1,h];rfl
theorem YL{i:Nat}:{l:List Nat}->{k:Nat}->i∉l->qC i l k=none
 |[],_,_=>rfl
 |y::l,k,h=>by
  simp only[pF,not_or]at h;have:Nat.beq y i=false:=by
   cases hb:Nat.beq y i with
   |true=>exact absurd (zE hb).symm h.1
   |false=>rfl
  simp only[qC,this,zP];exact YL h.2
theorem DW(qf:Ext w (jZ x g ids) w' gc)(ht:∀b,g.tag b≠.zt->b<w.heap.size){id:Nat}(hi:id∉ids)(hM:id∉M):xC w g w' (kW g gc ids M w.heap.size vE) id:=by
 have hx:=YL (k:=0) hM;have hb:∀b,((∃p,g.tag b=.row id p)\/g.tag b=.box id)->(kW g gc ids M w.heap.size vE).tag b=g.tag b/\w'.heap[b]? = w.heap[b]? := by
  intro b h;rcases xW (M:=M) (vE:=vE) qf b with⟨_,h1,_,h2,_⟩|⟨_,h1⟩
  ·exact⟨h1,h2⟩
  ·have qk:=ht b (by rcases h with⟨p,h⟩|h<;>rw[h]<;>simp);obtain⟨i,him,QC⟩:=h1 qk;exfalso;rcases h with⟨p,h⟩|h<;>rcases QC with⟨q,h2⟩|h2<;>rw[h]at h2<;>simp at h2
   ·rw[h2.1]at hi;exact hi him
   ·rw[h2]at hi;exact hi him
 refine⟨⟨λq=>by simp[kW,hx],λq b h=>?_⟩,by simp[kW,hx],λh=>?_⟩
 ·simp only[Ql]at h⊢;obtain⟨h1,h2⟩:=hb b (.inl ⟨q,h⟩);exact⟨h1.trans h,h2⟩
 ·obtain⟨h1,h2⟩:=hb _ (.inr h);exact⟨h1.trans h,h2⟩
end
def zsa(e:Nat×Nat)(y y':Obj):Prop:=
 (∃t l,y=.row t l 0/\y'=.row t l e.1)\/(∃a a',y=.cell a/\y'=.cell a'/\a'.sk=a.sk)\/(∃k v m,y=.map k v m/\y'=.map k v m)\/(∃t l,y=.nest t l 0 0 none/\y'=.nest t l e.1 e.2 none)
structure Bk (gc G:z8) (oc o':qZ) (M:List Nat) (E:Nat->Nat×Nat):Prop where
 obj:∀j id,zR M j=some id->∀y',o' id=some y'->∃y,oc j=some y/\zsa (E j) y y'
 svr:∀j id,zR M j=some id->∀t l,oc j=some (.row t l 0)->G.sv id []=gc.sv j []
 svn:∀j id,zR M j=some id->∀t l,oc j=some (.nest t l 0 0 none)->∀p,G.sv id p=gc.sv j p
 qp:∀j id,zR M j=some id->G.qp id=gc.qp j
 row:∀b j p id,gc.tag b=.row j p->zR M j=some id->G.tag b=.row id p
 box:∀b j id,gc.tag b=.box j->zR M j=some id->G.tag b=.box id
section
variable {w:World}{gc G:z8}{oc o':qZ}{M:List Nat}{E:Nat->Nat×Nat}
theorem Ws:(p:zH)->{d:p.den}->{a:z7}->p.inst M E d=some a->a.sk=(p.mk d).sk
 |.val t,d,a,h=>by simp only[zH.inst,zI]at h;subst h;rfl
 |.zi,d,a,h=>by simp only[zH.inst,zI]at h;subst h;rfl
 |.ref j,d,a,h=>by simp only[zH.inst,wO]at h;obtain⟨id,_,rfl⟩:=h;rfl
 |.view j,d,a,h=>by simp only[zH.inst,wO]at h;obtain⟨id,_,rfl⟩:=h;rfl
 |.zq j p,d,a,h=>by simp only[zH.inst,wO]at h;obtain⟨id,_,rfl⟩:=h;rfl
 |.qV j,d,a,h=>by simp only[zH.inst,wO]at h;obtain⟨id,_,rfl⟩:=h;rfl
 |.nv j,d,a,h=>by simp only[zH.inst,wO]at h;obtain⟨id,_,rfl⟩:=h;rfl
 |.nvi j,d,a,h=>by simp only[zH.inst,wO]at h;obtain⟨id,_,rfl⟩:=h;rfl
 |.qP f c,d,a,h=>by simp only[zH.inst,wO]at h;obtain⟨a',_,rfl⟩:=h;rfl
 | .V6 f c,d,a,h=>by simp only[zH.inst,wO]at h;obtain⟨a',_,rfl⟩:=h;rfl
 |.agg c,d,a,h=>by
  simp only[zH.inst,wO]at h;obtain⟨a',h,rfl⟩:=h
  simpa only[zH.mk,z7.sk]using Ws c h
 |.pr p q,d,a,h=>by
  simp only[zH.inst]at h;split at h
  ·rename_i y z h1 h2;simp only[zI]at h;subst h;simp only[zH.mk,z7.sk,Ws p h1,Ws q h2]
  ·simp at h
 |.un,d,a,h=>by simp only[zH.inst,zI]at h;subst h;rfl
theorem wz:(p:zH)->{d:p.den}->{a:z7}->p.inst M E d=some a->a.isAgg=(p.mk d).isAgg/\(∀c,(p.mk d)≠.jS c)/\(∀y z,a=.pr y z->∃y' z',p.mk d=.pr y' z')/\(a=.un->p.mk d=.un)/\∀m∈a.ids,m∈M
 |.val t,d,a,h=>by simp only[zH.inst,zI]at h;subst h;simp[zH.mk,z7.isAgg,z7.ids]
 |.zi,d,a,h=>by simp only[zH.inst,zI]at h;subst h;simp[zH.mk,z7.ids]
 |.ref j,d,a,h=>by simp only[zH.inst,wO]at h;obtain⟨id,hm,rfl⟩:=h;simp[zH.mk,z7.isAgg,z7.ids,jo hm]
 |.view j,d,a,h=>by simp only[zH.inst,wO]at h;obtain⟨id,hm,rfl⟩:=h;simp[zH.mk,z7.isAgg,z7.ids,jo hm]
 |.zq j p,d,a,h=>by simp only[zH.inst,wO]at h;obtain⟨id,hm,rfl⟩:=h;simp[zH.mk,z7.isAgg,z7.ids,jo hm]
 |.qV j,d,a,h=>by simp only[zH.inst,wO]at h;obtain⟨id,hm,rfl⟩:=h;simp[zH.mk,z7.isAgg,z7.ids,jo hm]
 |.nv j,d,a,h=>by simp only[zH.inst,wO]at h;obtain⟨id,hm,rfl⟩:=h;simp[zH.mk,z7.isAgg,z7.ids,jo hm]
 |.nvi j,d,a,h=>by simp only[zH.inst,wO]at h;obtain⟨id,hm,rfl⟩:=h;simp[zH.mk,z7.isAgg,z7.ids,jo hm]
 |.qP f c,d,a,h=>by
  simp only[zH.inst,wO]at h;obtain⟨a',h,rfl⟩:=h;have:=(wz c h).2.2.2.2
  simpa[zH.mk,z7.isAgg,z7.ids]using this
 | .V6 f c,d,a,h=>by
  simp only[zH.inst,wO]at h;obtain⟨a',h,rfl⟩:=h;have:=(wz c h).2.2.2.2
  simpa[zH.mk,z7.isAgg,z7.ids]using this
 |.agg c,d,a,h=>by
  simp only[zH.inst,wO]at h;obtain⟨a',h,rfl⟩:=h;have:=(wz c h).2.2.2.2
  simpa[zH.mk,z7.isAgg,z7.ids]using this
 |.pr p q,d,a,h=>by
  simp only[zH.inst]at h;split at h
  ·rename_i y z h1 h2;simp only[zI]at h;subst h;have k1:=(wz p h1).2.2.2.2;have k2:=(wz q h2).2.2.2.2;refine⟨rfl,by simp[zH.mk],λ_ _ _=>⟨_,_,rfl⟩,by simp,λm hm=>?_⟩;simp only[z7.ids,Gx]at hm;rcases hm with hm|hm
   ·exact k1 m hm
   ·exact k2 m hm
  ·simp at h
 |.un,d,a,h=>by simp only[zH.inst,zI]at h;subst h;simp[zH.mk,z7.ids]
theorem pO(hb:Bk gc G oc o' M E):(p:zH)->{d:p.den}->{a:z7}->{cs:List Value}->(zT w gc w G\/p.flat=true)->p.inst M E d=some a->jM w gc oc (p.mk d) cs->jM w G o' a cs
 |.val t,d,a,cs,hf,h,za=>by
  simp only[zH.inst,zI]at h;subst h;refine⟨za.1,?_⟩;rcases hf with hf|hf
  ·exact za.2.kept hf
  ·exact zN.qs hf za.2
 |.zi,d,a,cs,hf,h,za=>by simp only[zH.inst,zI]at h;subst h;exact za
 |.ref j,d,a,cs,hf,h,za=>by
  simp only[zH.inst,wO]at h;obtain⟨id,hm,rfl⟩:=h;obtain⟨v,hv,qc,hx⟩:=za;refine⟨v,hv,qc,λt l e ho=>?_⟩;obtain⟨y,hy,hk⟩:=hb.obj j id hm _ ho;rcases hk with⟨t',l',rfl,h2⟩|⟨a1,a2,_,h2,_⟩|⟨k,v',m,_,h2⟩|⟨t',l',_,h2⟩
  ·simp only[Obj.row.injEq]at h2;obtain⟨rfl,_,rfl⟩:=h2;exact⟨yH _,λ_=>by rw[hb.svr j id hm _ _ hy];exact(hx _ _ _ hy).2 rfl⟩
  ·simp at h2
  ·simp at h2
  ·simp at h2
 |.view j,d,a,cs,hf,h,za=>by
  simp only[zH.inst,wO]at h;obtain⟨id,hm,rfl⟩:=h;obtain⟨v,hv,qc,hx⟩:=za;refine⟨v,hv,qc,λt l e ho=>?_⟩;obtain⟨y,hy,hk⟩:=hb.obj j id hm _ ho;rcases hk with⟨t',l',rfl,h2⟩|⟨a1,a2,_,h2,_⟩|⟨k,v',m,_,h2⟩|⟨t',l',_,h2⟩
  ·simp only[Obj.row.injEq]at h2;obtain⟨rfl,hl,rfl⟩:=h2;have hl:=Z34 hl;subst hl;refine⟨yH _,λ_=>?_⟩;rw[hb.svr j id hm _ _ hy];exact(hx _ _ _ hy).2 rfl
  ·simp at h2
  ·simp at h2
  ·simp at h2
 |.zq j p,d,a,cs,hf,h,za=>by
  simp only[zH.inst,wO]at h;obtain⟨id,hm,rfl⟩:=h;obtain⟨v,hv,qc,hx⟩:=za;refine⟨v,hv,qc,λa ho=>?_⟩;obtain⟨y,hy,hk⟩:=hb.obj j id hm _ ho;rcases hk with⟨t',l',_,h2⟩|⟨a1,a2,rfl,h2,hs⟩|⟨k,v',m,_,h2⟩|⟨t',l',_,h2⟩
  ·simp at h2
  ·simp only[Obj.cell.injEq]at h2;subst h2;obtain⟨off,s,h3,h4⟩:=hx _ hy;exact⟨off,s,by rw[hs];exact h3,by rw[hb.qp j id hm];exact h4⟩
  ·simp at h2
  ·simp at h2
 |.qV j,d,a,cs,hf,h,za=>by
  simp only[zH.inst,wO]at h;obtain⟨id,hm,rfl⟩:=h;obtain⟨v,hv,qc,hx⟩:=za;refine⟨v,hv,qc,λkt vt mm ho=>?_⟩;obtain⟨y,hy,hk⟩:=hb.obj j id hm _ ho;rcases hk with⟨t',l',_,h2⟩|⟨a1,a2,_,h2,_⟩|⟨k,v',m,rfl,h2⟩|⟨t',l',_,h2⟩
  ·simp at h2
  ·simp at h2
  ·rw[hb.qp j id hm];exact hx _ _ _ hy
  ·simp at h2
 |.nv j,d,a,cs,hf,h,za=>by
  simp only[zH.inst,wO]at h;obtain⟨id,hm,rfl⟩:=h;obtain⟨v,hv,qc,hx⟩:=za;refine⟨v,hv,qc,λt l e i hh ho=>?_⟩;obtain⟨y,hy,hk⟩:=hb.obj j id hm _ ho;rcases hk with⟨t',l',_,h2⟩|⟨a1,a2,_,h2,_⟩|⟨k,v',m,_,h2⟩|⟨t',l',rfl,h2⟩
  ·simp at h2
  ·simp at h2
  ·simp at h2
  ·simp only[Obj.nest.injEq]at h2;obtain⟨_,_,rfl,rfl,_⟩:=h2;refine⟨yH _,λ_=>⟨λ_=>?_,λh=>(by simp at h)⟩⟩
   rw[hb.svn j id hm _ _ hy];exact((hx _ _ _ _ _ hy).2 rfl).1 rfl
 |.nvi j,d,a,cs,hf,h,za=>by
  simp only[zH.inst,wO]at h;obtain⟨id,hm,rfl⟩:=h;obtain⟨v,hv,qc,hx⟩:=za;refine⟨v,hv,qc,λt l e i hh ho=>?_⟩;obtain⟨y,hy,hk⟩:=hb.obj j id hm _ ho;rcases hk with⟨t',l',_,h2⟩|⟨a1,a2,_,h2,_⟩|⟨k,v',m,_,h2⟩|⟨t',l',rfl,h2⟩
  ·simp at h2
  ·simp at h2
  ·simp at h2
  ·simp only[Obj.nest.injEq]at h2;obtain⟨_,_,rfl,rfl,_⟩:=h2;refine⟨yH _,λ_=>⟨λ_=>?_,λh=>(by simp at h)⟩⟩
   rw[hb.svn j id hm _ _ hy];exact((hx _ _ _ _ _ hy).2 rfl).1 rfl
 |.qP f c,d,a,cs,hf,h,za=>by
  simp only[zH.inst,wO]at h;obtain⟨a',h,rfl⟩:=h;obtain⟨vs,hv,hx⟩:=za
  exact⟨vs,hv,pO hb c hf h hx⟩
 | .V6 t c,d,a,cs,hf,h,za=>by
  simp only[zH.inst,wO]at h;obtain⟨a',h,rfl⟩:=h;obtain⟨x,Du,hv,hx,hxv⟩:=za
  exact⟨x,Du,hv,pO hb c hf h hx,by rw[(wz c h).1];exact hxv⟩
 |.agg c,d,a,cs,hf,h,za=>by
  simp only[zH.inst,wO]at h;obtain⟨a',h,rfl⟩:=h;show jM w G o' a' cs
  exact pO hb c hf h (show jM w gc oc (c.mk d) cs from za)
 |.pr p q,d,a,cs,hf,h,za=>by
  simp only[zH.inst]at h;split at h
  ·rename_i y z h1 h2;simp only[zI]at h;subst h;obtain⟨c1,c2,pe,k1,k2⟩:=za;have ZF:zT w gc w G\/p.flat=true:=hf.imp _root_.id λh=>by simp only[zH.flat,zA]at h;exact h.1
   have Pn:zT w gc w G\/q.flat=true:=hf.imp _root_.id λh=>by simp only[zH.flat,zA]at h;exact h.2
   exact⟨c1,c2,pe,pO hb p ZF h1 k1,pO hb q Pn h2 k2⟩
  ·simp at h
 |.un,d,a,cs,hf,h,za=>by simp only[zH.inst,zI]at h;subst h;exact za
theorem HF(hb:Bk gc G oc o' M E){p:zH}{d:p.den}{a:z7}{v:Value}(hf:zT w gc w G\/p.flat=true)(h:p.inst M E d=some a)(za:zm w gc oc (p.mk d) v):zm w G o' a v:=by
 obtain⟨h1,h2,h3,h4,_⟩:=wz p h;obtain⟨cs,pe,Qs⟩:=kB za h2;refine jz (pO hb p hf h pe) (by rw[h1];exact Qs) (λy z he=>?_) (λhe=>?_)
 ·obtain⟨y',z',he⟩:=h3 y z he;rw[he]at za;simp only[zm]at za
 ·rw[h4 he]at za;simp only[zm]at za
theorem zN.Wf{w w':World}{g g':z8}:{o o':C8}->{t:Ty}->{d:t.den}->{cs:List Value}->
  (hm:Pz w g w' g' o o')->t.wN=true->zN w g o t d cs->zN w' g' o' t d cs
 |_,_,.int _,_,_,_,_,h=>h
 |_,_,.bool,_,_,_,_,h=>h
 |_,_,.str,_,_,_,_,h=>h
 |_,_,.unit,_,_,_,_,h=>h
 |_,_,.pair a b,(x,y),_,hm,ht,h=>by
  obtain⟨c1,c2,rfl,h1,h2⟩:=h;simp only[Ty.wN,zA]at ht
  exact⟨c1,c2,rfl,zN.Wf (hm.step _) ht.1 h1,zN.Wf (hm.step _) ht.2 h2⟩
 |_,_,.arr n t,_,_,hm,ht,h=>⟨h.1,h.2.1,λi hi=>zN.Wf (hm.step _) (by simpa[Ty.wN]using ht) (h.2.2 i hi)⟩
 |_,_,.sl false t,l,_,_,ht,h=>by simp[Ty.wN,Ty.qs]at ht
 |some (id,p),some (vF,p'),.sl true t,l,_,hm,ht,h=>by
  obtain⟨a,cap,rfl,h0,h1,h2,h3⟩:=h;have Gp:xG w g w' g' id p vF p':=hm;refine⟨a,cap,rfl,?_,h1,h2,?_⟩
  ·have:=Gp.sv [];simp only[DX]at this;rw[this];exact h0
  ·rcases h3 with h3|⟨b,off,c,e,ha,Qo,hb,hs,he⟩
   ·exact .inl h3
   ·have hk:=Gp.qp [] b (by simpa using Qo);simp only[DX]at hk
    exact .inr ⟨b,off,c,e,ha,hk.1,hk.2.trans hb,hs,λi hi=>zN.Wf (o:=some (id,p++[Step.idx (i:Int)])) (o':=some (vF,p'++[Step.idx (i:Int)])) (Gp.step _) (by simpa[Ty.wN]using ht) (he i hi)⟩
 |some _,none,.sl true _,_,_,hm,_,_=>hm.elim
 |none,_,.sl true _,_,_,_,_,h=>h.elim
 |_,_,.ptr t,_,_,_,ht,_=>by simp[Ty.wN,Ty.qs]at ht
 |_,_,.fn f t,_,_,_,ht,_=>by simp[Ty.wN,Ty.qs]at ht
 |_,_,.tree _,_,_,_,ht,_=>by simp[Ty.wN,Ty.qs]at ht
 |_,_,.mp _,_,_,_,ht,_=>by simp[Ty.wN,Ty.qs]at ht
theorem yI.qs{w w':World}{g g':z8}{kt vt:Ty}(hk:kt.qs=true)(hv:vt.qs=true):{es:List MapEntry}->{m:List (kt.den×vt.den)}->yI w g kt vt es m->yI w' g' kt vt es m
 |[],[],_=>trivial
 |_::_,(_,_)::_,⟨⟨c1,h1,e1⟩,⟨c2,h2,e2⟩,h⟩=>⟨⟨c1,zN.qs hk h1,e1⟩,⟨c2,zN.qs hv h2,e2⟩,yI.qs hk hv h⟩
 |[],_::_,h=>h.elim
 |_::_,[],h=>h.elim
theorem z2v(hb:Bk gc G oc o' M E){o:j3}{d:o.den}{y:Obj}{j id:Nat}(hm:zR M j=some id)(hf:zT w gc w G\/o.flat=true)(hj:oc j=some (o.mk d))(h:o.inst M E j d=some y)(za:zn w gc oc j (o.mk d)):zn w G o' id y:=by
 cases o with
 |row t=>
  simp only[j3.inst,zI]at h;subst h;obtain⟨ht,hr⟩:=za;refine⟨ht,?_⟩;rw[hb.svr j id hm _ _ hj];obtain⟨a,cap,hv,h0,h1,h2,h3⟩:=hr;refine⟨a,cap,hv,(hb.svr j id hm _ _ hj).trans h0,h1,h2,?_⟩;rcases h3 with h3|⟨b,off,c,e,ha,Qo,Vs,hs,he⟩
  ·exact .inl h3
  ·refine .inr ⟨b,off,c,e,ha,hb.row b j [] id Qo hm,Vs,hs,λi hi=>?_⟩;rcases hf with hf|hf
   ·exact zN.yJ ht ((zN.yJ (o':=none) ht (he i hi)).kept hf)
   ·exact zN.qs hf (he i hi)
 |cell p=>
  simp only[j3.inst,wO]at h;obtain⟨a,h,rfl⟩:=h;have hnt:(p.mk d).we=false:=by
   have:=(wz p h).2.1;cases Qs:p.mk d<;>first|rfl|exact absurd Qs (this _)
  obtain⟨c,e,h1,h2,h3⟩:=za.out hnt
  exact zn.mk ⟨c,e,by rw[hb.qp j id hm];exact h1,by rw[hb.qp j id hm];exact hb.box _ j id h2 hm,pO hb p hf h h3⟩
 |map kt vt=>
  simp only[j3.inst,zI]at h;subst h;obtain⟨es,ck,h1,h2,h3,h4,h5,h6⟩:=za;refine⟨es,ck,by rw[hb.qp j id hm];exact h1,by rw[hb.qp j id hm];exact hb.box _ j id h2 hm,h3,h4,?_,h6⟩;rcases hf with hf|hf
  ·exact h5.kept hf
  ·simp only[j3.flat,zA]at hf
   exact h5.qs hf.1 hf.2
 |iter Gk=>simp[j3.inst]at h
 |Zj p=>
  simp only[j3.inst]at h
  cases p9:(z7.jS (p.mk d)).wh with
  |false=>rw[p9]at h;simp at h
  |true=>
   rw[p9]at h;simp only[zB,wO]at h;obtain⟨a,h,rfl⟩:=h;obtain⟨c,e,h1,h2,h3⟩:=(zn.Zj p9).1 za;have hf:zT w gc w G:=hf.resolve_right (by simp[j3.flat]);have Ho:(z7.jS a).wh=true:=by
    cases p<;>simp[zH.mk,z7.wh]at p9
    ·simp only[zH.inst,wO]at h;obtain⟨x,_,rfl⟩:=h;rfl
    ·simp only[zH.inst,wO]at h;obtain⟨x,_,rfl⟩:=h;rfl
   exact(zn.Zj Ho).2 ⟨c,e,by rw[hb.qp j id hm];exact h1,by rw[hb.qp j id hm];exact(hf.qp _ h2).1,pO hb p (.inl hf) h h3⟩
 |nest t=>
  simp only[j3.inst,zI]at h;subst h;show zN w G (some (id,[])) (.sl true t) d [G.sv id []];have yZ:=hb.svn j id hm _ _ hj;rw[yZ];have hmv:Pz w gc w G (some (j,[])) (some (id,[])):=⟨λq=>yZ _,λq b hq=>⟨hb.row b j q id (by simpa using hq) hm,rfl⟩⟩;have za:zN w gc (some (j,[])) (.sl true t) d [gc.sv j []]:=za;rcases hf with hf|hf
  ·exact zN.move hf hmv za
  ·exact zN.Wf hmv (show(Ty.sl true t).wN=true from hf) za
end
end Go.Kz
namespace Go.Kz
variable {R:Type}
def Ident(g gc:z8)(oc so:qZ)(j id:Nat):Prop:=
 (∀t l,oc j=some (.row t l 0)->∀t' l' e,so id=some (.row t' l' e)->gc.sv j []=g.sv id [])/\
 (∀a,oc j=some (.cell a)->∀a',so id=some (.cell a')->gc.qp j=g.qp id)/\
 (∀k v m,oc j=some (.map k v m)->∀k' v' m',so id=some (.map k' v' m')->gc.qp j=g.qp id)/\
 (∀t l,oc j=some (.nest t l 0 0 none)->∀t' l' e i h,so id=some (.nest t' l' e i h)->gc.sv j []=g.sv id [])
theorem QY{b b':Qm}{i id:Nat}(h:PC b i id some=some b'):∀j vF,yO b' j=some vF->yO b j=some vF\/(j=i/\vF=id):=by
 unfold PC at h;intro j vF hj;split at h
 ·rename_i j0 h0
  cases hb:Nat.beq j0 id with
  |false=>rw[hb]at h;simp at h
  |true=>
   rw[hb]at h;simp only[zB,zI]at h;subst h;exact .inl hj
 ·cases hb:MQ b id with
  |true=>rw[hb]at h;simp at h
  |false=>
   rw[hb]at h;simp only[zP,zI]at h;subst h;simp only[yO]at hj
   cases he:Nat.beq i j with
   |true=>
    rw[he]at hj;simp only[zB,zI]at hj
    exact .inr ⟨(zE he).symm,hj.symm⟩
   |false=>rw[he]at hj;exact .inl hj
section
variable {w w':World}{g gc:z8}{oc so:qZ}{Y:Nat->Option Nat}
theorem gu{a:z7}{u:Value}(h:zm w g so a u)(ht:∀c,a≠.jS c)(hg:a.isAgg=false):∃cs,jM w g so a cs/\u=cs.headD undef:=by
 obtain⟨cs,h1,h2⟩:=kB h ht;exact⟨cs,h1,by rw[h2,hg];rfl⟩
theorem G5{a a':z7}{p:zH}{d:p.den}{b b':Qm}{u:Value}(h:QH so a p b=some b')(hv:zm w g so a u)(hr:a.w3 so Y=some a')(hx:zm w' gc oc (p.mk d) u)
  (hI:∀j id,yO b j=some id->Ident g gc oc so j id):∀j id,yO b' j=some id->Ident g gc oc so j id:=by
 intro j id hj;unfold QH at h;split at h
 ·rename_i id0 ep j0;rcases QY h j id hj with h1|⟨rfl,rfl⟩
  ·exact hI j id h1
  ·simp only[z7.w3]at hr;split at hr
   ·rename_i t0 l0 e0 _ zp
    cases hb:Nat.beq e0 ep with
    |false=>rw[hb]at hr;simp at hr
    |true=>
     have he:=zE hb;subst he;obtain⟨cs,⟨v,rfl,_,h1⟩,rfl⟩:=gu hv (by simp) rfl;obtain⟨Du,⟨v',rfl,_,h2⟩,hu⟩:=gu hx (by simp[zH.mk]) rfl;simp only[Z2l]at hu;subst hu;refine⟨λt l ho t' l' e hs=>?_,λa ho a' hs=>by rw[zp]at hs;simp at hs,λ_ _ _ _ _ _ _ hs=>by rw[zp]at hs;simp at hs,λ_ _ _ _ _ _ _ _ hs=>by rw[zp]at hs;simp at hs⟩;rw[<-(h2 _ _ _ ho).2 rfl,<-(h1 _ _ _ zp).2 rfl]
   ·simp at hr
 ·rename_i id0 j0;split at h
  ·rename_i a0 zp;rcases QY h j id hj with h1|⟨rfl,rfl⟩
   ·exact hI j id h1
   ·obtain⟨cs,⟨v,rfl,_,h1⟩,rfl⟩:=gu hv (by simp) rfl;obtain⟨Du,⟨v',rfl,_,h2⟩,hu⟩:=gu hx (by simp[zH.mk]) rfl;simp only[Z2l]at hu;subst hu;have zZ:∀a,oc j=some (.cell a)->∀a',so id=some (.cell a')->gc.qp j=g.qp id:=by
     intro a ho a' hs;obtain⟨o1,s1,q1,q2⟩:=h1 _ hs;obtain⟨o2,s2,q3,q4⟩:=h2 _ ho;rw[q2]at q4;simp only[Value.pointer.injEq,zI,Addr.mk.injEq]at q4;exact q4.1.symm
    exact⟨λt l ho t' l' e hs=>by rw[zp]at hs;simp at hs,zZ,λ_ _ _ ho _ _ _ hs=>by rw[zp]at hs;simp at hs,λ_ _ ho _ _ _ _ _ hs=>by rw[zp]at hs;simp at hs⟩
  ·simp at h
 ·rename_i id0 j0;split at h
  ·rename_i k0 v0 m0 zp;rcases QY h j id hj with h1|⟨rfl,rfl⟩
   ·exact hI j id h1
   ·obtain⟨cs,⟨v,rfl,_,h1⟩,rfl⟩:=gu hv (by simp) rfl;obtain⟨Du,⟨v',rfl,_,h2⟩,hu⟩:=gu hx (by simp[zH.mk]) rfl;simp only[Z2l]at hu;subst hu;refine⟨λt l ho t' l' e hs=>by rw[zp]at hs;simp at hs,λ_ _ _ hs=>by rw[zp]at hs;simp at hs,λ_ _ _ ho _ _ _ hs=>?_,λ_ _ ho _ _ _ _ _ hs=>by rw[zp]at hs;simp at hs⟩;have q1:=h1 _ _ _ hs;have q2:=h2 _ _ _ ho;rw[q1]at q2;simp only[Value.map.injEq,zI]at q2;exact q2.symm
  ·simp at h
 ·rename_i id0 ep j0;rcases QY h j id hj with h1|⟨rfl,rfl⟩
  ·exact hI j id h1
  ·simp only[z7.w3]at hr;split at hr
   ·rename_i t0 l0 e0 i0 _ zp
    cases hb:Nat.beq (HG false [] e0 i0) ep with
    |false=>rw[hb]at hr;simp at hr
    |true=>
     have he:=zE hb;obtain⟨cs,⟨v,rfl,_,h1⟩,rfl⟩:=gu hv (by simp) rfl;obtain⟨Du,⟨v',rfl,_,h2⟩,hu⟩:=gu hx (by simp[zH.mk]) rfl;simp only[Z2l]at hu;subst hu;refine⟨λt l ho t' l' e hs=>by rw[zp]at hs;simp at hs,λa ho a' hs=>by rw[zp]at hs;simp at hs,λ_ _ _ _ _ _ _ hs=>by rw[zp]at hs;simp at hs,λ_ _ ho _ _ _ _ _ hs=>?_⟩;rw[<-((h2 _ _ _ _ _ ho).2 rfl).1 rfl,<-((h1 _ _ _ _ _ zp).2 he).1 rfl]
   ·simp at hr
 ·simp at h
theorem Mm{a:z7}{p:zH}{d:p.den}{b b':Qm}(h:QH so a p b=some b'):((∀y z,a≠.pr y z)/\a≠.un/\a.sk=.leaf/\a.isAgg=false)/\(∀y z,p.mk d≠.pr y z)/\p.mk d≠.un/\(p.mk d).sk=.leaf/\(p.mk d).isAgg=false:=by
 unfold QH at h;split at h
 ·simp[zH.mk,z7.sk,z7.isAgg]
 ·simp[zH.mk,z7.sk,z7.isAgg]
 ·simp[zH.mk,z7.sk,z7.isAgg]
 ·simp[zH.mk,z7.sk,z7.isAgg]
 ·simp at h
theorem IB:{c c':z7}->{q:zH}->{d:q.den}->{b b':Qm}->{vs:List Value}->QF so c q b=some b'->jM w g so c vs->c.w3 so Y=some c'->jM w' gc oc (q.mk d) vs->
  (∀j id,yO b j=some id->Ident g gc oc so j id)->∀j id,yO b' j=some id->Ident g gc oc so j id:=by
 intro c
 induction c with
 |pr a c iha ihc=>
  intro c' q d b b' vs h hv hr hx hI
  cases q with
  |pr p q=>
   obtain⟨c1,c2,rfl,h1,h2⟩:=hv;obtain⟨e1,e2,he,k1,k2⟩:=hx;simp only[z7.w3]at hr;split at hr
   ·rename_i a' cc' ha hc;have q03:∀t x,a=.data t x->QF so (.pr a c) (.pr p q) b=some b'->∀j id,yO b' j=some id->Ident g gc oc so j id:=by
     rintro t x rfl h
     cases p with
     |val u=>
      simp only[QF]at h;have hb:=j9 h;obtain⟨hs,hb⟩:=hb;obtain⟨hs,_⟩:=Z37.1 hs;obtain rfl:=hs.down;have hl:c1.length=e1.length:=by rw[h1.len,k1.len];rfl
      obtain⟨_,rfl⟩:=Z3r he hl
      exact ihc hb h2 hc k2 hI
     |_=>simp[QF,QH]at h
    by_cases hd:∃t x,a=.data t x
    ·obtain⟨t,x,hd⟩:=hd;exact q03 t x hd h
    ·have h':(match QH so a p b with
      |some b=>QF so c q b
      |none=>none)=some b':=by
      cases a<;>first|exact h|exact absurd ⟨_,_,rfl⟩ hd
     split at h'
     ·rename_i b1 Ky;obtain⟨⟨f1,f2,f3,f4⟩,g1,g2,g3,g4⟩:=Mm (d:=d.1) Ky;have l1:c1.length=1:=by rw[h1.len,f3];rfl
      have l2:e1.length=1:=by rw[k1.len,g3];rfl
      obtain⟨rfl,rfl⟩:=Z3r he (l1.trans l2.symm);have hI1:=G5 Ky (jz h1 rfl f1 f2) ha (jz k1 (by rw[f4,g4]) g1 g2) hI;exact ihc h' h2 hc k2 hI1
     ·simp at h'
   ·simp at hr
  |_=>cases a<;>simp[QF]at h
 |un=>
  intro c' q d b b' vs h hv hr hx hI;cases q<;>simp[QF]at h
  subst h;exact hI
 |_=>intro c' q d b b' vs h;cases q<;>simp[QF]at h
theorem z6c{a a':z7}{p:zH}{d:p.den}{b b':Qm}{u:Value}(h:z6d so a p b=some b')(hv:zm w g so a u)(hr:a.w3 so Y=some a')(hx:zm w' gc oc (p.mk d) u)
  (hI:∀j id,yO b j=some id->Ident g gc oc so j id):∀j id,yO b' j=some id->Ident g gc oc so j id:=by
 unfold z6d at h;split at h
 ·rename_i t1 a1 t2 p1;simp only[z7.w3,wO]at hr;obtain⟨a1',hr,_⟩:=hr;obtain⟨cs,⟨x,Du,rfl,h1,h2⟩,h3⟩:=gu hv (by simp) rfl;obtain⟨cs2,⟨x2,cs2',rfl,k1,k2⟩,k3⟩:=gu hx (by simp[zH.mk]) rfl;simp only[Z2l]at h3 k3;rw[h3]at k3;simp only[Value.iface.injEq]at k3;obtain⟨_,rfl⟩:=k3;have zqk:(∃id ep,a1=.ref id [] ep)\/(∃id,a1=.zq id [])\/(∃id,a1=.qV id)\/(∃id ep,a1=.nv false id [] ep):=by
   unfold QH at h;split at h
   ·exact .inl ⟨_,_,rfl⟩
   ·exact .inr (.inl ⟨_,rfl⟩)
   ·exact .inr (.inr (.inl ⟨_,rfl⟩))
   ·exact .inr (.inr (.inr ⟨_,_,rfl⟩))
   ·simp at h
  have hp:(∀y z,p1.mk d≠.pr y z)/\p1.mk d≠.un:=by
   unfold QH at h;split at h
   ·simp[zH.mk]
   ·simp[zH.mk]
   ·simp[zH.mk]
   ·simp[zH.mk]
   ·simp at h
  have ha:(∀y z,a1≠.pr y z)/\a1≠.un:=by
   rcases zqk with⟨_,_,rfl⟩|⟨_,rfl⟩|⟨_,rfl⟩|⟨_,_,rfl⟩<;>simp
  exact G5 h (jz h1 h2 ha.1 ha.2) hr (jz k1 k2 hp.1 hp.2) hI
 ·rename_i f c f' q;obtain⟨hb,h⟩:=j9 h;simp only[z7.w3,wO]at hr;obtain⟨c',hr,_⟩:=hr;obtain⟨cs,⟨vs,rfl,h1⟩,h3⟩:=gu hv (by simp) rfl;obtain⟨cs2,⟨vs2,rfl,k1⟩,k3⟩:=gu hx (by simp[zH.mk]) rfl;simp only[Z2l]at h3 k3;rw[h3]at k3;simp only[Value.func.injEq]at k3;have Gg:vs=vs2:=by
   have:=Jn Array.toList k3.2.2;simpa using this
  subst Gg;exact IB h h1 hr k1 hI
 ·exact G5 h hv hr hx hI
theorem IA{J:St}{all:z7}{vs:List Value}(FW:so=J.z6):(js:List Nat)->(out:List (Nat×zH))->(d:Zp out)->{b b':Qm}->BQ so all js out b=some b'->
  (∀i∈js,∀a,jB all i=some a->(∃a',a.w3 so Y=some a')/\∀u,vs[i]? = some u->zm w g so a u)->
  (∀k i av,zR js k=some i->zR ((vR out d).map Prod.snd) k=some av->∃u,vs[i]? = some u/\zm w' gc oc av u)->
  (∀j id,yO b j=some id->Ident g gc oc so j id)->∀j id,yO b' j=some id->Ident g gc oc so j id
 |[],_,_,b,b',h,_,_,hI=>by
  simp only[BQ,zI]at h
  subst h;exact hI
 |i::l,[],_,b,b',h,_,_,_=>by simp[BQ]at h
 |i::l,(i2,p)::out,d,b,b',h,K8,hex,hI=>by
  simp only[BQ]at h;split at h
  ·rename_i a ha;split at h
   ·rename_i b1 Ky;obtain⟨⟨a',hr⟩,hv⟩:=K8 i (by simp) a ha;obtain⟨u,hu,hx⟩:=hex 0 i (p.mk d.1) rfl rfl;exact IA FW l out d.2 h (λi' wm=>K8 i' (by simp[wm])) (λk i' av h1 h2=>hex (k+1) i' av h1 h2) (z6c Ky (hv u hu) hr hx hI)
   ·simp at h
  ·simp at h
end
end Go.Kz
namespace Go.Kz
variable {R:Type}
theorem Ap{M:List Nat}{E:Nat->Nat×Nat}{j:Nat}{p:zH}{d:p.den}{y:Obj}(h:(j3.Zj p).inst M E j d=some y):∃a',p.inst M E d=some a'/\y=.cell (.jS a'):=by
 simp only[j3.inst]at h
 cases hc:(z7.jS (p.mk d)).wh with
 |false=>rw[hc]at h;simp at h
 |true=>
  rw[hc]at h;simp only[zB,wO]at h;obtain⟨a',h1,h2⟩:=h;exact⟨a',h1,h2.symm⟩
theorem uI{I:Type}:(l:List I)->(i:Nat)->zR l i=l[i]?
 |[],i=>by cases i<;>rfl
 |x::l,0=>rfl
 |x::l,i+1=>by simp only[zR,uI l i];simp
theorem xR{J:St}{ids:List Nat}{b:Qm}:{os:List Obj}->{j0:Nat}->Xf J ids b os j0=true->∀j y id,zR os j=some y->yO b (j0+j)=some id->id∈ids/\sameKind (J.z6 id) y=true
 |[],j0,_,j,y,id,h,_=>by cases j<;>simp[zR]at h
 |o::os,j0,hk,j,y,id,h,hb=>by
  simp only[Xf,zA]at hk
  cases j with
  |zero=>
   simp only[zR,zI]at h;subst h;rw[TE]at hb;have h1:=hk.1;rw[hb]at h1;simp only[zA]at h1
   exact⟨je.1 h1.1,h1.2⟩
  |succ j=>exact xR hk.2 j y id h (by rw[<-hb];congr 1;omega)
theorem QJ{b:Qm}{n:Nat}:{m j0:Nat}->∀j id,zR (xn b n m j0) j=some id->j<m/\(yO b (j0+j)=some id\/(yO b (j0+j)=none/\id=n+(j0+j)))
 |0,j0,j,id,h=>by cases j<;>simp[xn,zR]at h
 |m+1,j0,0,id,h=>by
  simp only[xn,zR,zI]at h;refine⟨by omega,?_⟩;rw[TE];split at h
  ·rename_i i hi;subst h;exact .inl hi
  ·rename_i hi;exact .inr ⟨hi,h.symm⟩
 |m+1,j0,j+1,id,h=>by
  simp only[xn,zR]at h;obtain⟨h1,h2⟩:=QJ (m:=m) j id h;have e:j0+1+j=j0+(j+1):=by omega
  rw[e]at h2;exact⟨by omega,h2⟩
theorem gA{M:List Nat}{E:Nat->Nat×Nat}:(l:List j3)->(d:Vk l)->{j0:Nat}->{os:List Obj}->GF M E l d j0=some os->
  os.length=l.length/\∀j y,zR os j=some y->∃(o:j3)(e:o.den),zR (wC l d) j=some (o.mk e)/\o.inst M E (j0+j) e=some y/\(Qk l=true->o.flat=true)
 |[],d,j0,os,h=>by
  simp only[GF,zI]at h;subst h
  exact⟨rfl,λj y h=>by cases j<;>simp[zR]at h⟩
 |o::l,d,j0,os,h=>by
  simp only[GF]at h;split at h
  ·rename_i x y h1 h2;simp only[zI]at h;subst h;obtain⟨h3,h4⟩:=gA l d.2 h2;refine⟨by simp[h3],λj z hj=>?_⟩
   cases j with
   |zero=>
    simp only[zR,zI]at hj;subst hj
    exact⟨o,d.1,rfl,h1,λh=>by simp only[Qk,zA]at h;exact h.1⟩
   |succ j=>
    obtain⟨o',e,k1,k2,k3⟩:=h4 j z hj;refine⟨o',e,k1,?_,λh=>k3 (by simp only[Qk,zA]at h;exact h.2)⟩;rw[<-k2];congr 1;omega
  ·simp at h
theorem GL:{l:List Nat}->YU l=true->l.Nodup
 |[],_=>by simp
 |x::l,h=>by
  simp only[YU,zA,U0]at h;exact Z2e.2 ⟨jR.1 h.1,GL h.2⟩
theorem CT{I:Type}:{l:List I}->{i:Nat}->l.length<=i->zR l i=none
 |[],i,_=>by cases i<;>rfl
 |_::_,0,h=>by simp at h
 |_::l,i+1,h=>CT (l:=l) (by simpa using h)
theorem WN:(l:List j3)->(d:Vk l)->(wC l d).length=l.length
 |[],_=>rfl
 |_::l,d=>by simp only[wC,BF,WN l]
def Vx(J:St)(i:Nat):Bool:=match J.z6 i with
 |some (.row _ _ _)=>true
 |_=>false
structure jE (w:World) (g:z8) (J:St) (n:Nat) (x:Bool) (ids:List Nat) (b:Qm) (zr:wg) (r:zr.den) (os:List Obj) (w':World) (gc:z8):Prop where
 ext:Ext w (jZ x g ids) w' gc
 heap:yC w' gc (zR (wC zr.z6 r.2))
 ident:∀j id,yO b j=some id->Ident g gc (zR (wC zr.z6 r.2)) J.z6 j id
 inst:GF (xn b n zr.z6.length 0) (G0 J b) zr.z6 r.2 0=some os
 nodup:YU (xn b n zr.z6.length 0)=true
 back:Xf J ids b os 0=true
 fresh:∀m,n<=m->m<n+8->zJ g J m
 len:zr.z6.length<=8
 flat:x=false\/(uu zr.zk=true/\Qk zr.z6=true)
 had:∀i∈ids,J.z6 i≠none
section
variable {nt:Nat}{w:World}{g:z8}{a:Act}{J:St}{n:Nat}{x:Bool}{ids:List Nat}{b:Qm}{zr:wg}{r:zr.den}{os:List Obj}{w':World}{gc:z8}
abbrev jE.M(_:jE w g J n x ids b zr r os w' gc):List Nat:=xn b n zr.z6.length 0
abbrev jE.G(_:jE w g J n x ids b zr r os w' gc):z8:=kW g gc ids (xn b n zr.z6.length 0) w.heap.size (Vx J)
abbrev jE.st(_:jE w g J n x ids b zr r os w' gc):St:=z68 J ids (xn b n zr.z6.length 0) os
theorem jE.idx(H:jE w g J n x ids b zr r os w' gc){j id:Nat}(h:zR H.M j=some id):qC id H.M 0=some j:=by
 have:=Qq (k:=0) (GL H.nodup) h
 rwa [QK]at this
theorem jE.zht(H:jE w g J n x ids b zr r os w' gc){j id:Nat}(h:zR H.M j=some id):(yO b j=some id/\id∈ids)\/(yO b j=none/\id=n+j/\j<8):=by
 obtain⟨h1,h2⟩:=QJ j id h;rw[QK]at h2;rcases h2 with h2|⟨h2,h3⟩
 ·obtain⟨y,hy⟩:=uT (l:=os) (i:=j) (by rw[(gA _ _ H.inst).1];exact h1);exact .inl ⟨h2,(xR H.back j y id hy (by rw[QK];exact h2)).1⟩
 ·exact .inr ⟨h2,h3,by have:=H.len;omega⟩
theorem jE.zal(H:jE w g J n x ids b zr r os w' gc){j id:Nat}(h:zR H.M j=some id):H.st.z6 id=zR os j:=by
 show(match qC id H.M 0 with
  |some j=>zR os j
  |none=>cond (j8 id ids) none (J.z6 id))=_
 rw[H.idx h]
theorem jE.zak(H:jE w g J n x ids b zr r os w' gc){id:Nat}(h:id∉H.M):H.st.z6 id=if id∈ids then none else J.z6 id:=by
 show(match qC id H.M 0 with
  |some j=>zR os j
  |none=>cond (j8 id ids) none (J.z6 id))=_
 rw[YL h]
 cases hm:j8 id ids with
 |true=>simp[je.1 hm]
 |false=>simp[jR.1 hm]
theorem jE.new(H:jE w g J n x ids b zr r os w' gc){id:Nat}(h:J.z6 id≠none){j:Nat}(hm:zR H.M j=some id):yO b j=some id/\id∈ids:=by
 rcases H.zht hm with h1|⟨_,rfl,h2⟩
 ·exact h1
 ·exact absurd (H.fresh _ (by omega) (by omega)).z6 h
theorem jE.bk(H:jE w g J n x ids b zr r os w' gc):Bk gc H.G (zR (wC zr.z6 r.2)) H.st.z6 H.M (G0 J b):=by
 obtain⟨hlen,wG⟩:=gA _ _ H.inst;refine⟨λj id hm y' hy=>?_,λj id hm t l ho=>?_,λj id hm t l ho p=>?_,λj id hm=>?_,λb j p id hb hm=>z63 H.ext hb hm,λb j id hb hm=>z65 H.ext hb hm⟩
 ·rw[H.zal hm]at hy;obtain⟨o,e,h1,h2,_⟩:=wG j y' hy;rw[QK]at h2;refine⟨_,h1,?_⟩
  cases o with
  |row t=>simp only[j3.inst,zI]at h2;exact .inl ⟨t,e,rfl,h2.symm⟩
  |cell p=>
   simp only[j3.inst,wO]at h2;obtain⟨a',h2,rfl⟩:=h2
   exact .inr (.inl ⟨_,a',rfl,rfl,Ws p h2⟩)
  |map kt vt=>simp only[j3.inst,zI]at h2;exact .inr (.inr (.inl ⟨kt,vt,e,rfl,h2.symm⟩))
  |nest t=>simp only[j3.inst,zI]at h2;exact .inr (.inr (.inr ⟨t,e,rfl,h2.symm⟩))
  |iter Gk=>simp[j3.inst]at h2
  |Zj p=>
   obtain⟨a',h2b,rfl⟩:=Ap h2;exact .inr (.inl ⟨_,_,rfl,rfl,by simp only[z7.sk];exact Ws p h2b⟩)
 ·show(match qC id H.M 0 with
   |some j=>if Vx J id then g.sv id [] else gc.sv j []
   |none=>g.sv id [])=_
  rw[H.idx hm];simp only;split
  ·rename_i hk;unfold Vx at hk;split at hk
   ·rename_i t' l' e' zp;obtain⟨h1,_⟩:=H.new (by rw[zp];simp) hm;exact((H.ident j id h1).1 t l ho t' l' e' zp).symm
   ·simp at hk
  ·rfl
 ·show(match qC id H.M 0 with
   |some j=>if Vx J id then g.sv id p else gc.sv j p
   |none=>g.sv id p)=_
  rw[H.idx hm];simp only;split
  ·rename_i hk;exfalso;unfold Vx at hk;split at hk
   ·rename_i t' l' e' zp;obtain⟨h1,_⟩:=H.new (by rw[zp];simp) hm;obtain⟨y,hy⟩:=uT (l:=os) (i:=j) (by rw[hlen];exact(QJ j id hm).1);have hs:=(xR H.back j y id hy (by rw[QK];exact h1)).2;obtain⟨o,e,h3,h4,_⟩:=wG j y hy;rw[h3]at ho
    cases o with
    |nest t=>simp only[j3.inst,zI]at h4;subst h4;rw[zp]at hs;simp[sameKind]at hs
    |row t=>simp[j3.mk]at ho
    |cell p=>simp[j3.mk]at ho
    |map kt vt=>simp[j3.mk]at ho
    |iter Gk=>simp[j3.mk]at ho
    |Zj p=>simp[j3.mk]at ho
   ·simp at hk
  ·rfl
 ·show(match qC id H.M 0 with
   |some j=>gc.qp j
   |none=>g.qp id)=_
  rw[H.idx hm]
theorem jE.carry(H:jE w g J n x ids b zr r os w' gc):zT w' gc w' H.G\/(uu zr.zk=true/\Qk zr.z6=true):=by
 rcases H.flat with h|h
 ·left;have he:=H.ext;rw[h]at he;exact Ma he
 ·exact .inr h
theorem jE.kept(H:jE w g J n x ids b zr r os w' gc)(zj:zU nt g w a J)(id:Nat)(h:J.z6 id≠none\/id<n\/n+8<=id):qq g H.G id (J.z6 id) (H.st.z6 id):=by
 by_cases hM:id∈H.M
 ·obtain⟨j,hm⟩:∃j,zR H.M j=some id:=by
   obtain⟨j,hj,he⟩:=Gz.1 hM;exact⟨j,by rw[uI,uX hj,he]⟩
  rcases H.zht hm with⟨h1,h2⟩|⟨h1,rfl,h2⟩
  ·rw[H.zal hm];obtain⟨hlen,wG⟩:=gA _ _ H.inst;obtain⟨y,hy⟩:=uT (l:=os) (i:=j) (by rw[hlen];exact(QJ j id hm).1);rw[hy];obtain⟨_,hs⟩:=xR H.back j y id hy (by rw[QK];exact h1);obtain⟨o,e,h3,h4,_⟩:=wG j y hy;rw[QK]at h4;have hid:=H.ident j id h1;have Kq:=H.bk;have zpw:=H.heap.z6 j _ h3
   cases FW:J.z6 id with
   |none=>exact absurd FW (H.had id h2)
   |some so=>
    rw[FW]at hs;have uK:=zj.heap.z6 id _ FW
    have hE:G0 J b j=(match so with
     |.row _ _ e=>(e,0)
     |.nest _ _ e i _=>(e,i+1)
     |_=>(0,0)):=by
     cases so<;>simp[G0,h1,FW]
    cases o with
    |row t=>
     simp only[j3.inst,zI]at h4;subst h4
     cases so with
     |row u l e0=>
      simp only[sameKind,Z37]at hs;obtain⟨hs,_⟩:=hs;obtain rfl:=hs.down;have yZ:=hid.1 _ _ h3 _ _ _ FW;simp only at hE;refine .inr (.inl ⟨u,l,e,e0,(G0 J b j).1,rfl,rfl,.inr ⟨by rw[hE],?_,λp=>?_⟩⟩)
      ·obtain⟨_,a1,c1,_,q1,_⟩:=uK;obtain⟨_,a2,c2,_,q2,_⟩:=zpw;rw[<-yZ,q2]at q1;simp only[Value.slice.injEq]at q1;exact q1.2.1
      ·show(match qC id H.M 0 with
        |some j=>if Vx J id then g.sv id p else gc.sv j p
        |none=>g.sv id p)=_
       rw[H.idx hm]
       simp[Vx,FW]
     |_=>simp[sameKind]at hs
    |cell p=>
     simp only[j3.inst,wO]at h4;obtain⟨a',h4,rfl⟩:=h4
     cases so with
     |cell a0=>
      simp only[sameKind]at hs;refine .inr (.inr (.inl ⟨a0,a',rfl,rfl,Sk.qQ hs,?_⟩));rw[Kq.qp j id hm]
      exact hid.2.1 _ h3 _ FW
     |_=>simp[sameKind]at hs
    |map kt vt=>
     simp only[j3.inst,zI]at h4;subst h4
     cases so with
     |map Ay X6 m0=>
      simp only[sameKind,zA,Z37]at hs;obtain⟨⟨e1,_⟩,⟨e2,_⟩⟩:=hs;obtain rfl:=e1.down;obtain rfl:=e2.down;refine .inr (.inr (.inr (.inl ⟨_,_,m0,e,rfl,rfl,?_⟩)));rw[Kq.qp j id hm]
      exact hid.2.2.1 _ _ _ h3 _ _ _ FW
     |_=>simp[sameKind]at hs
    |nest t=>
     simp only[j3.inst,zI]at h4;subst h4
     cases so with
     |nest u l e0 i0 hole=>
      cases hole with
      |some p=>simp[sameKind]at hs
      |none=>
       simp only[sameKind,Z37]at hs;obtain⟨hs,_⟩:=hs;obtain rfl:=hs.down;have yZ:=hid.2.2.2 _ _ h3 _ _ _ _ _ FW;simp only at hE;refine .inr (.inr (.inr (.inr ⟨u,l,e,e0,(G0 J b j).1,i0,(G0 J b j).2,none,none,rfl,rfl,by rw[hE];exact yH _,by rw[hE];exact Z1h _,λ_=>?_,λhi=>?_⟩)))
       ·rw[Kq.svn j id hm _ _ h3 []];exact yZ
       ·rw[hE]at hi;simp at hi
     |_=>simp[sameKind]at hs
    |iter Gk=>simp[j3.inst]at h4
    |Zj p=>
     obtain⟨a',h4b,rfl⟩:=Ap h4
     cases so with
     |cell a0=>
      simp only[sameKind]at hs;refine .inr (.inr (.inl ⟨a0,_,rfl,rfl,Sk.qQ hs,?_⟩));rw[Kq.qp j id hm]
      exact hid.2.1 _ h3 _ FW
     |_=>simp[sameKind]at hs
  ·exfalso;rcases h with h|h|h
   ·exact h (H.fresh _ (by omega) (by omega)).z6
   ·omega
   ·omega
 ·rw[H.zak hM];by_cases hi:id∈ids
  ·rw[yX hi];exact .inl rfl
  ·rw[qW hi]
   cases ho:J.z6 id with
   |none=>exact .inl rfl
   |some o=>exact qq.same (DW H.ext zj.heap.tags hi hM)
end
end Go.Kz
namespace Go.Kz
variable {R:Type}
section
variable {nt:Nat}{w:World}{g:z8}{a:Act}{J:St}{n:Nat}{x:Bool}{ids:List Nat}{b:Qm}{zr:wg}{r:zr.den}{os:List Obj}{w':World}{gc:z8}
theorem jE.notM(H:jE w g J n x ids b zr r os w' gc){m:Nat}(hm:m<n\/n+8<=m)(hf:zJ g J m):m∉H.M:=by
 intro hM;obtain⟨j,hj,he⟩:=Gz.1 hM;rcases H.zht (j:=j) (id:=m) (by rw[uI,uX hj,he]) with⟨_,h2⟩|⟨_,rfl,_⟩
 ·exact H.had m h2 hf.z6
 ·omega
theorem jE.ok(H:jE w g J n x ids b zr r os w' gc)(zj:zU nt g w a J):zU nt H.G w' a H.st:=by
 have qY:=zdg (M:=H.M) (vE:=Vx J) H.ext zj.heap.tags;have zp4:∀m,¬zJ g J m->J.z6 m≠none\/m<n\/n+8<=m:=by
  intro m hm;by_cases h:n<=m/\m<n+8
  ·exact absurd (H.fresh m h.1 h.2) hm
  ·right;omega
 refine⟨λi av hi=>?_,⟨λid y hy=>?_,λb hb=>T1 H.ext H.heap.tags b hb⟩,zj.size,zj.defers,zj.known.kept qY⟩
 ·obtain⟨v,h1,h2⟩:=zj.zk i av hi;exact⟨v,h1,zm.frame qY (λid hid=>H.kept zj id (zp4 id λhf=>hf.zk i av hi hid)) h2⟩
 ·by_cases hM:id∈H.M
  ·obtain⟨j,hj,he⟩:=Gz.1 hM;have hm:zR H.M j=some id:=by rw[uI,uX hj,he]
   rw[H.zal hm]at hy;obtain⟨_,wG⟩:=gA _ _ H.inst;obtain⟨o,e,h3,h4,h5⟩:=wG j y hy;rw[QK]at h4;exact z2v H.bk hm (H.carry.imp _root_.id λh=>h5 h.2) h3 h4 (H.heap.z6 j _ h3)
  ·rw[H.zak hM]at hy;by_cases hi:id∈ids
   ·rw[yX hi]at hy;simp at hy
   ·rw[qW hi]at hy;refine zn.frame qY (DW H.ext zj.heap.tags hi hM) (λav ha vF Mk=>H.kept zj vF (zp4 vF λhf=>?_)) (zj.heap.z6 id y hy);subst ha;exact hf.cells id av hy Mk
theorem jE.free(H:jE w g J n x ids b zr r os w' gc){m:Nat}(hm:m<n\/n+8<=m)(hf:zJ g J m):zJ H.G H.st m:=by
 have hM:=H.notM hm hf;have zfj:∀{t:Tag},((∃p,QE H.M t=.row m p)\/QE H.M t=.box m)->False:=by
  intro t ht
  cases t with
  |zt=>simp[QE]at ht
  |ro=>simp[QE]at ht
  |row j p=>
   simp only[QE]at ht
   cases hj:zR H.M j with
   |none=>simp[hj]at ht
   |some id=>simp[hj]at ht;subst ht;exact hM (jo hj)
  |box j=>
   simp only[QE]at ht
   cases hj:zR H.M j with
   |none=>simp[hj]at ht
   |some id=>simp[hj]at ht;subst ht;exact hM (jo hj)
 refine⟨?_,λbb p hb=>?_,λbb hb=>?_,hf.zk,λid av ho hmem=>?_⟩
 ·rw[H.zak hM,hf.z6];split<;>rfl
 ·rcases xW (M:=H.M) (vE:=Vx J) H.ext bb with⟨_,h1,_⟩|⟨h1,_⟩
  ·exact hf.row bb p (h1.symm.trans hb)
  ·exact zfj (.inl ⟨p,h1.symm.trans hb⟩)
 ·rcases xW (M:=H.M) (vE:=Vx J) H.ext bb with⟨_,h1,_⟩|⟨h1,_⟩
  ·exact hf.box bb (h1.symm.trans hb)
  ·exact zfj (.inr (h1.symm.trans hb))
 ·by_cases hI:id∈H.M
  ·obtain⟨j,hj,he⟩:=Gz.1 hI;have hmj:zR H.M j=some id:=by rw[uI,uX hj,he]
   rw[H.zal hmj]at ho;obtain⟨_,wG⟩:=gA _ _ H.inst;obtain⟨o,e,h3,h4,h5⟩:=wG j _ ho
   cases o with
   |cell p=>
    simp only[j3.inst,wO,Obj.cell.injEq]at h4;obtain⟨a',h4,rfl⟩:=h4
    exact hM ((wz p h4).2.2.2.2 m hmem)
   |Zj p=>
    obtain⟨a',h4b,h6⟩:=Ap h4;simp only[Obj.cell.injEq]at h6;subst h6
    exact hM ((wz p h4b).2.2.2.2 m (by simpa[z7.ids]using hmem))
   |_=>simp[j3.inst]at h4
  ·rw[H.zak hI]at ho;by_cases hi:id∈ids
   ·rw[yX hi]at ho;simp at ho
   ·rw[qW hi]at ho;exact hf.cells id av ho hmem
theorem XZ{M:List Nat}{E:Nat->Nat×Nat}:(l:List (Nat×zH))->(d:Zp l)->{vs:List z7}->gS M E l d=some vs->∀m,m∈(vw vs).ids->m∈M
 |[],d,vs,h,m,hm=>by
  simp only[gS,zI]at h;subst h
  simp[vw,z7.ids]at hm
 |(i,p)::l,d,vs,h,m,hm=>by
  simp only[gS]at h;split at h
  ·rename_i a vs' h1 h2;simp only[zI]at h;subst h;simp only[vw,z7.ids,Gx]at hm;rcases hm with hm|hm
   ·exact(wz p h1).2.2.2.2 m hm
   ·exact XZ l d.2 h2 m hm
  ·simp at h
theorem Bj:(n:Nat)->(l:List z7)->∀m,m∈(vw (gD n l)).ids->m∈(vw l).ids
 |0,_,_,h=>h
 |_+1,[],_,h=>h
 |n+1,a::l,m,h=>by
  simp only[gD]at h;simp only[vw,z7.ids,Gx];exact .inr (Bj n l m h)
theorem LL(l:List z7)(m:Nat)(h:m∈(gJ l).ids):m∈(vw l).ids:=by
 match l,h with
 |[],h=>simp[gJ,z7.ids,vw]at h
 |[a],h=>simp only[vw,z7.ids,Gx];exact .inl h
 |a::c::l,h=>exact h
theorem CG{G:z8}{oc o':qZ}{M:List Nat}{E:Nat->Nat×Nat}(hb:Bk gc G oc o' M E):(l:List (Nat×zH))->(d:Zp l)->{vs:List z7}->{us:List Value}->(zT w gc w G\/uu l=true)->gS M E l d=some vs->
  qx w gc oc (vw ((vR l d).map Prod.snd)) us->qx w G o' (vw vs) us
 |[],d,vs,us,_,h,hv=>by
  simp only[gS,zI]at h;subst h
  simpa[vR,vw,qx]using hv
 |(i,p)::l,d,vs,us,hf,h,hv=>by
  simp only[gS]at h;split at h
  ·rename_i a vs' h1 h2;simp only[zI]at h;subst h;simp only[vR,PE,vw,qx]at hv⊢;obtain⟨v,rest,rfl,k1,k2⟩:=hv;exact⟨v,rest,rfl,HF hb (hf.imp _root_.id λh=>by simp only[uu,zA]at h;exact h.1) h1 k1,
    CG hb l d.2 (hf.imp _root_.id λh=>by simp only[uu,zA]at h;exact h.2) h2 k2⟩
  ·simp at h
theorem Xx{G:z8}{oc o':qZ}{M:List Nat}{E:Nat->Nat×Nat}(hb:Bk gc G oc o' M E):(k:Nat)->(l:List (Nat×zH))->(d:Zp l)->{vs:List z7}->{u:Value}->(zT w gc w G\/uu l=true)->gS M E l d=some vs->
  zm w gc oc (gJ (gD k ((vR l d).map Prod.snd))) u->zm w G o' (gJ (gD k vs)) u
 |0,l,d,vs,u,hf,h,hv=>by
  simp only[gD]at hv⊢
  match l,d,hf,h,hv with
  |[],d,hf,h,hv=>
   simp only[gS,zI]at h;subst h
   simpa[vR,gJ,vw,zm,qx]using hv
  |[(i,p)],d,hf,h,hv=>
   simp only[gS]at h;split at h
   ·rename_i a vs' h1 h2;simp only[zI]at h h2;subst h2;subst h;simp only[vR,PE,Z3c,gJ]at hv⊢;exact HF hb (hf.imp _root_.id λh=>by simp only[uu,zA]at h;exact h.1) h1 hv
   ·simp at h
  |(i,p)::(i2,p2)::l,d,hf,h,hv=>
   have hlen:∃a1 a2 vs',vs=a1::a2::vs':=by
    simp only[gS]at h;split at h
    ·rename_i a vs' h1 h2;split at h2
     ·simp only[zI]at h h2;subst h2;subst h;exact⟨_,_,_,rfl⟩
     ·simp at h2
    ·simp at h
   obtain⟨a1,a2,vs',rfl⟩:=hlen;have jl:zm w gc oc (.jS (vw ((vR ((i,p)::(i2,p2)::l) d).map Prod.snd))) u:=hv;show zm w G o' (.jS (vw (a1::a2::vs'))) u;simp only[zm]at jl⊢;obtain⟨us,rfl,jl⟩:=jl
   exact⟨us,rfl,CG hb _ d hf h jl⟩
 |k+1,[],d,vs,u,hf,h,hv=>by
  simp only[gS,zI]at h;subst h
  simpa[vR,gD,gJ,vw,zm,qx]using hv
 |k+1,(i,p)::l,d,vs,u,hf,h,hv=>by
  simp only[gS]at h;split at h
  ·rename_i a vs' h1 h2;simp only[zI]at h;subst h;simp only[vR,PE,gD]at hv⊢;exact Xx hb k l d.2 (hf.imp _root_.id λh=>by simp only[uu,zA]at h;exact h.2) h2 hv
  ·simp at h
end
end Go.Kz
namespace Go.Kz
variable {R:Type}
theorem Bx{l:List (Nat×zH)}:{an:List Nat}->BZ l an=true->∀i∈an,∃p,zR l i=some p/\p.2.isVal=false
 |[],_,i,h=>by simp at h
 |j::an,hk,i,h=>by
  simp only[BZ,zA]at hk;rcases pF.1 h with rfl|h
  ·have h1:=hk.1;split at h1
   ·rename_i k p hp;exact⟨_,hp,by simpa using h1⟩
   ·simp at h1
  ·exact Bx hk.2 i h
section
variable {P:Program}{o:Oper}{a:Act}{w:World}{K:Act->World->Prop}{Q:Exit->Act->World->Prop}{c:Ctx}{J:St}{g:z8}{k:St->Option R}{r:R}{base:Nat}
theorem R4{n:Nat}{J:St}{i:Nat}{x:z7}(zj:zU n g w a J)(ho:J.z6 i=some (.cell x))(p9:(z7.jS x).wh=true):
  ∃g',zU n g' w a (J.setObj i (.cell (.jS x)))/\Ext w g w g'/\zT w g w g'/\(∀m,zJ g J m->zJ g' (J.setObj i (.cell (.jS x))) m)/\
   ∀j,qq g g' j (J.z6 j) ((J.setObj i (.cell (.jS x))).z6 j):=by
 obtain⟨c,e,h1,h2,h3⟩:=(zj.heap.z6 i _ ho).out (HE p9);let g':z8:={ g with tag:=λb=>if b=g.qp i then .ro else g.tag b };have qY:zT w g w g':=⟨λb hb=>⟨by simp only[g'];split<;>first|rfl|exact hb,rfl⟩⟩;have kI:∀j,j≠i->xC w g w g' j:=λj hj=>by
  refine⟨⟨λq=>rfl,λq b hb=>⟨?_,rfl⟩⟩,rfl,λhb=>⟨?_,rfl⟩⟩
  ·simp only[g'];rw[qW (λhe=>by subst he;rw[h2]at hb;simp at hb)];exact hb
  ·simp only[g'];rw[qW (λhe=>by rw[he,h2]at hb;simp only[Tag.box.injEq]at hb;exact hj hb.symm)];exact hb
 have hki:qq g g' i (J.z6 i) (some (.cell (.jS x))):=.inr (.inr (.inl ⟨_,_,ho,rfl,rfl,rfl⟩));have hk:∀j,qq g g' j (J.z6 j) ((J.setObj i (.cell (.jS x))).z6 j):=by
  intro j;by_cases hj:j=i
  ·subst hj;simp only[St.setObj,zO];exact hki
  ·simp only[St.setObj];rw[zf _ _ hj];exact qq.same (kI j hj)
 refine⟨g',zj.pg qY kI (.inl hki) ((zn.Zj p9).2 ⟨c,e,h1,by simp[g'],jM.frame qY (λj _=>hk j) h3⟩) (λb hb=>?_),?_,qY,λm hm=>?_,hk⟩
 ·simp only[g']at hb;split at hb
  ·rename_i he;subst he;exact zj.heap.tags _ (by rw[h2];simp)
  ·exact zj.heap.tags b hb
 ·refine⟨rfl,rfl,rfl,yH _,yH _,λb _ hb=>⟨rfl,?_⟩⟩;simp only[g'];rw[qW (λhe=>by subst he;rw[h2]at hb;simp at hb)]
 ·have hmi:m≠i:=λhe=>by subst he;have:=hm.z6;rw[ho]at this;simp at this
  refine⟨by simp only[St.setObj];rw[zf _ _ hmi];exact hm.z6,λb p hb=>?_,λb hb=>?_,hm.zk,λj av hj=>?_⟩
  ·simp only[g']at hb;split at hb
   ·simp at hb
   ·exact hm.row b p hb
  ·simp only[g']at hb;split at hb
   ·simp at hb
   ·exact hm.box b hb
  ·by_cases Uz:j=i
   ·subst Uz;simp only[St.setObj,zO,zI,Obj.cell.injEq]at hj;subst hj;have:=hm.cells j _ ho;simpa[z7.ids]using this
   ·simp only[St.setObj]at hj;rw[zf _ _ Uz]at hj;exact hm.cells j av hj
theorem F6{n:Nat}:(os:List j3)->(is:List Nat)->{J:St}->{g:z8}->{k:St->Option R}->{r:R}->zU n g w a J->C1 os is J k=some r->
  ∃J' g',k J'=some r/\zU n g' w a J'/\Ext w g w g'/\zT w g w g'/\(∀m,zJ g J m->zJ g' J' m)/\J'.next=J.next/\∀al vs,qx w g J.z6 al vs->qx w g' J'.z6 al vs
 |[],is,J,g,k,r,zj,h=>⟨J,g,by cases is<;>simpa[C1]using h,zj,Ext.refl w g,⟨λb hb=>⟨hb,rfl⟩⟩,λm hm=>hm,rfl,λ_ _ h=>h⟩
 |o::os,[],J,g,k,r,zj,h=>⟨J,g,by cases o<;>simpa[C1]using h,zj,Ext.refl w g,⟨λb hb=>⟨hb,rfl⟩⟩,λm hm=>hm,rfl,λ_ _ h=>h⟩
 |o::os,i::is,J,g,k,r,zj,h=>by
  have plain:C1 os is J k=some r->∃J' g',k J'=some r/\zU n g' w a J'/\Ext w g w g'/\zT w g w g'/\(∀m,zJ g J m->zJ g' J' m)/\J'.next=J.next/\∀al vs,qx w g J.z6 al vs->qx w g' J'.z6 al vs:=λh=>F6 os is zj h
  cases o with
  |Zj p=>
   simp only[C1]at h;split at h
   ·rename_i x ho
    cases p9:(z7.jS x).wh with
    |false=>rw[p9]at h;exact plain h
    |true=>
    rw[p9]at h;simp only[zB]at h;obtain⟨g1,h1,h2,h2r,h3,h4⟩:=R4 zj ho p9;obtain⟨J',g',k1,k2,k3,k3r,k4,k5,k6⟩:=F6 os is h1 h;exact⟨J',g',k1,k2,h2.trans k3,⟨λb hb=>let z:=k3r.qp b (h2r.qp b hb).1;⟨z.1,rfl⟩⟩,λm hm=>k4 m (h3 m hm),k5,λal vs hv=>k6 al vs (qx.frame h2r (λj _=>h4 j) hv)⟩
   ·exact plain h
  |row _=>exact plain h
  |cell _=>exact plain h
  |map _ _=>exact plain h
  |nest _=>exact plain h
  |iter _=>exact plain h
theorem Hq:(l:List j3)->(d:Vk l)->{j:Nat}->{o:j3}->zR l j=some o->∃e:o.den,zR (wC l d) j=some (o.mk e)
 |o::l,d,0,o',h=>by
  simp only[zR,zI]at h;subst h
  exact⟨d.1,rfl⟩
 |o::l,d,j+1,o',h=>Hq l d.2 h
 |[],_,j,o',h=>by cases j<;>simp[zR]at h
theorem Ko{so:qZ}{ids:List Nat}{g gc:z8}{w w':World}{xx:Bool}{fo:List j3}{fd:Vk fo}(hh:yC w g so)(qf:Ext w (jZ xx g ids) w' gc)(vb:yC w' gc (zR (wC fo fd)))
  (Ex:∀id o,id∈ids->so id=some o->∃o',o.w3 so (λi=>qC i ids 0)=some o') :
  (l:Qm)->{b b':Qm}->IW so ids fo l b=some b'->(∀j id,yO b j=some id->Ident g gc (zR (wC fo fd)) so j id)->∀j id,yO b' j=some id->Ident g gc (zR (wC fo fd)) so j id
 |[],b,b',h,hI=>by
  simp only[IW,zI]at h
  subst h;exact hI
 |(j,_)::l,b,b',h,hI=>by
  simp only[IW]at h;split at h
  ·rename_i id hj;split at h
   ·rename_i q x hq ho;have hm:=(j9 h).1;replace h:=(j9 h).2;simp only[zA]at hm;obtain⟨hm,p9⟩:=hm;split at h
    ·rename_i b1 Ky;obtain⟨d,hd⟩:=Hq fo fd hq;have Ho:(z7.jS (q.mk d)).wh=true:=by
      unfold z6b at Ky;split at Ky
      ·rfl
      ·rfl
      ·simp at Ky
     obtain⟨c,e,h1,h2,h3⟩:=(zn.Zj p9).1 (hh.z6 id _ ho);obtain⟨c',e',k1,k2,k3⟩:=(zn.Zj Ho).1 (vb.z6 j _ hd);have hblk:=(hI j id hj).2.1 _ hd _ ho;rw[hblk]at k1;have qk:=hh.tags (g.qp id) (by rw[h2];simp);have PJ:=(qf.vE (g.qp id) qk (.inr ((Wm (w:=w) (x:=xx)).qp _ ((xN (w:=w) (ids:=ids)).qp _ h2).1).1)).1;rw[PJ,h1]at k1;simp only[zI,Go.Obj.cells.injEq]at k1;obtain⟨rfl,_⟩:=k1;obtain⟨o',hr⟩:=Ex id _ (je.1 hm) ho;simp only[Obj.w3,xm,wO]at hr;obtain⟨y1,⟨y2,hr,_⟩,_⟩:=hr;unfold z6b at Ky;split at Ky
     ·simp only[z7.w3,wO]at hr;obtain⟨y3,hr,_⟩:=hr;exact Ko hh qf vb Ex l h (IB Ky h3 hr k3 hI)
     ·exact Ko hh qf vb Ex l h (G5 Ky (jz h3 rfl (by simp) (by simp)) hr (jz k3 rfl (by simp[zH.mk]) (by simp[zH.mk])) hI)
     ·simp at Ky
    ·simp at h
   ·exact Ko hh qf vb Ex l h hI
  ·exact Ko hh qf vb Ex l h hI
theorem zae{fid:Nat}{all:z7}{vals:List Value}{fin:wg}{js:List Nat}{zr:wg}{F:fin.den->Option zr.den}(hco:qL P fid (.mut fin js zr F))
  (ze:(execOp a.eval o).run P w=(callFunc fid vals.toArray).run P w) (hall:qx w g J.z6 all vals) (zj:zU c.ntmps g w a J) (vO:∀m,base<=m->m<base+8->zJ g J m)
  (h:(cond (vV all&&Aj fin.zk 0&&BZ fin.zk js&&(Q8 fin.zk all||(uu zr.zk&&Qk zr.z6))&&Nat.ble zr.z6.length 8)
  (match (BQ J.z6 all js zr.zk []).bind λb=>IW J.z6 (kO J.z6 100 (pC fin.zk all) []) zr.z6 b b with
   |some b=>z29 J all fin (kO J.z6 100 (pC fin.zk all) []) λd=>(F d).bind λr=>Ls J base (kO J.z6 100 (pC fin.zk all) []) b js zr r λv J=>J.qo c o.dst v k
   |none=>none) none)=some r) (hK:vY c.ntmps k r g w J base true K):o.wp P a w K Q:=by
 replace h:=j9 h;obtain⟨hb,h⟩:=h;simp only[zA,FX]at hb;obtain⟨⟨⟨⟨hval,zq7⟩,zqz⟩,z4b⟩,hlen⟩:=hb;have hlen:=zL hlen;split at h
 ·rename_i b zjb;obtain⟨b0,hb0,Ky⟩:=WZ.1 zjb;generalize gI:kO J.z6 100 (pC fin.zk all) []=ids at h Ky;have hnd:ids.Nodup:=by rw[<-gI];exact uF _ _ _ (by simp)
  unfold z29 at h;split at h
  ·rename_i os Tg;obtain⟨hol,hog⟩:=Q3 Tg;have qY:Jo J.z6 ids os:=⟨hol,hog⟩;obtain⟨xx,hxx,hxf⟩:∃xx:Bool,(xx=true\/Q8 fin.zk all=true)/\(xx=false\/(uu zr.zk=true/\Qk zr.z6=true)):=by
    rcases z4b with hf|hf
    ·exact⟨false,.inr hf,.inl rfl⟩
    ·exact⟨true,.inl rfl,.inr hf⟩
   obtain⟨d,h,hsl,Ex,Au⟩:=Xs (x:=xx) hnd qY zj.heap fin.zk zq7 hval hxx hall h;obtain⟨e,he,h9⟩:=xO fin.z6 h;subst he;simp only[WZ]at h9;obtain⟨rv,hF,h8⟩:=h9;replace h:=h8;have zp:∀j o',zR (wC fin.z6 e) j=some o'->zn w (kg g ids) (zR (wC fin.z6 e)) j o'/\∀y,o'=.cell y->∀m∈y.ids,m<ids.length:=by
    intro j o' hj;obtain⟨i,hi⟩:=uT (l:=ids) (i:=j) (by rw[<-hol];exact wa hj);obtain⟨o,o2,h1,h2,h3⟩:=hog j i hi;rw[hj]at h3;simp only[zI]at h3;subst h3;exact NY hnd qY hi h2 (zj.heap.z6 i o h1)
   have zpv:fin.z6.length=ids.length:=by rw[<-hol,WN]
   have K8:zU vals.length (jZ xx g ids) w ⟨vals.toArray,[]⟩ (St.of (vR fin.zk d) (wC fin.z6 e)):=by
    refine⟨λi av hi=>?_,⟨λj o' hj=>?_,λbb hbb=>zj.heap.tags bb (HB hbb)⟩,by simp,rfl,(zj.known.kept xN).kept Wm⟩
    ·obtain⟨_,v,h2,h3,_⟩:=hsl i av hi;exact⟨v,by simpa using h2,h3⟩
    ·exact zn.frame Wm (A6 j) (λ_ _ vF _=>A7 vF _) (zp j o' hj).1
   have VY:∀m,fin.z6.length<=m->zJ (jZ xx g ids) (St.of (vR fin.zk d) (wC fin.z6 e)) m:=by
    intro m hm;rw[zpv]at hm;refine⟨?_,λbb p hbb=>?_,λbb hbb=>?_,λi av hi hmem=>?_,λj y hj hmem=>?_⟩
    ·exact CT (by rw[WN,zpv];exact hm)
    ·have:=HA (.inl ⟨p,hbb⟩);omega
    ·have:=HA (.inr hbb);omega
    ·obtain⟨_,v,_,_,h4⟩:=hsl i av hi;have:=h4 m hmem;omega
    ·have:=(zp j _ hj).2 y rfl m hmem;omega
   have Qj:∀v w',(∃g',Ext w (jZ xx g ids) w' g'/\yC w' g' (zR (wC zr.z6 rv.2))/\
     (∀k i av,zR js k=some i->zR ((vR zr.zk rv.1).map Prod.snd) k=some av->∃u,vals[i]? = some u/\zm w' g' (zR (wC zr.z6 rv.2)) av u)/\
     zm w' g' (zR (wC zr.z6 rv.2)) (gJ (gD js.length ((vR zr.zk rv.1).map Prod.snd))) v)->K (a.put o.dst v) w':=by
    intro v w' ⟨gc,qf,vb,hex,Ve⟩;unfold Ls at h;split at h
    ·rename_i os' vs zz2 Gg;replace h:=j9 h;obtain⟨wU,h⟩:=h;simp only[zA]at wU;have zzt:=IA (so:=J.z6) (g:=g) (gc:=gc) (w:=w) (w':=w') (oc:=zR (wC zr.z6 rv.2)) (Y:=λi=>qC i ids 0) (vs:=vals) rfl js zr.zk rv.1 hb0 (λi hi av Pr=>by
      obtain⟨p,hp1,hp2⟩:=Bx zqz i hi;obtain⟨u,FV,hu2,_⟩:=VX hall Pr;refine⟨Ex i av p Pr hp1 hp2,λu' hu'=>?_⟩;rw[FV]at hu';simp only[zI]at hu';subst hu';exact hu2) hex (λj id hj=>by simp[yO]at hj)
     have hid:=Ko (fd:=rv.2) zj.heap qf vb (λid o hid ho=>by
      obtain⟨j,hj,he⟩:=Gz.1 hid;obtain⟨o1,o2,h1,h2,_⟩:=hog j id (by rw[uI,uX hj,he]);rw[ho]at h1;simp only[zI]at h1;subst h1;exact⟨o2,h2⟩) b0 Ky zzt
     have H:jE w g J base xx ids b zr rv os' w' gc:=⟨qf,vb,hid,zz2,wU.1,wU.2,vO,hlen,hxf,λi hi=>by
      obtain⟨j,hj,he⟩:=Gz.1 hi;obtain⟨o1,_,h1,_⟩:=hog j i (by rw[uI,uX hj,he]);rw[h1];simp⟩
     refine z5s (w:=w) (g:=g) (H.ok zj) (IX qf) (λm hm hf=>⟨H.free hm hf,λhmem=>?_⟩) rfl ?_ h (λhh=>by simp at hh) hK
     ·exact H.notM hm hf (XZ _ _ Gg m (Bj _ _ m (LL _ m hmem)))
     ·exact Xx H.bk js.length zr.zk rv.1 (H.carry.imp _root_.id λh=>h.1) Gg Ve
    ·simp at h
   rcases hco w (jZ xx g ids) (d,e) vals rv Au K8 VY hF with⟨FK,Bm⟩|⟨v,w',FK,Bm⟩
   ·unfold Oper.wp;rw[ze,FK,Oper.upon_enter];refine Calls.mono Bm (λe' w' he=>?_);obtain⟨v,rfl,hv⟩:=he;exact Qj v w' hv
   ·unfold Oper.wp;rw[ze,FK,Oper.upon_value];exact Qj v w' Bm
  ·simp at h
 ·simp at h
theorem S6(Hl:BA P c.env){fid:Nat}{all:z7}{vals:List Value}(ze:(execOp a.eval o).run P w=(callFunc fid vals.toArray).run P w)(hall:qx w g J.z6 all vals)
  (zj:zU c.ntmps g w a J) (vO:∀m,base<=m->m<base+8->zJ g J m)
  (h:(match Pp all (c.env fid) with
   |some (.pure p res F)=>Za J base all p res F λv J=>J.qo c o.dst v k
   |some (.mut fin js zr F)=>zhq J base all fin js zr F λv J=>J.qo c o.dst v k
   |none=>none)=some r) (hK:vY c.ntmps k r g w J base true K):o.wp P a w K Q:=by
 split at h
 ·rename_i p res F HN;have hco:=Hl fid _ (JC HN);unfold Za at h
  cases hb:(uG res||wc all) with
  |true=>
   rw[hb]at h
   exact WR hco ze hall zj vO h hK
  |false=>
   rw[hb]at h;obtain⟨z6f,J1,g1,Z5,h1,h2,h3,Gg⟩:=PW p all zj.heap hall h;refine WR (mo:=true) hco ze Gg (h3.st h1 zj) (λm hm1 hm2=>h3.fresh h1 (vO m hm1 hm2)) Z5 ?_;intro J' g' a' w' U9 qO qf z48 HS wx;exact hK J' g' a' w' U9 qO (h3.ext.trans qf) (λm hm hf=>z48 m hm (h3.fresh h1 hf)) (HS.trans h2) wx
 ·rename_i fin js zr F HN;have hco:=Hl fid _ (JC HN);unfold zhq at h;obtain⟨J0,g0,h0,Pc,z4e,_,zqj,zz6,zy5⟩:=F6 _ _ zj h;clear h;have hK0:vY c.ntmps k r g0 w J0 base true K:=by
   intro J' g' a' w' U9 qO pj z48 HS wx;exact hK J' g' a' w' U9 qO (z4e.trans pj) (λm hm hf=>z48 m hm (zqj m hf)) (HS.trans zz6) wx
  exact zae hco ze (zy5 _ _ hall) Pc (λm h1 h2=>zqj m (vO m h1 h2)) h0 hK0
 ·simp at h
theorem z1k(Hl:BA P c.env){cl:Call}{x:Operand}(ho:o.op=.call cl)(uk:cl.callee=.value x)
  (zj:zU c.ntmps g w a J) (vO:∀m,base<=m->m<base+8->zJ g J m) {gv args:z7} (hx:ev J x=some gv) (hargs:TW J cl.args.toList=some args)
  (h:(z5x c J base gv args λv J=>J.qo c o.dst v k)=some r) (hK:vY c.ntmps k r g w J base true K):o.wp P a w K Q:=by
 obtain⟨eg,_⟩:=qD zj hx;obtain⟨ea,_⟩:=W6 zj hargs;unfold z5x at h;split at h
 ·rename_i fid all EK;obtain⟨us,hfv,hall⟩:=DV eg ea EK;refine S6 Hl (fid:=fid) (all:=all) (vals:=(cl.args.toList.map a.eval)++us) ?_ hall zj vO h hK;have e1:cl.args.map a.eval=(cl.args.toList.map a.eval).toArray:=by apply C5.1;rw[Z2s]
  simp[execOp,ho,resolve,uk,hfv,Deferred.ofValue,invoke,e1]
 ·simp at h
theorem zey{q:Bool}{n:Nat}(hy:M7 o=true):S9 q c J n o k=Tw c J n o k:=by
 unfold S9;split
 ·rename_i ho;simp[M7,Gf,ho]at hy
 ·rename_i ho;simp[M7,Gf,ho]at hy
 ·rename_i ho;simp[M7,Gf,ho]at hy
 ·rename_i ho;simp[M7,Gf,ho]at hy
 ·rename_i ho;simp[M7,Gf,ho]at hy
 ·rfl
theorem z1p{q:Bool}(hc:xP P c)(zj:zU c.ntmps g w a J)(vO:∀m,base<=m->m<base+8->zJ g J m)(h:S9 q c J base o k=some r)(hK:vY c.ntmps k r g w J base (Qb q o) K):o.wp P a w K Q:=by
 have hK':vY c.ntmps k r g w J base (NS o) K:=by
  intro J' g' a' w' h1 h2 h3 h4 h5 h6;refine hK J' g' a' w' h1 h2 h3 h4 h5 λhm=>h6 ?_
  cases q with
  |false=>exact hm
  |true=>
   simp only[Qb,zB,VG]at hm;exact hm.1
 unfold S9 at h;split at h
 ·rename_i x args ts ho
  cases q with
  |false=>exact CM hc zj vO h hK'
  |true=>
   simp only[zB]at h;split at h
   ·rename_i gv av hx ha;refine z1k hc.env ho rfl zj vO hx ha h ?_;intro J' g' a' w' h1 h2 h3 h4 h5 _;exact hK J' g' a' w' h1 h2 h3 h4 h5 (λhh=>by simp[Qb,Ej,ho]at hh)
   ·simp at h
 ·rename_i t x ho
  cases q with
  |false=>exact CM hc zj vO h hK'
  |true=>
   simp only[zB]at h;split at h
   ·rename_i av hx;exact z1g hc.mt ho zj (vO base (yH _) (by omega)) hx h hK
   ·simp at h
 ·rename_i x ho
  cases q with
  |false=>exact CM hc zj vO h hK'
  |true=>
   simp only[zB]at h;split at h
   ·rename_i av hx;refine zac (base:=base) ho zj hx h ?_;intro J' g' a' w' h1 h2 h3 h4 h5 _;exact hK J' g' a' w' h1 h2 h3 h4 h5 (λhh=>by simp[Qb,Ej,ho]at hh)
   ·simp at h
 ·rename_i x ho
  cases q with
  |false=>exact CM hc zj vO h hK'
  |true=>
   simp only[zB]at h;split at h
   ·rename_i av hx;refine z1j (base:=base) ho zj hx h ?_;intro J' g' a' w' h1 h2 h3 h4 h5 _;exact hK J' g' a' w' h1 h2 h3 h4 h5 (λhh=>by simp[Qb,Ej,ho]at hh)
   ·simp at h
 ·rename_i args ts ho
  cases hd:(q&&zfr c o.dst) with
  |false=>rw[hd]at h;exact CM hc zj vO h hK'
  |true=>
   rw[hd]at h;simp only[zB]at h;split at h
   ·rename_i x y t t' hargs pR;split at h
    ·rename_i av bv ow u hx hy kA
     cases hb:Nat.beq t t' with
     |false=>rw[hb]at h;simp at h
     |true=>
      rw[hb]at h;have htq:=zE hb;subst htq;simp only[zB]at h;refine Lf hc.tt ho hargs pR kA hx hy zj (vO base (yH _) (by omega)) h ?_;intro J' g' a' w' h1 h2 h3 h4 h5 _;exact hK J' g' a' w' h1 h2 h3 h4 h5 (λhh=>by
       cases q<;>simp[Qb,NS,ho]at hh)
    ·simp at h
   ·simp at h
 ·exact CM hc zj vO h hK'
end
end Go.Kz
namespace Go.Kz
variable {R:Type}
section
variable {P:Program}{ops:Array Oper}{Q:Exit->Act->World->Prop}{q:Bool}
theorem M9{q:Bool}{o:Oper}(h:Qb q o=false):Qb false o=false:=by
 cases q with
 |false=>exact h
 |true=>
  simp only[Qb,zB,VG]at h;exact h.1
def yP(q:Bool)(P:Program)(ops:Array Oper)(Q:Exit->Act->World->Prop)(o:Oper)(K:Act->World->Prop)(a:Act)(w:World):Prop:=
 if Region.wanted o (yielded ops a.tmps)=true then
  (M7 o=true/\∃v,(∀w',N6 o w w'->(execOp a.eval o).run P w'=.ok (.value v) w')/\K (a.put o.dst v) w)\/
  (M7 o=false/\o.wp P a w (λa' w'=>(Qb q o=false->vp w w')/\K a' w') Q)
 else K (a.put o.dst undef) w
def JQ(q:Bool)(P:Program)(ops:Array Oper)(Q:Exit->Act->World->Prop)(K:Act->World->Prop):List (Nat×Oper)->Act->World->Prop
 |[],a,w=>K a w
 |(_,o)::l,a,w=>yP q P ops Q o (JQ q P ops Q K l) a w
theorem X4{K:Act->World->Prop}:(l m:List (Nat×Oper))->JQ q P ops Q K (l++m)=JQ q P ops Q (JQ q P ops Q K m) l
 |[],m=>rfl
 |(i,o)::l,m=>by
  funext a w;simp only[QI,JQ,X4 l m]
def DD(l:List (Nat×Oper))(a a':Act):Prop:=∀i,(∀x∈l,x.2.dst≠some i)->a'.tmps[i]? = a.tmps[i]?
theorem Oper.Ts{o:Oper}{a:Act}{w:World}{K:Act->World->Prop}(h:o.wp P a w K Q):
  o.wp P a w (λa' w'=>(∀i,o.dst≠some i->a'.tmps[i]? = a.tmps[i]?)/\K a' w') Q:=by
 have K3:∀(b:Act)(v:Value),b.tmps=a.tmps->∀i,o.dst≠some i->(b.put o.dst v).tmps[i]? = a.tmps[i]? := by
  intro b v hb i hi;rw[JB,qW (λh=>hi h.1),hb]
 unfold Oper.wp at *;generalize (execOp a.eval o).run P w=x at *
 cases x with
 |ok n w'=>
  cases n<;>simp only[Oper.upon]at h⊢
  case value v=>exact⟨K3 a v rfl,h⟩
  case skip=>exact⟨K3 a _ rfl,h⟩
  case defer d=>exact⟨K3 _ _ rfl,h⟩
  case enter f args=>
   refine Calls.mono h λe w'' he=>?_
   cases e with
   |returned v=>exact⟨K3 a v rfl,he⟩
   |panicked c=>exact he
   |outgrown=>exact he
  case row row args=>exact Rows.mono h λv w'' he=>⟨K3 a v rfl,he⟩
 |halt x w'=>cases x<;>simp only[Oper.upon]at h⊢ <;>exact h
theorem yP.frame{o:Oper}{K:Act->World->Prop}{a:Act}{w:World}(h:yP q P ops Q o K a w):
  yP q P ops Q o (λa' w'=>((Qb q o=false->vp w w')/\∀i,o.dst≠some i->a'.tmps[i]? = a.tmps[i]?)/\K a' w') a w:=by
 have K3:∀v,∀i,o.dst≠some i->(a.put o.dst v).tmps[i]? = a.tmps[i]? := by
  intro v i hi;rw[JB,qW (λh=>hi h.1)]
 unfold yP at *;split
 ·rename_i hw;rw[yX hw]at h;rcases h with⟨hy,v,h1,h2⟩|⟨hy,h1⟩
  ·exact .inl ⟨hy,v,h1,⟨λ_=>vp.refl w,K3 v⟩,h2⟩
  ·exact .inr ⟨hy,Oper.wp_mono (λa' w' hh=>⟨hh.2.1,⟨hh.2.1,hh.1⟩,hh.2.2⟩) (Oper.Ts h1)⟩
 ·rename_i hw;rw[qW hw]at h;exact⟨⟨λ_=>vp.refl w,K3 _⟩,h⟩
theorem yP.mono{o:Oper}{K K':Act->World->Prop}{a:Act}{w:World}(hk:∀a w,K a w->K' a w)(h:yP q P ops Q o K a w):yP q P ops Q o K' a w:=by
 unfold yP at *;split
 ·rename_i hw;rw[yX hw]at h;rcases h with⟨hy,v,h1,h2⟩|⟨hy,h1⟩
  ·exact .inl ⟨hy,v,h1,hk _ _ h2⟩
  ·exact .inr ⟨hy,Oper.wp_mono (λa' w' hh=>⟨hh.1,hk _ _ hh.2⟩) h1⟩
 ·rename_i hw;rw[qW hw]at h;exact hk _ _ h
theorem vp.size{w w':World}(h:vp w w'):w.heap.size<=w'.heap.size:=by
 rcases Z29 w.heap.size with h0|h0
 ·omega
 ·have:=h (w.heap.size-1) (by omega);have h2:w.heap[w.heap.size-1]?≠none:=by simp;omega
  rw[<-this]at h2;simp at h2;omega
theorem vp.trans{w w' w'':World}(h:vp w w')(k:vp w' w''):vp w w'':=λb hb=>(k b (by have:=h.size;omega)).trans (h b hb)
theorem Cv{K:Act->World->Prop}:(l:List (Nat×Oper))->noM l=true->(a:Act)->(w:World)->JQ false P ops Q K l a w->
  JQ false P ops Q (λa' w'=>(vp w w'/\DD l a a')/\K a' w') l a w
 |[],_,a,w,h=>⟨⟨vp.refl w,λ_ _=>rfl⟩,h⟩
 |(i,o)::l,hm,a,w,h=>by
  simp only[noM,zA,U0]at hm;have h1:=yP.frame (show yP false P ops Q o (JQ false P ops Q K l) a w from h);refine yP.mono (λa1 w1 hh=>?_) h1;obtain⟨⟨wx,hsl⟩,pc⟩:=hh;have h2:=Cv l hm.2 a1 w1 pc;have mono:∀(l:List (Nat×Oper)) (K K':Act->World->Prop),(∀a w,K a w->K' a w)->∀a w,JQ false P ops Q K l a w->JQ false P ops Q K' l a w:=by
   intro l
   induction l with
   |nil=>exact λK K' hk a w h=>hk a w h
   |cons x l ih=>exact λK K' hk a w h=>yP.mono (λa w h=>ih K K' hk a w h) h
  refine mono l _ _ (λa2 w2 hh=>?_) a1 w1 h2;obtain⟨⟨q0j,zyo⟩,hk⟩:=hh;refine⟨⟨(wx hm.1).trans q0j,λj hj=>?_⟩,hk⟩;rw[zyo j (λx hx=>hj x (by simp[hx])),hsl j (hj (i,o) (by simp))]
theorem yP.z01{o:Oper}{K:Act->World->Prop}{a:Act}{w:World}(h:yP false P ops Q o K a w):yP q P ops Q o K a w:=by
 unfold yP at *;split
 ·rename_i hw;rw[yX hw]at h;rcases h with h1|⟨hy,h1⟩
  ·exact .inl h1
  ·exact .inr ⟨hy,Oper.wp_mono (λa' w' hh=>⟨λhm=>hh.1 (M9 hm),hh.2⟩) h1⟩
 ·rename_i hw;rw[qW hw]at h;exact h
theorem FE{K:Act->World->Prop}:(l:List (Nat×Oper))->(a:Act)->(w:World)->JQ false P ops Q K l a w->JQ q P ops Q K l a w
 |[],a,w,h=>h
 |(_,_)::l,a,w,h=>yP.z01 (yP.mono (λa w h=>FE l a w h) h)
theorem Cj{K:Act->World->Prop}:(l:List (Nat×Oper))->(a:Act)->(w:World)->JQ q P ops Q K l a w->JQ q P ops Q (λa' w'=>DD l a a'/\K a' w') l a w
 |[],a,w,h=>⟨λ_ _=>rfl,h⟩
 |(i,o)::l,a,w,h=>by
  refine yP.mono (λa1 w1 hh=>?_) (yP.frame (show yP q P ops Q o (JQ q P ops Q K l) a w from h));obtain⟨⟨_,hsl⟩,pc⟩:=hh;have mono:∀(l:List (Nat×Oper)) (K K':Act->World->Prop),(∀a w,K a w->K' a w)->∀a w,JQ q P ops Q K l a w->JQ q P ops Q K' l a w:=by
   intro l
   induction l with
   |nil=>exact λK K' hk a w h=>hk a w h
   |cons x l ih=>exact λK K' hk a w h=>yP.mono (λa w h=>ih K K' hk a w h) h
  refine mono l _ _ (λa2 w2 hh=>⟨λj hj=>?_,hh.2⟩) a1 w1 (Cj l a1 w1 pc);rw[hh.1 j (λx hx=>hj x (by simp[hx])),hsl j (hj (i,o) (by simp))]
theorem X3{K K':Act->World->Prop}(hk:∀a w,K a w->K' a w):(l:List (Nat×Oper))->(a:Act)->(w:World)->JQ q P ops Q K l a w->JQ q P ops Q K' l a w
 |[],a,w,h=>hk a w h
 |(_,_)::l,_,_,h=>yP.mono (λa w h=>X3 hk l a w h) h
end
theorem splitAt_eq{p:Oper->Bool}:{l acc:List (Nat×Oper)}->{jg rest:List (Nat×Oper)}->{d:Option Nat}->splitAt p l acc=some (jg,d,rest)->acc++l=jg++rest
 |[],_,_,_,_,h=>by simp[splitAt]at h
 |(i,o)::l,acc,jg,rest,d,h=>by
  simp only[splitAt]at h
  cases hp:p o with
  |true=>
   rw[hp]at h;simp only[zB,zI,pv]at h;obtain⟨rfl,_,rfl⟩:=h
   simp
  |false=>
   rw[hp]at h;have:=splitAt_eq (l:=l) h;rw[<-this];simp
theorem gM:{l:List (Nat×Oper)}->{J:St}->{i:Nat}->{av:z7}->(wA l J).zk i=some av->J.zk i=some av/\∀x∈l,x.2.dst≠some i
 |[],J,i,av,h=>⟨h,by simp⟩
 |(j,o)::l,J,i,av,h=>by
  simp only[wA]at h;obtain⟨h1,h2⟩:=gM (l:=l) h
  cases hd:o.dst with
  |none=>
   rw[hd]at h1
   exact⟨h1,λx hx=>(pF.1 hx).elim (λe=>by subst e;simp[hd]) (λhx=>h2 x hx)⟩
  |some d=>
   rw[hd]at h1;simp only[St.kD,GJ]at h1
   cases hb:Nat.beq i d with
   |true=>rw[hb]at h1;simp at h1
   |false=>
    rw[hb]at h1;refine⟨h1,λx hx=>?_⟩;rcases pF.1 hx with rfl|hx
    ·rw[hd];intro he;simp only[zI]at he;subst he;rw[Mt]at hb;simp at hb
    ·exact h2 x hx
theorem Vz:(l:List (Nat×Oper))->(J:St)->(wA l J).z6=J.z6/\(wA l J).next=J.next
 |[],_=>⟨rfl,rfl⟩
 |(_,o)::l,J=>by
  simp only[wA];obtain⟨h1,h2⟩:=Vz l (J.kD o.dst);cases hd:o.dst<;>rw[hd]at h1 h2<;>exact⟨h1,h2⟩
end Go.Kz
namespace Go.Kz
def zks(g:z8)(J:St)(base:Nat)(l:List (Nat×Oper)):Prop:=∀x∈l,∀m,base+8*x.1<=m->m<base+8*x.1+8->zJ g J m
def Out(base:Nat)(l:List (Nat×Oper))(m:Nat):Prop:=∀x∈l,m<base+8*x.1\/base+8*x.1+8<=m
theorem SE{n:Nat}{g:z8}{w w':World}{a a':Act}{J:St}(zj:zU n g w a J)(wx:vp w w')(hd:a'.defers=[])(hs:a'.tmps.size=n)
  (zk:∀i av,J.zk i=some av->a'.tmps[i]? = a.tmps[i]?):zU n g w' a' J:=by
 have ht:=zj.heap.tags;have hr:zT w g w' g:=⟨λb hb=>⟨hb,wx b (ht b (by rw[hb];simp))⟩⟩;have kI:∀id,xC w g w' g id:=λid=>⟨⟨λ_=>rfl,λ_ b hb=>⟨hb,wx b (ht b (by rw[hb];simp))⟩⟩,rfl,λhb=>⟨hb,wx _ (ht _ (by rw[hb];simp))⟩⟩
 have hk:∀id,qq g g id (J.z6 id) (J.z6 id):=λid=>qq.refl g id _
 refine⟨λi av hi=>?_,⟨λid x hx=>?_,λb hb=>?_⟩,hs,hd,zj.known.kept hr⟩
 ·obtain⟨u,hu,za⟩:=zj.zk i av hi;exact⟨u,by rw[zk i av hi];exact hu,zm.frame hr (λid _=>hk id) za⟩
 ·exact zn.frame hr (kI id) (λ_ _ vF _=>hk vF) (zj.heap.z6 id x hx)
 ·have:=ht b hb;have:=wx.size;omega
theorem IP{J:St}{d:Nat}{b:Bool}(h:Bw J d=some b):J.zk d=some (.data .bool b):=by
 unfold Bw at h;split at h
 ·rename_i x hx;simp only[zI]at h;subst h;exact hx
 ·simp at h
section
variable {P:Program}{ops:Array Oper}{Q:Exit->Act->World->Prop}{c:Ctx}{base:Nat}{dst:Nat->Option Nat}
theorem xF{o:Oper}{f:Nat->Option Bool}(h:o.guard=none):Region.wanted o f=true:=by simp[Region.wanted,h]
theorem WJ{o:Oper}{a:Act}{j t:Nat}{want b:Bool}(h:o.guard=some (j,want))(hd:(ops[j]?).bind (·.dst)=some t)(hv:a.tmps[t]? = some (.bool b)):
  Region.wanted o (yielded ops a.tmps)=(b == want):=by
 simp[Region.wanted,h,yielded,hd,hv]
theorem DN{n:Nat}{g:z8}{w:World}{a:Act}{J:St}(zj:zU n g w a J){t:Nat}{b:Bool}(h:J.zk t=some (.data .bool b)):a.tmps[t]? = some (.bool b):=by
 obtain⟨v,hv,za⟩:=zj.zk t _ h;rw[hv,xK za]
theorem XJ{n:Nat}{g:z8}{w:World}{a:Act}{J:St}(zj:zU n g w a J){t:Nat}{av:z7}(h:J.zk t=some av):zU n g w a (J.set t av):=by
 refine⟨λi x hi=>?_,zj.heap,zj.size,zj.defers,zj.known⟩;simp only[St.set,GJ]at hi
 cases hb:Nat.beq i t with
 |true=>
  rw[hb]at hi;simp only[zB,zI]at hi;subst hi;have:=zE hb;subst this
  exact zj.zk _ _ h
 |false=>rw[hb]at hi;exact zj.zk i x hi
theorem Ga{x:Nat}:{l:List Nat}->(j8 x l=true↔x∈l)
 |[]=>by simp[j8]
 |y::l=>by
  simp only[j8,pF]
  cases h:Nat.beq y x with
  |true=>simp[zE h]
  |false=>
   have vg:x≠y:=by intro he;subst he;rw[Mt]at h;simp at h
   simp[vg,Ga (l:=l)]
def Und(a:Act)(pk:List Nat):Prop:=∀s∈pk,∀b,a.tmps[s]?≠some (.bool b)
theorem X5{o:Oper}{a:Act}{j t:Nat}{want:Bool}(h:o.guard=some (j,want))(hd:(ops[j]?).bind (·.dst)=some t)(hv:∀b,a.tmps[t]?≠some (.bool b)):
  Region.wanted o (yielded ops a.tmps)=false:=by
 have hy:yielded ops a.tmps j=none:=by
  cases hx:a.tmps[t]? with
  |none=>simp[yielded,hd,hx]
  |some v=>
   cases v with
   |bool b=>exact absurd hx (hv b)
   |_=>simp[yielded,hd,hx]
 simp[Region.wanted,h,hy]
theorem Dd{d s:Nat}:{l:List Nat}->s∈rmN d l->s∈l/\s≠d
 |[],h=>by simp[rmN]at h
 |x::l,h=>by
  simp only[rmN]at h
  cases hb:Nat.beq x d with
  |true=>
   rw[hb]at h;have:=Dd (l:=l) h
   exact⟨by simp[this.1],this.2⟩
  |false=>
   rw[hb]at h;rcases pF.1 h with rfl|h
   ·exact⟨by simp,λhe=>by subst he;rw[Mt]at hb;simp at hb⟩
   ·have:=Dd (l:=l) h;exact⟨by simp[this.1],this.2⟩
theorem Dw{d:Option Nat}{s:Nat}{l:List Nat}(h:s∈QD d l):s∈l/\d≠some s:=by
 cases d with
 |none=>exact⟨h,by simp⟩
 |some d=>
  have:=Dd h;exact⟨this.1,by simp;exact λhe=>this.2 he.symm⟩
theorem Ki{s:Nat}:{l:List (Nat×Oper)}->{u:List Nat}->s∈B7 l u->s∈u/\∀x∈l,x.2.dst≠some s
 |[],u,h=>⟨h,by simp⟩
 |(i,o)::l,u,h=>by
  obtain⟨h1,h2⟩:=Ki (l:=l) h;obtain⟨h3,h4⟩:=Dw h1;refine⟨h3,λx hx=>?_⟩;rcases pF.1 hx with rfl|hx
  ·exact h4
  ·exact h2 x hx
theorem Und.vE{a a':Act}{u:List Nat}{d:Option Nat}(h:Und a u)(hs:∀i,d≠some i->a'.tmps[i]? = a.tmps[i]?):Und a' (QD d u):=by
 intro s hm b;obtain⟨h1,h2⟩:=Dw hm;rw[hs s h2];exact h s h1 b
theorem Und.skip{a:Act}{u:List Nat}{d:Option Nat}(h:Und a u):Und (a.put d undef) (Fq d u):=by
 intro s hm b;rw[JB];split
 ·intro he;cases he
 ·rename_i vg
  cases d with
  |none=>exact h s hm b
  |some d=>
   rcases pF.1 hm with rfl|hm
   ·have Pm:a.tmps.size<=s:=by
     by_cases qk:s<a.tmps.size
     ·exact absurd ⟨rfl,qk⟩ vg
     ·omega
    rw[Z3h Pm];simp
   ·exact h s hm b
theorem JE(hc:xP P c)(uM:∀j,dst j=(ops[j]?).bind (·.dst)):(q:Bool)->(n:Nat)->{R:Type}->{opened pk:List Nat}->{l:List (Nat×Oper)}->{J:St}->{g:z8}->{a:Act}->{w:World}->{k:St->Option R}->{r:R}->
  {K:Act->World->Prop}->ZW c base dst q n R opened pk l J k=some r->zU c.ntmps g w a J->Und a pk->(l.map Prod.fst).Nodup->zks g J base l->
  (∀J' g' a' w',k J'=some r->zU c.ntmps g' w' a' J'->Ext w g w' g'->(∀m,Out base l m->zJ g J m->zJ g' J' m)->J'.next=J.next->K a' w')->
  JQ q P ops Q K l a w
 |_,0,_,_,_,_,_,_,_,_,_,_,_,h,_,_,_,_,_=>by simp[ZW]at h
 |q,n+1,R,opened,pk,[],J,g,a,w,k,r,K,h,zj,_,_,_,hK=>by
  simp only[ZW]at h
  exact hK J g a w h zj (Ext.refl _ _) (λm _ hf=>hf) rfl
 |q,n+1,R,opened,pk,(i,o)::l,J,g,a,w,k,r,K,h,zj,Qn,hnd,vO,hK=>by
  simp only[PE,Z2e]at hnd;have one:S9 q c J (base+8*i) o (λJ=>ZW c base dst q n R opened (QD o.dst pk) l J k)=some r->Region.wanted o (yielded ops a.tmps)=true->JQ q P ops Q K ((i,o)::l) a w:=by
   intro h hw;have z3i:∀J1 g1 a1 w1,ZW c base dst q n R opened (QD o.dst pk) l J1 k=some r->zU c.ntmps g1 w1 a1 J1->Ext w g w1 g1->
     (∀m,(m<base+8*i\/base+8*i+8<=m)->zJ g J m->zJ g1 J1 m)->J1.next=J.next->(∀s,o.dst≠some s->a1.tmps[s]? = a.tmps[s]?)->JQ q P ops Q K l a1 w1:=by
    intro J1 g1 a1 w1 h1 yN yA ZF Qr J6;refine JE hc uM q n h1 yN (Qn.vE J6) hnd.2 (λx hx m h1 h2=>ZF m ?_ (vO x (by simp[hx]) m h1 h2)) (λJ2 g2 a2 w2 h2 k9 wF Pn PY=>?_)
    ·have vg:x.1≠i:=λhe=>hnd.1 (by rw[<-he];exact Z22.2 ⟨x,hx,rfl⟩)
     omega
    ·exact hK J2 g2 a2 w2 h2 k9 (yA.trans wF) (λm hm hf=>Pn m (λx hx=>hm x (by simp[hx])) (ZF m (hm (i,o) (by simp)) hf)) (PY.trans Qr)
   show yP q P ops Q o (JQ q P ops Q K l) a w;refine yP.mono (λa1 w1 hh=>hh.2 hh.1.2) (yP.frame (K:=λa1 w1=>(∀s,o.dst≠some s->a1.tmps[s]? = a.tmps[s]?)->JQ q P ops Q K l a1 w1) ?_);unfold yP;rw[yX hw]
   cases hy:M7 o with
   |true=>
    left;obtain⟨av,v,h1,h2,h3,h4⟩:=(Xe hc hy zj (by rw[<-zey hy];exact h)).out;refine⟨rfl,v,h1,λJ6=>?_⟩;rcases pQ h4 with⟨hd,hk⟩|⟨d,hd,qk,hk⟩
    ·rw[hd]at J6⊢;exact z3i J g a w hk zj (Ext.refl _ _) (λ_ _ hm=>hm) rfl (by rw[hd];exact J6)
    ·rw[hd]at J6⊢;exact z3i _ g _ w hk (zj.put qk h2) (Ext.refl _ _) (λm _ hm=>hm.set d (h3 m hm)) rfl (by rw[hd];exact J6)
   |false=>
    right;refine⟨rfl,z1p (base:=base+8*i) hc zj (λm h1 h2=>vO (i,o) (by simp) m h1 h2) h ?_⟩;intro J1 g1 a1 w1 h1 yN yA ZF Qr wx;exact⟨λh1=>wx h1,λJ6=>z3i J1 g1 a1 w1 h1 yN yA ZF Qr J6⟩
  have skip:ZW c base dst q n R opened (Fq o.dst pk) l (J.kD o.dst) k=some r->Region.wanted o (yielded ops a.tmps)=false->JQ q P ops Q K ((i,o)::l) a w:=by
   intro h hw;show yP q P ops Q o (JQ q P ops Q K l) a w;unfold yP;rw[hw];simp only[Z2a,TC];refine JE hc uM q n h (zj.zh9 o.dst undef) Qn.skip hnd.2 (λx hx m h1 h2=>(vO x (by simp[hx]) m h1 h2).kD o.dst) (λJ2 g2 a2 w2 h2 k9 wF Pn PY=>?_);refine hK J2 g2 a2 w2 h2 k9 wF (λm hm hf=>Pn m (λx hx=>hm x (by simp[hx])) (hf.kD o.dst)) (PY.trans ?_);cases o.dst<;>rfl
  simp only[ZW]at h;split at h
  ·rename_i hg;exact one h (xF hg)
  ·rename_i j want hg;split at h
   ·simp at h
   ·rename_i t hdt;rw[uM]at hdt;split at h
    ·rename_i b hb;have hw:=WJ (o:=o) (a:=a) hg hdt (DN zj hb)
     cases hm:j8 j opened with
     |true=>
      rw[hm]at h;simp only[zB]at h
      cases hbw:(b == want) with
      |true=>
       rw[hbw]at h hw
       exact one h hw
      |false=>
       rw[hbw]at h hw
       exact skip h hw
     |false=>
      rw[hm]at h;simp only[zP]at h;split at h
      ·rename_i jg d rest hsp;have hl:=splitAt_eq hsp;rw[Ql]at hl
       cases HT:(q&&EU c J jg) with
       |true=>
        rw[HT]at h;simp only[zB]at h;have h':ZW c base dst q n R (j::opened) pk ((i,o)::l) (J.set t (.data .bool b)) k=some r:=by
         cases b<;>exact h
        exact JE hc uM q n h' (XJ zj hb) Qn (by simp only[PE,Z2e];exact hnd) (λx hx m h1 h2=>(vO x hx m h1 h2).set t (by simp[z7.ids])) (λJ2 g2 a2 w2 h2 k9 wF Pn PY=>hK J2 g2 a2 w2 h2 k9 wF (λm hm hf=>Pn m hm (hf.set t (by simp[z7.ids]))) PY)
       |false=>
       rw[HT]at h;simp only[zP]at h
       cases Ct:noM jg with
       |false=>rw[Ct]at h;simp at h
       |true=>
        rw[Ct]at h;simp only[zB,WZ]at h;obtain⟨v,hv,h⟩:=h;have jl:ZW c base dst false n Bool (j::opened) pk jg (J.set t (.data .bool b)) (λJ=>Bw J d)=some v:=by
         cases b<;>exact hv
        cases qk:Nat.blt d c.ntmps with
        |false=>rw[qk]at h;simp at h
        |true=>
         rw[qk]at h;simp only[zB]at h;rw[hl,X4];have zpy:(jg.map Prod.fst).Nodup/\(rest.map Prod.fst).Nodup/\∀x∈jg.map Prod.fst,x∉rest.map Prod.fst:=by
          have:(((i,o)::l).map Prod.fst).Nodup:=by simp only[PE,Z2e];exact hnd
          rw[hl,TU,Z4g]at this;exact⟨this.1,this.2.1,λx hx hy=>this.2.2 x hx x hy rfl⟩
         have hmem:∀x,x∈jg\/x∈rest->x∈(i,o)::l:=by
          intro x hx;rw[hl];exact Gx.2 hx
         have Pc:=XJ zj hb;have zzu:=JE (K:=λa' w'=>a'.tmps[d]? = some (.bool v)/\a'.defers=[]/\a'.tmps.size=c.ntmps/\w'.os=w.os/\w'.tape=w.tape/\w'.output=w.output/\w.drawn<=w'.drawn) hc uM false n jl Pc Qn zpy.1
          (λx hx m h1 h2=>(vO x (hmem x (.inl hx)) m h1 h2).set t (by simp[z7.ids]))
          (λJ' g' a' w' h' qO pj _ _=>⟨DN qO (IP h'),qO.defers,qO.size,pj.os,pj.tape,pj.output,pj.drawn⟩)
         refine X3 (λa1 w1 hh=>?_) jg a w (FE jg a w (Cv jg Ct a w zzu));obtain⟨⟨wx,hsl⟩,h1,h2,h3,h4,h5,h6,h7⟩:=hh;have uK:=Vz jg J;have zym:zU c.ntmps g w a (wA jg J):=by
          refine⟨λi av hi=>?_,?_,zj.size,zj.defers,zj.known⟩
          ·rw[uK.1];exact zj.zk i av (gM hi).1
          ·rw[uK.1];exact zj.heap
         have yN:zU c.ntmps g w1 a1 (wA jg J):=SE zym wx h2 h3 (λi av hi=>hsl i (gM hi).2);have k9:zU c.ntmps g w1 a1 ((wA jg J).set d (.data .bool v)):=by
          refine⟨λi x hi=>?_,yN.heap,yN.size,yN.defers,yN.known⟩;simp only[St.set,GJ]at hi
          cases hbq:Nat.beq i d with
          |true=>
           rw[hbq]at hi;simp only[zB,zI]at hi;subst hi;have:=zE hbq;subst this
           exact⟨_,h1,kK v⟩
          |false=>rw[hbq]at hi;exact yN.zk i x hi
         have zqi:∀m,zJ g J m->zJ g ((wA jg J).set d (.data .bool v)) m:=by
          intro m hf;have:zJ g (wA jg J) m:=⟨by rw[uK.1];exact hf.z6,hf.row,hf.box,λi av hi=>hf.zk i av (gM hi).1,λid av hi=>hf.cells id av (by rw[<-uK.1];exact hi)⟩;exact this.set d (by simp[z7.ids])
         have yA:Ext w g w1 g:=⟨h4,h5,h6,h7,wx.size,λb hb _=>⟨wx b hb,rfl⟩⟩;refine JE hc uM q n h k9 (λs hs b=>by
          obtain⟨q1,q2⟩:=Ki hs;rw[hsl s q2];exact Qn s q1 b) zpy.2.1 (λx hx m q1 q2=>zqi m (vO x (hmem x (.inr hx)) m q1 q2)) (λJ2 g2 a2 w2 q2 k9 wF Pn PY=>?_)
         refine hK J2 g2 a2 w2 q2 k9 (yA.trans wF) (λm hm hf=>Pn m (λx hx=>hm x (hmem x (.inr hx))) (zqi m hf)) (PY.trans uK.2)
      ·simp at h
    ·cases hmu:j8 t pk with
     |false=>rw[hmu]at h;simp at h
     |true=>
      rw[hmu]at h;simp only[zB]at h;exact skip h (X5 hg hdt (Qn t (Ga.1 hmu)))
    ·simp at h
end
end Go.Kz
namespace Go.Kz
variable {R:Type}
theorem uH{I:Type}:(l:List I)->(i:Nat)->(zc i l).map Prod.fst=List.range' i l.length
 |[],_=>rfl
 |x::l,i=>by simp only[zc,PE,uH l,BF,List.range'_succ]
theorem Q6{I:Type}:{l:List I}->{i:Nat}->{x:Nat×I}->x∈zc i l->i<=x.1/\l[x.1-i]? = some x.2
 |[],_,_,h=>by simp[zc]at h
 |y::l,i,x,h=>by
  simp only[zc,pF]at h;rcases h with rfl|h
  ·simp
  ·obtain⟨h1,h2⟩:=Q6 h;refine⟨by omega,?_⟩;have e:x.1-i=(x.1-(i+1))+1:=by omega
   rw[e];simpa using h2
theorem Xi{I:Type}(l:List I)(i:Nat):((zc i l).map Prod.fst).Nodup:=by
 rw[uH];exact List.nodup_range'
theorem HV{I:Type}:(l:List I)->(i:Nat)->zR l i=l[i]?
 |[],i=>by cases i<;>rfl
 |x::l,0=>rfl
 |x::l,i+1=>by simp only[zR,HV l i];simp
section
variable {P:Program}{ops:Array Oper}{Q:Exit->Act->World->Prop}{q:Bool}
theorem B6(j:Nat):po ops.toList j=(ops[j]?).bind (·.dst):=by
 simp only[po,HV,Z25]
theorem Gq{o:Oper}{a:Act}{w:World}{v:Value}{K:Act->World->Prop}(h:(execOp a.eval o).run P w=.ok (.value v) w)(hk:K (a.put o.dst v) w):o.wp P a w K Q:=by
 unfold Oper.wp;rw[h,Oper.upon_value];exact hk
theorem N8:(L:List (Nat×Oper))->(∀x∈L,ops[x.1]? = some x.2)->(a:Act)->(w:World)->JQ q P ops Q (Q .normal) L a w->wpOps P ops Q (L.map Prod.fst) a w
 |[],_,a,w,h=>h
 |(i,o)::L,hL,a,w,h=>by
  have ih:=N8 L (λx hx=>hL x (by simp[hx]));have ho:ops[i]? = some o:=hL (i,o) (by simp);simp only[PE,wpOps,ho];have h':yP q P ops Q o (JQ q P ops Q (Q .normal) L) a w:=h;unfold yP at h';split
  ·rename_i hw;rw[yX hw]at h';left;rcases h' with⟨_,v,h1,h2⟩|⟨_,h1⟩
   ·exact Gq (h1 w (N6.refl _ w)) (ih _ _ h2)
   ·exact Oper.wp_mono (λa' w' hh=>ih _ _ hh.2) h1
  ·rename_i hw;rw[qW hw]at h';exact ih _ _ h'
theorem wW(x:Nat×Oper)(h:x∈zc 0 ops.toList):ops[x.1]? = some x.2:=by
 have:=(Q6 h).2;rw[<-Z25];simpa using this
theorem YP{x:Nat×Oper}(h:x∈zc 0 ops.toList):x.1<ops.toList.length:=by
 have:=(Q6 h).2;rw[Z4h]at this;exact(Z32.1 this).1
theorem z9l{id:Nat}{a:Act}{w:World}(h:JQ q P ops Q (Q .normal) (zc 0 ops.toList) a w):(Code.region id ops false).wp P Q a w:=by
 refine wp_region ?_;have:=N8 _ wW a w h;rw[uH,<-List.range_eq_range']at this;simpa using this
end
section
variable {P:Program}{ops:Array Oper}{c:Ctx}
theorem NL{q:Bool}{fuel:Nat}{L:List (Nat×Oper)}(hc:xP P c){Q:Exit->Act->World->Prop}{J:St}{g:z8}{a:Act}{w:World}{k:St->Option R}{r:R}{K:Act->World->Prop}
  (hL:∀x∈L,x.1<ops.toList.length) (hnd:(L.map Prod.fst).Nodup)
  (h:ZW c J.next (po ops.toList) q fuel R [] [] L J (λJ'=>k { J' with next:=J.next+8*ops.toList.length })=some r) (zj:zU c.ntmps g w a J) (hf:qF g J)
  (hK:∀J' g' a' w',k J'=some r->zU c.ntmps g' w' a' J'->Ext w g w' g'->qF g' J'->K a' w'):JQ q P ops Q K L a w:=by
 refine JE hc B6 q fuel h zj (by intro s hs;simp at hs) hnd (λx _ m h1 _=>hf m (by omega)) (λJ' g' a' w' hk qO qf K7 hn=>?_);refine hK _ g' a' w' hk ⟨qO.zk,qO.heap,qO.size,qO.defers,qO.known⟩ qf (λm hm=>?_);have Gp:J.next+8*ops.toList.length<=m:=hm;have:=K7 m (λx hx=>.inr (by have:=hL x hx;omega)) (hf m (by omega));exact⟨this.z6,this.row,this.box,this.zk,this.cells⟩
end
end Go.Kz
