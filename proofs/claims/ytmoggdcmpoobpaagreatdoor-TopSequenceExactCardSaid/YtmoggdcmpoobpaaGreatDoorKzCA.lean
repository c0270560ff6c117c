/-
  The normal form of a channel: the program computes it.
-/
import Derived.Test.YtmoggdcmpoobpaaGreatDoorKzC1
set_option linter.unusedVariables false
set_option linter.unusedSimpArgs false
set_option linter.unusedSectionVars false
namespace Go.Kz
theorem Lm:∀(a b:List Int),yD (a++b)=Nat.gcd (yD a) (yD b)
 |[],b=>by simp[yD]
 |x::a,b=>by
  have:=Lm a b;simp only[yD,Qm,Z38]at this⊢;rw[this,Nat.gcd_assoc]
theorem zf6{B:Nat}{l:List Int}(h:gV l)(hb:∀x∈l,x<=(B:Int)):yD l<=B:=by
 by_cases h0:∀x∈l,x=0
 ·rw[UZ h0];omega
 ·simp only[Classical.not_forall]at h0;obtain⟨x,hx,hx0⟩:=h0;have h1:=h x hx;have h2:=hb x hx;have:=Nat.le_of_dvd (by omega) (Zp hx);omega
def UU(cs:List (List Int))(x:Nat):Int:=(cs.map λc=>c.getD x 0).sum
theorem W6(cs:List (List Int))(c:List Int)(x:Nat):UU (cs++[c]) x=UU cs x+c.getD x 0:=by simp[UU]
theorem uu{l:List Int}(h:gV l)(x:Nat):0<=l.getD x 0:=by
 rw[ZB];by_cases hx:x<l.length
 ·rw[wV hx];exact h _ (wB hx)
 ·rw[Z2s (by omega)];exact Z4z _
theorem Mp{cs:List (List Int)}(h:∀c∈cs,gV c)(x:Nat):0<=UU cs x:=
 uI λy hy=>by
  obtain⟨c,hc,rfl⟩:=pe.1 hy;exact uu (h c hc) x
theorem z1x{cs:List (List Int)}(h:∀c∈cs,gV c)(x j:Nat):UU (cs.take j) x<=UU cs x:=by
 have:=PO (l:=cs.map λc=>c.getD x 0) (λy hy=>by
  obtain⟨c,hc,rfl⟩:=pe.1 hy;exact uu (h c hc) x) j
 rw[<-List.map_take]at this;exact this
theorem I5{a b:List Int}{n x:Nat}(ha:a.length=n)(hb:b.length=n)(hx:x<n):(List.zipWith (· + ·) a b).getD x 0=a.getD x 0+b.getD x 0:=by
 simp only[ZB,List.getElem?_zipWith,wV (show x<a.length by omega),wV (show x<b.length by omega),CU]
theorem z6g{n:Nat}(cs:List (List Int)):(∀c∈cs,gV c/\c.length=n)->∀m∈pc cs,(gV m/\m.length=n)/\∀x,x<n->m.getD x 0<=UU cs x:=by
 refine zd9 (p:=λcs=>(∀c∈cs,gV c/\c.length=n)->∀m∈pc cs,(gV m/\m.length=n)/\∀x,x<n->m.getD x 0<=UU cs x) (λ_ m hm=>?_) (λcs c ih h=>?_) cs
 ·simp[pc,jr,kV]at hm
 ·have hc:=h c (by simp);have Zw:∀c∈cs,gV c/\c.length=n:=λc hc=>h c (by simp[hc])
  have ih:=ih Zw;have hs:=Mp (cs:=cs) λc hc=>(Zw c hc).1
  have old:∀m∈pc cs,(gV m/\m.length=n)/\∀x,x<n->m.getD x 0<=UU (cs++[c]) x:=λm hm=>⟨(ih m hm).1,λx hx=>by
   have h1:=(ih m hm).2 x hx;have h2:=uu hc.1 x;rw[W6];omega⟩
  by_cases h0:yD c=0
  ·rw[Lv h0];exact old
  ·by_cases hm:vE c∈jr cs
   ·rw[Ra hc.1 h0 hm];have hp:posOf (vE c) (jr cs)<(pc cs).length:=by rw[pL];exact QJ hm
    intro m hmem;rcases List.mem_or_eq_of_mem_set hmem with hmem|rfl
    ·exact old m hmem
    ·have e:(pc cs).getD (posOf (vE c) (jr cs)) []=(pc cs)[posOf (vE c) (jr cs)]:=by rw[ZB,wV hp,CU]
     rw[e];obtain⟨⟨k1,k2⟩,k3⟩:=ih _ (wB hp);refine⟨⟨λx hx=>?_,by simp[k2,hc.2]⟩,λx hx=>?_⟩
     ·obtain⟨i,hi,rfl⟩:=Wl.1 hx;simp only[Z57];have z1:=k1 _ (wB (show i<(pc cs)[posOf (vE c) (jr cs)].length by simp at hi;omega));have z2:=hc.1 _ (wB (show i<c.length by simp at hi;omega));omega
     ·rw[I5 k2 hc.2 hx,W6];have:=k3 x hx;omega
   ·rw[Rb hc.1 h0 hm];intro m hmem;rcases PH.1 hmem with hmem|hmem
    ·exact old m hmem
    ·simp only[Om]at hmem;subst hmem;exact⟨hc,λx hx=>by rw[W6];have:=hs x;omega⟩
theorem Ag{rows:List (List Int)}{n w:Nat}{t:Int}(h:ZK rows n w t):(vF rows w).length=w/\(∀c∈vF rows w,gV c/\c.length=n)/\∀x,x<n->UU (vF rows w) x=t:=by
 refine⟨by simp[vF],λc hc=>?_,λx hx=>?_⟩
 ·simp only[vF,pe,Du]at hc;obtain⟨y,hy,rfl⟩:=hc;refine⟨λz hz=>?_,by simp[h.len]⟩;obtain⟨r,hr,rfl⟩:=pe.1 hz;exact uu (λx hx=>h.pos r hr x hx) y
 ·have QF:x<rows.length:=by rw[h.len];exact hx
  have hm:=wB QF;have e:((vF rows w).map λc=>c.getD x 0)=rows[x]:=by
   apply I3
   ·simp[vF,h.wid _ hm]
   ·intro i h1 h2;simp only[vF,Oo,R0,Z4l,Function.comp_apply,ZB,Ny,wV QF,Z24,CU,wV h2]
  rw[UU,e,<-h.sum _ hm];rfl
theorem OB{R:Type}(N:Nat)(hN:5000<=N){M:List (List Int)}{k:Nat}(hk:k<M.length){T:List (List Int)}{j n:Nat}(hj:j<T.length)(hn:n<=256)(lc:T[j].length=n)(lm:M[k].length=n)
  (hb:∀x,x<n->0<=M[k].getD x 0+T[j].getD x 0/\M[k].getD x 0+T[j].getD x 0<=1048576) (d:Int) (hd:d<=(j:Int)) (t25 t26:Int) (o2:List (List UInt8×Int)) (kx:List (List Int)->Option R) (Q:R->Prop)
  (hq:zp (kx (M.set k (List.zipWith (· + ·) M[k] T[j]))) Q):zp (iter (λw=>Pq N (k:Int) (j:Int) t25 t26 (n:Int) T d o2 w kx) N (0,M)) Q:=by
 refine zp.up (λi (s:List (List Int))=>∃m',s=M.set k m'/\m'.length=n/\∀x,x<n->m'.getD x 0=if x<i then M[k].getD x 0+T[j].getD x 0 else M[k].getD x 0) n ?_ ?_ N 0 (v8 _) (by omega) _ ⟨M[k],by rw[List.set_getElem_self],lm,λx _=>by rw[qP (by omega)]⟩
 ·rintro i s w hi ⟨m',rfl,e1,e2⟩ hw;have ek:k<(M.set k m').length:=by simpa using hk
  have eM:idx (M.set k m') (k:Int)=some m':=by rw[zY ek];simp
  have ei:i<m'.length:=by omega
  have ec:i<T[j].length:=by omega
  have v1:m'[i]=M[k].getD i 0:=by have:=e2 i hi;rw[qP (by omega),ZB,wV ei]at this;exact this
  have v2:T[j][i]=T[j].getD i 0:=by rw[ZB,wV ec];rfl
  obtain⟨b1,b2⟩:=hb i hi;simp only[Pq];rw[dlt hi,zJ];simp only[jQ hd,qx,zY hj,zO,wh ec,zY ec,wh ek,eM,wh ei,zY ei,v1,v2];rw[zk (by omega),zx (by omega) (by omega)];refine hw _ ⟨m'.set i (M[k].getD i 0+T[j].getD i 0),?_,by simp[e1],λx hx=>?_⟩
  ·simp only[qR,Wi,List.set_set]
  ·rw[ZB,List.getElem?_set];by_cases hxi:i=x
   ·subst hxi;rw[qn rfl,qn ei,qn (by omega)];rfl
   ·rw[qP hxi,<-ZB,e2 x hx];by_cases h1:x<i
    ·rw[qn h1,qn (by omega)]
    ·rw[qP h1,qP (by omega)]
 ·rintro s w ⟨m',rfl,e1,e2⟩;simp only[Pq];rw[z9m,zU];have:m'=List.zipWith (· + ·) M[k] T[j]:=by
   apply I3
   ·simp[e1,lm,lc]
   ·intro x h1 h2;have:=e2 x (by omega);rw[qn (by omega),<-I5 lm lc (by omega),ZB,ZB,wV h1,wV h2]at this;exact this
  rw[this]at *;exact hq
theorem z6t(a b:List UInt8):ja .str a b=decide (a=b):=by simp[ja]
theorem z01{l:List Int}(h:l.length<=4096):K2 l=some (wv l):=by
 have rb:room=4294967296:=rfl;unfold K2;rw[qx (jQ (by omega))]
theorem IN{c:List Int}(h:gV c)(hb:∀x∈c,x<=1048576):∀x∈vE c,gK x:=λx hx=>by
 obtain⟨y,hy,rfl⟩:=pe.1 hx;have h1:=h y hy;have h2:=hb y hy;have b1:0<=y/(yD c:Int):=Z3b h1 (by omega);have b2:y/(yD c:Int)<=y:=Z3x _ h1;exact⟨by omega,by omega⟩
def WL(cs:List (List Int)):List (List UInt8):=(jr cs).map wv
theorem z0x{cs:List (List Int)}(h:∀c∈cs,gV c/\∀x∈c,x<=1048576){c:List Int}(hc:gV c/\∀x∈c,x<=1048576):(wv (vE c)∈WL cs↔vE c∈jr cs)/\(vE c∈jr cs->posOf (wv (vE c)) (WL cs)=posOf (vE c) (jr cs)):=by
 have inj:∀q∈jr cs,wv q=wv (vE c)->q=vE c:=λq hq he=>by
  obtain⟨c',h1,_,rfl⟩:=ZJ.1 hq;exact K1 (IN (h c' h1).1 (h c' h1).2) (IN hc.1 hc.2) he
 refine⟨⟨λhm=>?_,λhm=>List.mem_map_of_mem hm⟩,λhm=>Pl λy hy he=>inj y hy he⟩;obtain⟨q,hq,he⟩:=pe.1 hm;rw[<-inj q hq he];exact hq
theorem z1s{R:Type}(N:Nat)(hN:2000000<=N){rows:List (List Int)}{n w:Nat}{t:Int}(h:ZK rows n w t)(kx:List (List Int)->Option R)(Q:R->Prop)(hq:zp (kx (pc (vF rows w))) Q):
  zp (iter (λq=>C5 N (w:Int) (vF rows w) q kx) N (0,([]:List (List Int)),([]:List (List UInt8×Int)),0)) Q:=by
 obtain⟨hl,hc,z7i⟩:=Ag h;obtain⟨n1,n2⟩:=h.n1;obtain⟨w1,w2⟩:=h.w1;obtain⟨t1,t2⟩:=h.t1;have hnn:∀c∈vF rows w,gV c:=λc h=>(hc c h).1
 have bnd:∀c∈vF rows w,∀x∈c,x<=1048576:=λc QR x hx=>by
  obtain⟨i,hi,rfl⟩:=Wl.1 hx;have u6:i<n:=by rw[(hc c QR).2]at hi;exact hi
  have e:c.getD i 0=c[i]:=by rw[ZB,wV hi];rfl
  have h1:=Ix (l:=(vF rows w).map λc=>c.getD i 0) (λy hy=>by
   obtain⟨c,Ke,rfl⟩:=pe.1 hy;exact uu (hnn c Ke) i) (x:=c.getD i 0) (List.mem_map_of_mem (f:=λc=>c.getD i 0) QR)
  have h2:xr ((vF rows w).map λc=>c.getD i 0)=t:=z7i i u6;omega
 have both:∀c∈vF rows w,gV c/\∀x∈c,x<=1048576:=λc h=>⟨hnn c h,bnd c h⟩
 refine zp.up (λj (s:List (List Int)×List (List UInt8×Int)×Int)=>s.1=pc ((vF rows w).take j)/\s.2.1=Ct (WL ((vF rows w).take j)) 0/\s.2.2<=(j:Int)) w ?_ ?_ N 0 (v8 _) (by omega) _ ⟨rfl,rfl,Z4z _⟩
 ·rintro j ⟨o0,o1,d⟩ kb hj ⟨e1,e2,hd⟩ hkb;simp only at e1 e2 hd;subst e1;subst e2;have gg:j<(vF rows w).length:=by omega
  have hm:=wB gg;have hcj:=hc _ hm;have hbj:=bnd _ hm;have htk:∀c∈(vF rows w).take j,gV c/\∀x∈c,x<=1048576:=λc h=>both c (Z2l h)
  have hcL:(vF rows w)[j].length<=4096:=by rw[hcj.2];omega
  have step:(vF rows w).take (j+1)=(vF rows w).take j++[(vF rows w)[j]]:=take_succ gg;simp only[C5];rw[dlt hj,zJ];simp only[wh gg,jQ hd,qx,zY gg,zO];rw[z8y N hN hcj.1 hbj hcL,zO];by_cases h0:yD (vF rows w)[j]=0
  ·rw[h0,show decide (((0:Nat):Int)=0)=true from rfl,zJ,zk (by omega)];refine hkb _ ⟨?_,?_,by simp only;omega⟩
   ·simp only;rw[step,Lv h0]
   ·simp only;rw[step];simp only[WL];rw[uV,qn (.inl h0)]
  ·rw[qd (by omega),zU,z8x N (by omega) hcj.1 hbj hcL (Z58 h0),zO];unfold f60;rw[z01 (by rw[J9];exact hcL),zO];obtain⟨k1,k2⟩:=z0x htk (both _ hm);have Ox:(vF rows w)[j].map (λx=>x/(yD (vF rows w)[j]:Int))=vE (vF rows w)[j]:=rfl;rw[Ox,U6 z6t];by_cases u6:vE (vF rows w)[j]∈jr ((vF rows w).take j)
   ·rw[qn (k1.2 u6),k2 u6];simp only[Option.isSome_some,Qv,zU,CU,Int.zero_add];have hp:posOf (vE (vF rows w)[j]) (jr ((vF rows w).take j))<(pc ((vF rows w).take j)).length:=by rw[pL];exact QJ u6
    obtain⟨⟨p1,p2⟩,p3⟩:=z6g ((vF rows w).take j) (λc h=>hc c (Z2l h)) _ (wB hp);rw[show Go.Kz.len (vF rows w)[j]=(n:Int) by simp only[Go.Kz.len,hcj.2]];refine OB N (by omega) hp gg n2 hcj.2 p2 (λx hx=>?_) d hd _ _ _ _ _ ?_
    ·have a1:=uu p1 x;have a2:=uu hcj.1 x;have a3:=p3 x hx;have a4:=z1x hnn x (j+1);rw[step,W6,z7i x hx]at a4;omega
    ·rw[zk (by omega)];refine hkb _ ⟨?_,?_,by simp only;omega⟩
     ·simp only;rw[step,Ra hcj.1 h0 u6,ZB,wV hp,CU]
     ·simp only;rw[step];simp only[WL];rw[uV,qn (.inr u6)]
   ·rw[qP (λhk=>u6 (k1.1 hk))];simp only[Option.isSome_none,Z1z,zJ];rw[vR (by rw[pL,jr];have:=Vd ([]:List (List Int)) ((((vF rows w).take j).filter λc=>decide (yD c≠0)).map vE);have:=Z37 (λc=>decide (yD c≠0)) ((vF rows w).take j);simp only[J9,CB,Z1y]at *;omega),zk (by omega)];refine hkb _ ⟨?_,?_,by simp only;omega⟩
    ·simp only;rw[step,Rb hcj.1 h0 u6]
    ·simp only;have e2:WL ((vF rows w).take j++[(vF rows w)[j]])=WL ((vF rows w).take j)++[wv (vE (vF rows w)[j])]:=by
      simp only[WL];rw[uV,qP (by simp[h0,u6]),XZ];rfl
     have e:Go.Kz.len (pc ((vF rows w).take j))=0+((WL ((vF rows w).take j)).length:Int):=by simp only[Go.Kz.len,pL,WL,J9];omega
     rw[step,e2,e,U5 z6t _ _ _ λhk=>u6 (k1.1 hk)]
 ·rintro⟨o0,o1,d⟩ kb ⟨e1,e2,hd⟩;simp only at e1;subst e1;simp only[C5];rw[z9m,zU,Z21 (by omega)];exact hq
theorem z9g(N:Nat)(hN:2000000<=N){rows:List (List Int)}{n w:Nat}{t:Int}(h:ZK rows n w t){l:List (List Int)}(hs:Ju (.sl false (.int .i64)) (λx y=>f63 N x y) (Ky (vF rows w))=some l)(hp:l.Perm (Ky (vF rows w))):
  f10 N (rows,())=some (vF l n,()):=by
 obtain⟨hl,hc,z7i⟩:=Ag h;obtain⟨n1,n2⟩:=h.n1;obtain⟨w1,w2⟩:=h.w1;obtain⟨t1,t2⟩:=h.t1;have hnn:∀c∈vF rows w,gV c:=λc h=>(hc c h).1
 have hml:(pc (vF rows w)).length<=4096:=by
  rw[pL,jr];have:=Vd ([]:List (List Int)) (((vF rows w).filter λc=>decide (yD c≠0)).map vE);have:=Z37 (λc=>decide (yD c≠0)) (vF rows w);simp only[J9,Z1y]at *;omega
 have hm:=z6g (vF rows w) hc;have N5:∀m∈pc (vF rows w),∀x∈m,x<=1048576:=λm hmm x hx=>by
  obtain⟨i,hi,rfl⟩:=Wl.1 hx;obtain⟨⟨_,q2⟩,q3⟩:=hm m hmm;have u6:i<n:=by omega
  have h1:=q3 i u6;rw[z7i i u6,ZB,wV hi,CU]at h1;omega
 have va:0<(jr (vF rows w)).length:=by
  refine Z58 λh0=>?_
  have hz:∀c∈vF rows w,yD c=0:=λc QR=>Z5u λhg=>by
   have:=ZJ.2 ⟨c,QR,hg,rfl⟩;rw[Z3h h0]at this;simp at this
  have h1:=z7i 0 (by omega);have h2:UU (vF rows w) 0=0:=by
   rw[UU];have:(vF rows w).map (λc=>c.getD 0 0)=(vF rows w).map λ_=>0:=TV λc QR=>by
    have Fh:0<c.length:=by rw[(hc c QR).2];omega
    have hx:=wB Fh;have hdv:=Zp hx;rw[hz c QR]at hdv;have:=Nat.eq_zero_of_zero_dvd hdv;have:=hnn c QR _ hx;rw[ZB,wV Fh,CU];omega
   rw[this];clear this
   induction (vF rows w) with
   |nil=>rfl
   |cons a b ih=>simpa using ih
  omega
 obtain⟨q,hq⟩:∃q,q∈jr (vF rows w):=⟨_,wB va⟩;have hG:=Tx hnn hq;refine zp.eq ?_;unfold f10;rw[Hw N (by omega) h,zO,Qv,zU,z8z N (by omega) (w:=w) (by rw[h.len];omega) h.wid (by rw[h.len];omega) (by omega),zO];simp only;rw[show Go.Kz.len (vF rows w)=(w:Int) by simp only[Go.Kz.len,hl]];refine zp.qV (by rw[hl];exact jQ (by omega)) (z1s N hN h _ _ ?_);refine zp.up (λk (s:Int)=>s=(yD ((pc (vF rows w)).take k).flatten:Int)) (pc (vF rows w)).length ?_ ?_ N 0 (v8 _) (by omega) _ rfl
 ·rintro k s kb hk rfl hkb;obtain⟨⟨q1,q2⟩,_⟩:=hm _ (wB hk);have hfl:yD ((pc (vF rows w)).take k).flatten<=1048576:=zf6 (λx hx=>by
   obtain⟨m,hmm,hx⟩:=Z4y.1 hx;exact(hm m (Z2l hmm)).1.1 x hx) λx hx=>by
   obtain⟨m,hmm,hx⟩:=Z4y.1 hx;exact N5 m (Z2l hmm) x hx
  simp only[Xs];rw[zb hk,zJ,wh hk,qx rfl,zY hk,zO,zO,vR (by rw[q2,Nat.add_eq];omega)];rw[z8y N hN (l:=_::_) (λx hx=>by
   rcases gJ.1 hx with rfl|hx
   ·omega
   ·exact q1 x hx) (λx hx=>by
   rcases gJ.1 hx with rfl|hx
   ·omega
   ·exact N5 _ (wB hk) x hx) (by rw[X4,q2];omega),zO,zk (by omega)]
  refine hkb _ ?_;rw[take_succ hk,List.flatten_append,Lm];simp only[yD,Z38,Wi,Z3f,List.flatten_nil,Hc]
 ·rintro s kb rfl;simp only[Xs];rw[show decide (((pc (vF rows w)).length:Int)<Go.Kz.len (pc (vF rows w)))=false from zH _,zU,Ki];refine zp.up (λk (s:List (List Int))=>s.length=(pc (vF rows w)).length/\∀i (hi:i<(pc (vF rows w)).length) (hs:i<s.length),s[i]=if i<k then (pc (vF rows w))[i].map (λx=>x/(cmn (pc (vF rows w)):Int)) else (pc (vF rows w))[i]) (pc (vF rows w)).length ?_ ?_ N 0 (v8 _) (by omega) _ ⟨rfl,λi _ _=>by rw[qP (by omega)]⟩
  ·rintro k s kb hk ⟨e1,e2⟩ hkb;have pg:k<s.length:=by omega
   have es:=e2 k hk pg;rw[qP (by omega)]at es;obtain⟨⟨q1,q2⟩,_⟩:=hm _ (wB hk);simp only[Xr];rw[zb hk,zJ];simp only[wh pg,qx,zY pg,zO,es];have ec:yD (pc (vF rows w)).flatten=cmn (pc (vF rows w)):=rfl;rw[ec,z8x N (by omega) q1 (N5 _ (wB hk)) (by rw[q2];omega) hG,zO,zk (by omega)];refine hkb _ ⟨by simp[qR,e1],λi hi hs=>?_⟩;simp only[qR,Wi,Z2z];split
   ·rename_i e;subst e;rw[qn (by omega)]
   ·rename_i e;rw[e2 i hi (by simpa[qR]using hs)];by_cases h1:i<k
    ·rw[qn h1,qn (by omega)]
    ·rw[qP h1,qP (by omega)]
  ·rintro s kb ⟨e1,e2⟩;simp only[Xr];rw[show decide (((pc (vF rows w)).length:Int)<Go.Kz.len (pc (vF rows w)))=false from zH _,zU];have en:s=Ky (vF rows w):=by
    apply I3
    ·simp[Ky,e1]
    ·intro i h1 h2;rw[e2 i (by omega) h1,qn (by omega)];simp[Ky]
   subst en;have LM:(Ky (vF rows w)).length=(jr (vF rows w)).length:=by simp[Ky,pL]
   have hlen:=RN hnn λc QR=>(hc c QR).2
   unfold f62;rw[hs,Z24,zO];simp only;rw[z8z N (by omega) (w:=n) (by rw[hp.length_eq,LM];exact va) (λr hr=>hlen r (hp.mem_iff.1 hr)) (by rw[hp.length_eq,LM,<-pL];exact hml) (by omega),zO];exact zp.ret rfl
end Go.Kz
namespace Go.Kz
def JC(A:List Int)(n:Int):Int:=A.getD n.toNat 0
theorem FN{A:List Int}{n:Int}(h0:0<=n)(h1:n<len A):idx A n=some (JC A n):=by
 have h2:n.toNat<A.length:=by simp only[len]at h1;omega
 have e:n=(n.toNat:Int):=by omega
 rw[e,zY h2,JC,Wi,ZB,wV h2,CU]
theorem By(F:Tm->Tm):∀l:List Tm,List.map (wo 0) (l.map λk=>ga (F k))=l.map F
 |[]=>rfl
 |x::l=>by
  have e:wo 0 (ga (F x))=F x:=by cases F x;rfl
  show wo 0 (ga (F x))::List.map (wo 0) (l.map λk=>ga (F k))=_;rw[e,By F l];rfl
theorem Mq(N:Nat)(hN:1000<=N)(vs:List zi)(vW:Bool)(A:List Int)(hA:A.length=vs.length):∀(M:Nat)(t:Tm),xP t<=M->xP t<=200->GN vs vW t=true->My N M (ga t) A=some (ga (CM (JC A) t))
 |0,t,h,_,_=>by have:=yG t;omega
 |M+1,t,h,ht,hf=>by
  show T8 N (My N M) (ga t) A=_;have ql:=pC t;have Uc:=kP t.kids;rw[KK,zA,Z2j]at hf;obtain⟨hhd,hkf⟩:=hf;have hh:=Zv hhd;have loop:∀(o n:Int),iter (λw=>Qe N (My N M) A t.kids (len t.kids) o n 0 0 w (λo2=>some (o,(n,(List.map (wo 0) o2,()))))) N (0,([]:List (Int×(Int×(List Tm×Unit)))))=some (o,(n,(t.kids.map (CM (JC A)),()))):=by
   intro o n;refine zp.eq ?_;refine zp.up (λj s=>s=(t.kids.take j).map λk=>ga (CM (JC A) k)) t.kids.length ?_ ?_ N 0 (v8 _) (by omega) _ rfl
   ·rintro j s w hj rfl hw;have hm:=wy (wB hj);simp only[Qe];rw[zb hj,zJ,zY hj,zO];rw[show My N M (t.kids[j].op,(t.kids[j].n,(t.kids[j].kids,()))) A=_ from Mq N hN vs vW A hA M t.kids[j] (by omega) (by omega) (hkf _ (wB hj)),zO,vR (by simp only[J9,CB,Z4m];omega),zk (by omega)];refine hw _ ?_;rw[take_succ hj,XZ];rfl
   ·rintro s w rfl;simp only[Qe];rw[show decide (((t.kids.length:Nat):Int)<len t.kids)=false from zH _,zU,Ki];refine zp.ret ?_;exact Wm (λz=>(o,(n,(z,())))) (By _ t.kids)
  unfold T8;rw[z6a];by_cases xV:t.op=24
  ·obtain⟨q1,q2⟩:=hh.ref xV;rw[jQ xV,zJ,show idx A (ga t).2.1=some (JC A t.n) from FN q1 (by simp only[len]at q2⊢;omega),zO,qn xV];exact loop _ _
  ·rw[qd xV,zU,qP xV];exact loop _ _
theorem T7(N:Nat)(hN:1000<=N){vs:List zi}{vW:Bool}{A:List Int}(hA:A.length=vs.length){t:Tm}(ht:xP t<=200)(hf:GN vs vW t=true):f137 N (ga t) A=some (ga (CM (JC A) t)):=
 Mq N hN vs vW A hA N t (by omega) ht hf
@[reducible] def spT (x:Sp):Int×(Int×(Int×(Int×((Int×(Int×(List Tm×Unit)))×(List Sp×(List Sp×(List Int×Unit))))))):=(x.act,(x.cost,(x.var,(x.n,(ga x.term,(x.jM,(x.ui,(x.bounds,()))))))))
theorem IE(x:Sp):wo 1 (spT x)=x:=by
 cases x with
 |mk a b c d t e f g=>cases t;rfl
theorem Bq(F:Sp->Sp):∀l:List Sp,List.map (wo 1) (l.map λk=>spT (F k))=l.map F
 |[]=>rfl
 |x::l=>by
  show wo 1 (spT (F x))::List.map (wo 1) (l.map λk=>spT (F k))=_;rw[IE,Bq F l];rfl
theorem z0e(x:Sp):jR 1 x=spT x:=rfl
theorem Gp{vs:List zi}{v:Int}(h:JG vs v=true):0<=v/\v<len vs:=by
 simp only[JG,zA,jc]at h;exact h.1
theorem C4(N:Nat)(hN:1000<=N)(f:zt)(A:List Int)(hA:A.length=f.1.length)(K:Nat)(hK:K<=100)(h8:f.2.1.length<=100):∀(M:Nat)(l:List Sp)(top:Bool),yA l<M->yA l<=200->JM f top l->z9e N M l A (K:Int)=some (xH (JC A) (K:Int) l)
 |0,l,_,h,_,_=>by omega
 |M+1,l,top,h,ht,hs=>by
  show T6 N (z9e N M) l A (K:Int)=_;have Uc:=vU l;unfold T6;refine zp.eq ?_;refine zp.up (λj s=>s=(l.take j).map λx=>spT (mvS (JC A) (K:Int) x)) l.length ?_ ?_ N 0 (v8 _) (by omega) _ rfl
  ·rintro j s w hj rfl hw;have hm:=kA (wB hj);have he:=kX l[j];have htp:=yG l[j].term;obtain⟨⟨q1,q2,q3⟩,q4,q5⟩:=(Z1 ..).1 (Y7 hs j hj);have hc:∀{R:Type}(x:Option R),qV (decide (Nat.succ ((l.take j).map λx=>spT (mvS (JC A) (K:Int) x)).length<=room)) x=x:=λx=>vR (by simp only[J9,CB,Z4m];omega)
   have step:∀v n:Int,v=(if l[j].act=0\/l[j].act=5 then JC A l[j].var else l[j].var)->n=(if l[j].act=5 then l[j].n+(K:Int) else l[j].n)->
     zp (w (zz ((j:Int)+1),((l.take j).map λx=>spT (mvS (JC A) (K:Int) x))++[(l[j].act,(l[j].cost,(v,(n,(((ga (CM (JC A) l[j].term)).1,(ga (CM (JC A) l[j].term)).2),(xH (JC A) (K:Int) l[j].jM,(xH (JC A) (K:Int) l[j].ui,(l[j].bounds,()))))))))])) (λy=>y=xH (JC A) (K:Int) l):=by
    rintro v n rfl rfl;rw[zk (by omega)];refine hw _ ?_;rw[take_succ hj,XZ,Qw,Z2b,z6b]
   simp only[P9];rw[zb hj,zJ,zY hj,zO];rw[show f137 N (l[j].term.op,(l[j].term.n,(l[j].term.kids,()))) A=_ from T7 N hN hA (by omega) q3.1,zO];have e1:=C4 N hN f A hA K hK h8 M l[j].jM false (by omega) (by omega) q4;have e2:=C4 N hN f A hA K hK h8 M l[j].ui false (by omega) (by omega) q5;by_cases a0:l[j].act=0
   ·obtain⟨v0,v1⟩:=Gp (q1.var (.inl a0));rw[jQ a0,zJ,zO,zJ,FN v0 (by simp only[len]at v1⊢;omega),zO,qd (show ¬l[j].act=5 by omega),zU,e1,e2,zO,zO,hc];exact step _ _ (by rw[qn (.inl a0)]) (by rw[qP (by omega)])
   rw[qd a0,zU,zO];by_cases a5:l[j].act=5
   ·obtain⟨v0,v1⟩:=Gp (q1.var (.inr a5));obtain⟨r1,r2⟩:=q1.rel a5;rw[jQ a5,zJ,FN v0 (by simp only[len]at v1⊢;omega),zO,zJ,e1,e2,zO,zO,hc,zx (n:=l[j].n+(K:Int)) (by omega) (by simp only[len]at r2;omega)];exact step _ _ (by rw[qn (.inr a5)]) (by rw[qn a5])
   ·rw[qd a5,zU,zU,e1,e2,zO,zO,hc];exact step _ _ (by rw[qP (by omega)]) (by rw[qP a5])
  ·rintro s w rfl;simp only[P9];rw[show decide (((l.length:Nat):Int)<len l)=false from zH _,zU,Ki];refine zp.ret ?_;have:∀l:List Sp,xH (JC A) (K:Int) l=l.map (mvS (JC A) (K:Int)):=λl=>by
    induction l with
    |nil=>rfl
    |cons x l ih=>simp only[xH,ih,Qw]
   rw[this];exact Bq _ l
theorem T9(N:Nat)(hN:1000<=N){i:Nat}(hi:i<100):zp (f136 N (i:Int)) λr=>r.length<=2:=by
 have rb:room=4294967296:=rfl;have sl:∀d:Nat,d<10->(sub ([48,49,50,51,52,53,54,55,56,57]:List UInt8) (d:Int) ((d:Int)+1)).length=1:=λd hd=>by
  have:d=0\/d=1\/d=2\/d=3\/d=4\/d=5\/d=6\/d=7\/d=8\/d=9:=by omega
  rcases this with rfl|rfl|rfl|rfl|rfl|rfl|rfl|rfl|rfl|rfl<;>rfl
 have one:∀(r:R9)(d:Nat),d<10->zp (EP N r (d:Int)) λr=>r.length<=1:=λr d hd=>by
  unfold EP;rw[qd (by omega),zU,jQ (by omega),zJ,zk (by omega)];refine zp.qV (by simp only[zA,jc];omega) (zp.ret ?_);rw[sl d hd];exact jq _
 obtain⟨M,rfl⟩:∃M,N=M+2:=⟨N-2,by omega⟩;show zp (EP (M+2) (Tz (M+2) (M+1)) (i:Int)) _;by_cases h10:i<10
 ·exact(one _ i h10).mono λr h=>by omega
 ·have t1:Int.tdiv (i:Int) 10=((i/10:Nat):Int):=(Int.ofNat_tdiv i 10).symm;have t2:Int.tmod (i:Int) 10=((i%10:Nat):Int):=(Z5b i 10).symm;have t3:i/10<10:=by omega
  have t4:i%10<10:=by omega
  unfold EP;rw[qd (by omega),zU,qd (by omega),zU,t1,t2,zk (by omega),zx (n:=((i/10:Nat):Int)) (by omega) (by omega)];refine zp.qV (by simp only[zA,jc];omega) ?_;refine zp.then (show zp (Tz (M+2) (M+1) ((i/10:Nat):Int)) _ from one (Tz (M+2) M) (i/10) t3) λr hr=>?_
  have w1:Go.IntKind.i64.wrap (((i%10:Nat):Int).add 1)=((i%10:Nat):Int)+1:=zk (by omega);rw[w1,sl _ t4];refine zp.qV (jQ (by rw[Nat.add_eq];omega)) (zp.ret ?_);rw[Jz,sl _ t4];omega
end Go.Kz
namespace Go.Kz
def uO(vs:List zi)(k:Int):Nat->List Int
 |0=>[]
 |n+1=>match vs[n]? with
  |some v=>if v.2.1=k then uO vs k n++[(n:Int)] else uO vs k n
  |none=>uO vs k n
theorem Va(vs:List zi)(k:Int){n:Nat}(h:n<vs.length):uO vs k (n+1)=if vs[n].2.1=k then uO vs k n++[(n:Int)] else uO vs k n:=by
 simp only[uO,wV h]
theorem Jn(vs:List zi)(k:Int):∀n,n<=vs.length->(uO vs k n).length=jA vs k n
 |0,_=>rfl
 |n+1,h=>by
  rw[Va vs k (show n<vs.length by omega),kr vs k (show n<vs.length by omega)];have:=Jn vs k n (by omega);split<;>simp[this]
theorem FV(vs:List zi)(k:Int):∀n,(uO vs k n).length<=n
 |0=>jq _
 |n+1=>by
  have:=FV vs k n;simp only[uO];split
  ·split
   ·simp;omega
   ·omega
  ·omega
theorem Ab(vs:List zi)(k:Int):∀n,n<=vs.length->∀c (hc:c<(uO vs k n).length),∃i:Nat,∃hi:i<vs.length,(uO vs k n)[c]=(i:Int)/\vs[i].2.1=k/\jA vs k i=c
 |0,_,c,hc=>by simp[uO]at hc
 |n+1,h,c,hc=>by
  have hn:n<vs.length:=by omega
  have ih:=Ab vs k n (by omega);have hl:=Jn vs k n (by omega);have e:=Va vs k hn;by_cases hk:vs[n].2.1=k
  ·rw[qn hk]at e;simp only[e]at hc⊢;by_cases h1:c<(uO vs k n).length
   ·obtain⟨i,hi,e1,e2,e3⟩:=ih c h1;exact⟨i,hi,by rw[Z5l h1,e1],e2,e3⟩
   ·have:c=(uO vs k n).length:=by simp at hc;omega
    subst this;exact⟨n,hn,by simp,hk,hl.symm⟩
  ·rw[qP hk]at e;simp only[e]at hc⊢;exact ih c hc
def JA(f g:List zi)(k:Int)(A:List Int)(n:Nat):Prop:=∀j (hj:j<g.length),j<n->g[j].2.1=k->
 ∃i:Nat,∃hi:i<f.length,A[j]? = some (i:Int)/\f[i].2.1=k/\jA f k i=jA g k j/\f[i].2.2.1=g[j].2.2.1/\f[i].2.2.2.1=g[j].2.2.2.1
theorem z1p{R:Type}(N:Nat)(hN:1000<=N)(f g:zt)(k:Int)(hf:f.1.length<=20)(a b:Int)(o1 o4:List Int)(o6:List zi)(o7:List Jv)(kx:List Int->Option R)(Q:R->Prop)(hx:zp (kx (uO f.1 k f.1.length)) Q):
  zp (iter (λw=>Bd N k f.1 a b (len f.1) o1 f g o4 o6 o7 w kx) N (0,([]:List Int))) Q:=by
 refine zp.up (λj s=>s=uO f.1 k j) f.1.length ?_ ?_ N 0 (v8 _) (by omega) _ rfl
 ·rintro j s w hj rfl hw;have hl:=FV f.1 k j;simp only[Bd];rw[zb hj,zJ,zY hj,zO];by_cases hk:f.1[j].2.1=k
  ·rw[jQ hk,zJ,vR (by rw[Z4m];omega),zk (by omega)];exact hw _ (by rw[Va _ _ hj,qn hk])
  ·rw[qd hk,zU,zk (by omega)];exact hw _ (by rw[Va _ _ hj,qP hk])
 ·rintro s w rfl;simp only[Bd];rw[show decide (((f.1.length:Nat):Int)<len f.1)=false from zH _,zU];exact hx
theorem OX{R:Type}(N:Nat)(hN:1000<=N)(f g:zt)(k:Int)(hf:f.1.length<=20)(hg:g.1.length<=20)(a b:Int)(A0 o5:List Int)(hA:A0.length=g.1.length)(o7:List zi)(o8:List Jv)(qk:Bool->Option R)(kx:Int->List Int->Option R)(Q:R->Prop)(hr:zp (qk false) Q)
  (hx:∀A:List Int,A.length=g.1.length->(∀j (hj:j<g.1.length),g.1[j].2.1≠k->A[j]? = A0[j]?)->JA f.1 g.1 k A g.1.length->zp (kx (jA g.1 k g.1.length:Int) A) Q) :
  zp (iter (λw=>GS N k g.1 a b (len g.1) (uO f.1 k f.1.length) f g o5 o7 o8 w qk kx) N (0,0,A0)) Q:=by
 have gX:=Jn f.1 k f.1.length (jq _);have hpe:=FV f.1 k f.1.length;refine zp.up (λj (s:Int×List Int)=>s.1=(jA g.1 k j:Int)/\jA g.1 k j<=(uO f.1 k f.1.length).length/\s.2.length=g.1.length/\(∀i (hi:i<g.1.length),g.1[i].2.1≠k->s.2[i]? = A0[i]?)/\JA f.1 g.1 k s.2 j) g.1.length ?_ ?_ N 0 (v8 _) (by omega) _ ⟨rfl,v8 _,hA,λ_ _ _=>rfl,λj hj h=>by omega⟩
 ·rintro j ⟨c,A⟩ w hj ⟨e1,e2,e3,e4,e5⟩ hw;simp only at e1 e3 e4 e5;subst e1;simp only[GS];rw[zb hj,zJ,zY hj,zO];by_cases hk:g.1[j].2.1=k
  ·rw[jQ hk,Qv,zU];by_cases hc:jA g.1 k j=(uO f.1 k f.1.length).length
   ·rw[show decide ((jA g.1 k j:Int)=len (uO f.1 k f.1.length))=true by rw[jc,hc],zJ,zO,zJ,zO,zJ];exact hr
   ·have Ke:jA g.1 k j<(uO f.1 k f.1.length).length:=by omega
    obtain⟨i,hi,p1,p2,p3⟩:=Ab f.1 k f.1.length (jq _) _ Ke;have hjA:j<A.length:=by omega
    have ei:idx (uO f.1 k f.1.length) (jA g.1 k j:Int)=some (i:Int):=by rw[zY Ke,p1]
    rw[qd (show ¬(jA g.1 k j:Int)=len (uO f.1 k f.1.length) by simp only[len];omega),zU];simp only[wh Ke,qx,ei,zY hi,zO];by_cases h1:f.1[i].2.2.1=g.1[j].2.2.1
    ·rw[jQ h1,Qv,zU,zO];by_cases h2:f.1[i].2.2.2.1=g.1[j].2.2.2.1
     ·rw[jQ h2,Qv,zU,wh hjA,qx rfl,zY hjA,zO,zO,zk (by omega),zk (by omega)];refine hw _ ⟨?_,?_,by simp[qR,e3],λi' wu pg=>?_,λi' wu yP pg=>?_⟩
      ·simp only;rw[kr g.1 k hj,qn hk];simp
      ·rw[kr g.1 k hj,qn hk];omega
      ·simp only[qR,Wi];rw[Z5d (by intro he;subst he;exact pg hk)];exact e4 i' wu pg
      ·simp only[qR,Wi];by_cases he:j=i'
       ·subst he;exact⟨i,hi,by rw[List.getElem?_set_self hjA],p2,p3,h1,h2⟩
       ·rw[Z5d he];exact e5 i' wu (by omega) pg
     ·rw[qd h2,Z1z,zJ];exact hr
    ·rw[qd h1,Z1z,zJ,zO,zJ];exact hr
  ·rw[qd hk,Z1z,zJ,zk (by omega)];have ec:jA g.1 k (j+1)=jA g.1 k j:=by rw[kr g.1 k hj,qP hk]
   refine hw _ ⟨by simp only;rw[ec],by rw[ec];exact e2,e3,e4,λi' wu yP pg=>?_⟩;by_cases he:j=i'
   ·subst he;exact absurd pg hk
   ·exact e5 i' wu (by omega) pg
 ·rintro⟨c,A⟩ w ⟨e1,_,e3,e4,e5⟩;simp only at e1 e3 e4 e5;subst e1;simp only[GS];rw[show decide (((g.1.length:Nat):Int)<len g.1)=false from zH _,zU];exact hx A e3 e4 e5
end Go.Kz
namespace Go.Kz
def pW(v:zi):Bool:=decide (v.2.1=3)||decide (v.2.1=0)
def xk(vs:List zi)(j:Nat):Nat:=((vs.take j).filter pW).length
theorem EH(vs:List zi){j:Nat}(hj:j<vs.length):xk vs (j+1)=if pW vs[j]=true then xk vs j+1 else xk vs j:=by
 simp only[xk,take_succ hj,Z26,Jz];cases h:pW vs[j]<;>simp[h]
theorem zg5(vs:List zi)(j:Nat):xk vs j<=j:=Z1o (Z37 ..) (by simp[Z48])
def zoa(vs:List zi)(F:Nat)(A:List Int)(n:Nat):Prop:=∀j (hj:j<vs.length),j<n->pW vs[j]=true->A[j]? = some ((F+xk vs j:Nat):Int)
theorem OU{R:Type}(N:Nat)(hN:1000<=N)(f g:zt)(hf:f.1.length<=20)(hg:g.1.length<=20)(A0:List Int)(hA:A0.length=g.1.length)(o2:List Jv)(kx:List zi->List Int->Option R)(Q:R->Prop)
  (hx:∀W A,W.map Prod.snd=(g.1.filter pW).map Prod.snd->A.length=g.1.length->(∀j (hj:j<g.1.length),pW g.1[j]=false->A[j]? = A0[j]?)->zoa g.1 f.1.length A g.1.length->zp (kx (f.1++W) A) Q) :
  zp (iter (λw=>GR N g.1 (len g.1) o2 f g w kx) N (0,f.1,A0)) Q:=by
 refine zp.up (λj (s:List zi×List Int)=>(∃W,s.1=f.1++W/\W.map Prod.snd=((g.1.take j).filter pW).map Prod.snd)/\s.2.length=g.1.length/\(∀i (hi:i<g.1.length),pW g.1[i]=false->s.2[i]? = A0[i]?)/\zoa g.1 f.1.length s.2 j) g.1.length ?_ ?_ N 0 (v8 _) (by omega) _ ⟨⟨[],by simp,rfl⟩,hA,λ_ _ _=>rfl,λj hj h=>by omega⟩
 ·rintro j ⟨V,A⟩ w hj ⟨⟨W,e1,e2⟩,e3,e4,e5⟩ hw;simp only at e1 e3 e4 e5;subst e1;have hjA:j<A.length:=by omega
  have hWl:W.length=xk g.1 j:=by have:=Wm List.length e2;simpa[xk]using this
  have ZA:=zg5 g.1 j;simp only[GR];rw[zb hj,zJ,zY hj,zO];have eb:(cond (decide (g.1[j].2.1=3)) (some true) (some (decide (g.1[j].2.1=0))))=some (pW g.1[j]):=by
   unfold pW;cases decide (g.1[j].2.1=3)<;>rfl
  rw[eb,zO]
  cases ho:pW g.1[j]with
  |true=>
   rw[zJ,wh hjA,qx rfl,zY hjA,zO,zO];refine zp.then (T9 N hN (show j<100 by omega)) λr hr=>?_
   rw[vR (by rw[Nat.add_eq];omega),vR (by rw[Z4m,Jz];omega),zk (by omega)];refine hw _ ⟨⟨W++[((103::(95::r)),g.1[j].2)],?_,?_⟩,by simp[qR,e3],λi hi hk=>?_,λi hi yP hk=>?_⟩
   ·simp
   ·rw[take_succ hj,Z26,XZ,XZ,e2];simp[ho]
   ·simp only[qR,Wi];rw[Z5d (by intro he;subst he;rw[ho]at hk;simp at hk)];exact e4 i hi hk
   ·simp only[qR,Wi];by_cases he:j=i
    ·subst he;rw[List.getElem?_set_self hjA];simp only[len,Jz,hWl]
    ·rw[Z5d he]
     exact e5 i hi (by omega) hk
  |false=>
   rw[zU,zk (by omega)];refine hw _ ⟨⟨W,rfl,?_⟩,e3,e4,λi hi yP hk=>?_⟩
   ·rw[take_succ hj,Z26,XZ,e2];simp[ho]
   ·by_cases he:j=i
    ·subst he;rw[ho]at hk;simp at hk
    ·exact e5 i hi (by omega) hk
 ·rintro⟨V,A⟩ w ⟨⟨W,e1,e2⟩,e3,e4,e5⟩;simp only at e1 e3 e4 e5;subst e1;simp only[GR];rw[show decide (((g.1.length:Nat):Int)<len g.1)=false from zH _,zU];rw[Ki]at e2;exact hx W A e2 e3 e4 e5
def mvH(m:Int->Int)(h:Jv):Int×(Int×(CC×Unit)):=(h.2.1,(h.2.2.1,(ga (CM m (Xu h.2.2.2.1)),())))
theorem OP{R:Type}(N:Nat)(hN:1000<=N)(f g:zt)(V:List zi)(A:List Int)(hA:A.length=g.1.length)(hf:f.2.1.length<=20)(hg:g.2.1.length<=20)(ht:∀h∈g.2.1,xP (Xu h.2.2.2.1)<=200/\GN g.1 true (Xu h.2.2.2.1)=true)(kx:List Jv->Option R)(Q:R->Prop)
  (hx:∀H,H.map Prod.snd=g.2.1.map (mvH (JC A))->zp (kx (f.2.1++H)) Q) :
  zp (iter (λw=>GO N A g.2.1 (len g.2.1) V f g w kx) N (0,f.2.1)) Q:=by
 refine zp.up (λj (s:List Jv)=>∃H,s=f.2.1++H/\H.map Prod.snd=(g.2.1.take j).map (mvH (JC A))) g.2.1.length ?_ ?_ N 0 (v8 _) (by omega) _ ⟨[],by simp,rfl⟩
 ·rintro j s w hj ⟨H,rfl,e2⟩ hw;have hHl:H.length=j:=by have:=Wm List.length e2;simp at this;omega
  obtain⟨t1,t2⟩:=ht _ (wB hj);simp only[GO];rw[zb hj,zJ,zY hj,zO];refine zp.then (T9 N hN (show j<100 by omega)) λr hr=>?_
  rw[vR (by rw[Nat.add_eq];omega),show f137 N (g.2.1[j].2.2.2.1.1,g.2.1[j].2.2.2.1.2) A=some (ga (CM (JC A) (Xu g.2.1[j].2.2.2.1))) from T7 N hN hA t1 t2,zO,vR (by rw[Z4m,Jz];omega),zk (by omega)];refine hw _ ⟨H++[((103::(95::r)),mvH (JC A) g.2.1[j])],?_,?_⟩
  ·rw[<-XQ];rfl
  ·rw[take_succ hj,XZ,XZ,e2];rfl
 ·rintro s w ⟨H,rfl,e2⟩;simp only[GO];rw[show decide (((g.2.1.length:Nat):Int)<len g.2.1)=false from zH _,zU];rw[Ki]at e2;exact hx H e2
mutual
theorem Nu(m:Int->Int):∀t:Tm,xP (CM m t)=xP t
 |⟨op,n,ks⟩=>by simp only[CM,xP,Rp m ks]
theorem Rp(m:Int->Int):∀l:List Tm,uq (Lj m l)=uq l
 |[]=>rfl
 |k::ks=>by simp only[Lj,uq,Nu m k,Rp m ks]
end
mutual
theorem zk6(m:Int->Int)(k:Int):∀x:Sp,ssz (mvS m k x)=ssz x
 |⟨a,c,v,n,t,x,y,b⟩=>by simp only[mvS,ssz,Nu,G0 m k x,G0 m k y]
theorem G0(m:Int->Int)(k:Int):∀l:List Sp,yA (xH m k l)=yA l
 |[]=>rfl
 |x::l=>by simp only[xH,yA,zk6 m k x,G0 m k l]
end
theorem IY:∀a b:List Sp,yA (a++b)=yA a+yA b
 |[],b=>by simp[yA]
 |x::a,b=>by simp only[Qm,yA,IY a b];omega
theorem LB:∀a b:List Jv,p4 (a++b)=p4 a+p4 b
 |[],b=>by simp[p4]
 |x::a,b=>by simp only[Qm,p4,LB a b];omega
theorem S6(m:Int->Int):∀(H l:List Jv),H.map Prod.snd=l.map (mvH m)->p4 H=p4 l
 |[],[],_=>rfl
 |[],_::_,h=>by simp at h
 |_::_,[],h=>by simp at h
 |x::H,y::l,h=>by
  simp only[Qw,CA]at h;have h1:ql x=ql y:=by
   simp only[ql];rw[h.1];simp only[mvH];rw[A2,Nu]
  simp only[p4,h1,S6 m H l h.2]
structure zay (f g h:zt) (A:List Int):Prop where
 wf:WF h
 len:A.length=g.1.length
 FL:JA f.1 g.1 1 A g.1.length
 LG:JA f.1 g.1 2 A g.1.length
 znb:(qh g.1 1).length=(qh f.1 1).length
 q3w:(qh g.1 2).length=(qh f.1 2).length
 own:zoa g.1 f.1.length A g.1.length
 vars:∃W,h.1=f.1++W/\W.map Prod.snd=(g.1.filter pW).map Prod.snd
 GD:∃H,h.2.1=f.2.1++H/\H.map Prod.snd=g.2.1.map (mvH (JC A))
 body:h.2.2.1=f.2.2.1++xH (JC A) (f.2.1.length:Int) g.2.2.1
theorem JA.other{f g:List zi}{k k':Int}{A B:List Int}(hk:k≠k')(h:JA f g k A g.length)(he:∀j (hj:j<g.length),g[j].2.1≠k'->B[j]? = A[j]?):JA f g k B g.length:=λj hj yP hkj=>by
 obtain⟨i,hi,h1,h2⟩:=h j hj yP hkj;exact⟨i,hi,by rw[he j hj (by rw[hkj];exact hk),h1],h2⟩
theorem z1q{R:Type}(N:Nat)(hN:1000<=N)(f g:zt)(hf:f.1.length<=20)(hg:g.1.length<=20)(A0:List Int)(hA:A0.length=g.1.length)(o6:List zi)(o7:List Jv)(qk:Bool->Option R)(kx:List Int->Option R)(Q:R->Prop)(hr:zp (qk false) Q)
  (hx:∀A:List Int,A.length=g.1.length->JA f.1 g.1 1 A g.1.length->JA f.1 g.1 2 A g.1.length->(qh g.1 1).length=(qh f.1 1).length->(qh g.1 2).length=(qh f.1 2).length->zp (kx A) Q) :
  zp (iter (λw=>Be N ((2:Nat):Int) f g (1::(2::([]:List Int))) o6 o7 w qk kx) N (0,A0)) Q:=by
 refine zp.up (λj (A:List Int)=>A.length=g.1.length/\(1<=j->JA f.1 g.1 1 A g.1.length/\(qh g.1 1).length=(qh f.1 1).length)/\(2<=j->JA f.1 g.1 2 A g.1.length/\(qh g.1 2).length=(qh f.1 2).length)) 2 ?_ ?_ N 0 (v8 _) (by omega) _ ⟨hA,λh=>by omega,λh=>by omega⟩
 ·rintro j A w hj ⟨e1,e2,e3⟩ hw;simp only[Be];rw[jQ (show(j:Int)<((2:Nat):Int) by omega),zJ];have ek:idx (1::(2::([]:List Int))) (j:Int)=some ((j:Int)+1):=by
   have:j=0\/j=1:=by omega
   rcases this with rfl|rfl<;>rfl
  rw[wh (by simpa using hj),qx rfl,ek,zO];refine z1p N hN f g _ hf _ _ _ _ _ _ _ _ ?_;refine OX N hN f g _ hf hg _ _ A _ e1 _ _ _ _ _ hr λB b1 b2 b3=>?_
  have gX:len (uO f.1 ((j:Int)+1) f.1.length)=((qh f.1 ((j:Int)+1)).length:Int):=by simp only[len,Jn f.1 _ _ (jq _),Qh]
  rw[gX,Qh];by_cases hc:((qh g.1 ((j:Int)+1)).length:Int)=((qh f.1 ((j:Int)+1)).length:Int)
  ·rw[jQ hc,Qv,zU,zk (by omega)];have:j=0\/j=1:=by omega
   rcases this with rfl|rfl
   ·refine hw _ ⟨b1,λ_=>⟨b3,Int.ofNat.inj hc⟩,λh=>by omega⟩
   ·refine hw _ ⟨b1,λ_=>⟨(e2 (by omega)).1.other (k':=2) (by omega) b2,(e2 (by omega)).2⟩,λ_=>⟨b3,Int.ofNat.inj hc⟩⟩
  ·rw[qd hc,Z1z,zJ];exact hr
 ·rintro A w ⟨e1,e2,e3⟩;simp only[Be];rw[show decide (((2:Nat):Int)<((2:Nat):Int))=false from rfl,zU];exact hx A e1 (e2 (by omega)).1 (e3 (by omega)).1 (e2 (by omega)).2 (e3 (by omega)).2
theorem z27(a b:List Sp):List.map (wo 1) (List.append (List.map (jR 1) a) (List.map (jR 1) b))=a++b:=by
 have e:∀l:List Sp,List.map (wo 1) (List.map (jR 1) l)=l:=λl=>by
  induction l with
  |nil=>rfl
  |cons x l ih=>
   show wo 1 (jR 1 x)::List.map (wo 1) (List.map (jR 1) l)=_;rw[ih,z0e,IE]
 rw[List.append_eq,<-XZ,e]
theorem zn5(N:Nat)(hN:1000<=N){f g:zt}(hf:WF f)(hg:WF g)(sf:Mh f)(sg:Mh g):zp (f49 N f g) λr=>r.2=true->∃A,zay f g r.1 A:=by
 obtain⟨f1,f2,f3⟩:=id sf;obtain⟨g1,g2,g3⟩:=id sg;have rb:room=4294967296:=rfl;unfold f49 f134 f135;rw[vR (by omega),zO,vR (by omega),zO];refine zp.qV (by simp only[len,zA,jc];omega) ?_;rw[show Int.toNat (len g.1)=g.1.length from Wi _];refine z1q N hN f g (by omega) (by omega) _ (by simp) _ _ _ _ _ (zp.ret λh=>by simp at h) λA0 a1 i1 i2 c1 c2=>?_
 refine OU N hN f g (by omega) (by omega) A0 a1 _ _ _ λW A w1 w2 w3 w4=>?_
 have hot:∀k:Int,k=1\/k=2->∀{v:zi},v.2.1=k->pW v=false:=λk hk v hv=>by
  unfold pW;rw[hv];rcases hk with rfl|rfl<;>rfl
 have mv:∀k:Int,k=1\/k=2->JA f.1 g.1 k A0 g.1.length->JA f.1 g.1 k A g.1.length:=λk hk h j hj yP hkj=>by
  obtain⟨i,hi,h1,h2⟩:=h j hj yP hkj;exact⟨i,hi,by rw[w3 j hj (hot k hk hkj),h1],h2⟩
 have hht:∀h∈g.2.1,xP (Xu h.2.2.2.1)<=200/\GN g.1 true (Xu h.2.2.2.1)=true:=λh hh=>by
  have h1:=Zy hh;obtain⟨i,hi,rfl⟩:=Wl.1 hh;simp only[ql]at h1;exact⟨by omega,((hg.GD i hi).term).1⟩
 refine OP N hN f g _ A w2 (by omega) (by omega) hht _ _ λH hH=>?_
 have last:∀l:List Sp,2*l.length<=200->zp (cond (decide (0<len l)) ((idx l (zz (len l-1))).bind λx=>some (decide (x.1=6))) (some false)) λ_=>True:=λl hl=>by
  refine zp.cond (λh=>?_) λ_=>zp.ret trivial
  have h:=X1 h;simp only[len]at h;have h0:0<l.length:=by omega
  rw[show zz (len l-1)=((l.length-1:Nat):Int) from xS h0 (by omega),zY (by omega),zO];exact zp.ret trivial
 have lf:=vU f.2.2.1;have lg:=vU g.2.2.1;refine zp.then (last f.2.2.1 (by omega)) λb _=>?_
 refine zp.cond (λ_=>zp.ret λh=>by simp at h) λ_=>?_
 refine zp.then (last g.2.2.1 (by omega)) λb _=>?_
 refine zp.cond (λ_=>zp.ret λh=>by simp at h) λ_=>?_
 unfold f138;rw[vR (by simp only[J9];omega),zO];rw[show f139 N g.2.2.1 A (len f.2.1)=some (xH (JC A) (f.2.1.length:Int) g.2.2.1) from C4 N hN g A w2 f.2.1.length (by omega) (by omega) N g.2.2.1 true (by omega) (by omega) hg.steps,zO];have lm:(xH (JC A) (f.2.1.length:Int) g.2.2.1).length<=100:=by
  have:=vU (xH (JC A) (f.2.1.length:Int) g.2.2.1);rw[G0]at this;omega
 refine zp.qV (jQ (Z1o (Nat.add_le_add (Z3d (J9 ..)) (Z3d (J9 ..))) (by omega))) ?_;have hWl:W.length<=10:=by
  have:=Wm List.length w1;have h2:=Z37 pW g.1;simp only[J9]at this;omega
 have hHl:H.length<=10:=by have:=Wm List.length hH;simp only[J9]at this;omega
 have key:∀X:List Sp,X=f.2.2.1++xH (JC A) (f.2.1.length:Int) g.2.2.1->zp ((f66 N (f.1++W,(f.2.1++H,(X,())))).bind λVS=>some ((f.1++W,(f.2.1++H,(X,()))),decide (VS=0))) (λr=>r.2=true->∃A,zay f g r.1 A):=by
  rintro X rfl;refine zp.then (z8v N hN (f.1++W,(f.2.1++H,(f.2.2.1++xH (JC A) (f.2.1.length:Int) g.2.2.1,()))) ⟨by simp only[Jz];omega,by simp only[Jz];omega,by
   simp only[IY,G0,LB,S6 (JC A) H g.2.1 hH];omega⟩) λc hc=>zp.ret λh=>?_
  exact⟨A,hc (X1 h),w2,mv 1 (.inl rfl) i1,mv 2 (.inr rfl) i2,c1,c2,w4,⟨W,rfl,w1⟩,⟨H,rfl,hH⟩,rfl⟩
 exact key _ (z27 _ _)
end Go.Kz
namespace Go.Kz
def rg(v:zi):Int×Int:=(v.2.2.1,v.2.2.2.1)
theorem z3s{v w:zi}(h:rg v=rg w):KR v=KR w:=by
 simp only[rg,p8]at h;simp only[KR,h.1,h.2]
theorem uN:∀{l m:List zi},l.map rg=m.map rg->zf l=zf m
 |[],[],_=>rfl
 |[],_::_,h=>by simp at h
 |_::_,[],h=>by simp at h
 |x::l,y::m,h=>by
  simp only[Qw,CA]at h;simp only[zf,z3s h.1,uN h.2]
theorem zn8{l m:List zi}(h:l.map rg=m.map rg)(r:Int)(i:Nat):OH l r i=OH m r i:=by
 have hl:l.length=m.length:=by have:=Wm List.length h;simpa using this
 have hd:zf (l.drop (i+1))=zf (m.drop (i+1)):=uN (by rw[Z51,Z51,h]);unfold OH;by_cases hi:i<l.length
 ·have wu:i<m.length:=by omega
  have e:rg l[i]=rg m[i]:=by
   have:=Wm (λz:List (Int×Int)=>z[i]?) h;simpa[hi,wu]using this
  rw[wV hi,wV wu];simp only[hd,z3s e];simp only[rg,p8]at e;rw[e.1]
 ·rw[Z2s (by omega),Z2s (by omega)]
theorem z3x{l m:List zi}(h:l.map rg=m.map rg)(r:Int)(n:Nat):xu l r n=xu m r n:=TV λi _=>zn8 h r i
theorem Fits.rg{l m:List zi}(h:l.map rg=m.map rg){p:List Int}(hp:Fits l p):Fits m p:=by
 have hl:l.length=m.length:=by have:=Wm List.length h;simpa using this
 refine⟨hp.len.trans hl,λi hi wu=>?_⟩;have e:Go.Kz.rg l[i]=Go.Kz.rg m[i]:=by
  have:=Wm (λz:List (Int×Int)=>z[i]?) h;simpa[hi,(show i<l.length by omega)]using this
 simp only[Go.Kz.rg,p8]at e;have:=hp.bd i (by omega) wu;omega
theorem zf9{I:Type}{p:I->Bool}{l:List I}{j:Nat}(hj:j<l.length)(hp:p l[j]=true):(l.filter p)[((l.take j).filter p).length]? = some l[j]/\(l.filter p).take ((l.take j).filter p).length=(l.take j).filter p:=by
 have e:l.filter p=(l.take j).filter p++l[j]::(l.drop (j+1)).filter p:=by
  conv=>lhs;rw[<-Z1v j l,Z2a hj,Z26,Z3t hp]
 constructor
 ·rw[e,Z36 (jq _),Z44];rfl
 ·rw[e,List.take_left]
theorem Tu(vs:List zi)(k:Int){i j:Nat}(h:i<=j):jA vs k i<=jA vs k j:=by
 unfold jA qh;have:vs.take i=(vs.take j).take i:=by rw[Z2t,Z43 h]
 rw[this];exact((List.take_sublist i (vs.take j)).filter _).length_le
theorem z9r{vs:List zi}{k:Int}{i j:Nat}(hi:i<vs.length)(hj:j<vs.length)(h1:vs[i].2.1=k)(h2:vs[j].2.1=k)(h:jA vs k i=jA vs k j):i=j:=by
 have a1:=kr vs k hi;have a2:=kr vs k hj;rw[qn h1]at a1;rw[qn h2]at a2;rcases Z56 i j with yP|he|yP
 ·have:=Tu vs k (show i+1<=j by omega);omega
 ·exact he
 ·have:=Tu vs k (show j+1<=i by omega);omega
theorem EI(vs:List zi){i j:Nat}(h:i<=j):xk vs i<=xk vs j:=by
 unfold xk;have:vs.take i=(vs.take j).take i:=by rw[Z2t,Z43 h]
 rw[this];exact((List.take_sublist i (vs.take j)).filter _).length_le
theorem z9q{vs:List zi}{i j:Nat}(hi:i<vs.length)(hj:j<vs.length)(h1:pW vs[i]=true)(h2:pW vs[j]=true)(h:xk vs i=xk vs j):i=j:=by
 have a1:=EH vs hi;have a2:=EH vs hj;rw[qn h1]at a1;rw[qn h2]at a2;rcases Z56 i j with yP|he|yP
 ·have:=EI vs (show i+1<=j by omega);omega
 ·exact he
 ·have:=EI vs (show j+1<=i by omega);omega
theorem Ai(vs:List zi){j:Nat}{k:Int}(hj:j<vs.length)(hk:vs[j].2.1=k):jA vs k j<(qh vs k).length/\(qh vs k)[jA vs k j]? = some vs[j]:=by
 subst hk;obtain⟨h,e⟩:=z5s vs hj;exact⟨h,by rw[wV h,e]⟩
theorem O8{f g:List zi}{k:Int}{A:List Int}(h:JA f g k A g.length)(hl:(qh g k).length=(qh f k).length):(qh f k).map rg=(qh g k).map rg:=by
 apply Z2v;intro c;by_cases hc:c<(qh g k).length
 ·have Ke:c<(uO g k g.length).length:=by rw[Jn g k _ (jq _),Qh];exact hc
  obtain⟨j,hj,_,p2,p3⟩:=Ab g k g.length (jq _) c Ke;obtain⟨i,hi,_,q2,q3,q4,q5⟩:=h j hj hj p2;have e1:=(Ai g hj p2).2;have e2:=(Ai f hi q2).2;rw[p3]at e1 q3;rw[q3]at e2;rw[Ny,Ny,e1,e2];simp only[Z24,rg,q4,q5]
 ·rw[Z2s (by simp;omega),Z2s (by simp;omega)]
theorem F7{W L:List zi}(h:W.map Prod.snd=L.map Prod.snd)(k:Int):(qh W k).map Prod.snd=(qh L k).map Prod.snd:=by
 have e:∀l:List zi,(qh l k).map Prod.snd=(l.map Prod.snd).filter λv=>decide (v.1=k):=λl=>by
  rw[Z4k];rfl
 rw[e,e,h]
theorem zk7{W L:List zi}(h:W.map Prod.snd=L.map Prod.snd):W.map rg=L.map rg:=by
 have e:∀l:List zi,l.map rg=(l.map Prod.snd).map λv=>(v.2.1,v.2.2.1):=λl=>by rw[Oo];rfl
 rw[e,e,h]
theorem FK(g:List zi)(k:Int):qh (g.filter pW) k=if k=3\/k=0 then qh g k else []:=by
 unfold qh;rw[Z47];split
 ·rename_i hk;refine Z3m λv _=>?_
  by_cases h:v.2.1=k
  ·have:pW v=true:=by unfold pW;rw[h];rcases hk with rfl|rfl<;>rfl
   rw[this,Z4c]
  ·simp[h]
 ·rename_i hk;refine Z4j.2 λv _=>?_
  simp only[zA,jc,not_and];intro h;unfold pW;simp only[CX,jc,h];exact hk
end Go.Kz
namespace Go.Kz
theorem XK(vs:List zi)(a:Jj){n j:Nat}(h:j<n):(Wg vs a n).getD j 0=CI vs a j:=by
 simp[Wg,ZB,h]
theorem zf4{l:List Int}{c:Nat}{x:Int}(h:l[c]? = some x):l.getD c 0=x:=by rw[ZB,h];rfl
section
variable {f g h:zt}{A:List Int} (hf:WF f) (hg:WF g) (ha:zay f g h A)
include hf hg ha
theorem PJ:∃W:List zi,h.1=f.1++W/\W.map Prod.snd=(g.1.filter pW).map Prod.snd/\qh h.1 1=qh f.1 1/\qh h.1 2=qh f.1 2/\qh h.1 3=qh f.1 3++qh W 3/\(qh W 3).map rg=(qh g.1 3).map rg:=by
 obtain⟨W,e1,e2⟩:=ha.vars;have nil:∀k:Int,k=1\/k=2->qh W k=[]:=λk hk=>by
  have:=F7 e2 k;rw[FK,qP (by omega)]at this;simpa using this
 have app:∀k:Int,qh h.1 k=qh f.1 k++qh W k:=λk=>by rw[e1];simp[qh]
 refine⟨W,e1,e2,by rw[app,nil 1 (.inl rfl),Hc],by rw[app,nil 2 (.inr rfl),Hc],app 3,?_⟩;have:=F7 e2 3;rw[FK,qn (.inl rfl)]at this;exact zk7 this
theorem zaf:zf (qh h.1 1)=zf (qh f.1 1)/\zf (qh g.1 1)=zf (qh f.1 1)/\zf (qh h.1 3)=zf (qh f.1 3)*zf (qh g.1 3):=by
 obtain⟨W,_,_,e1,_,e3,e4⟩:=PJ hf hg ha;refine⟨by rw[e1],(uN (O8 ha.FL ha.znb)).symm,?_⟩;rw[e3,QY,uN e4]
variable {p:List Int}{s r1 r2 R2:Nat} (hR2:zf (qh g.1 3)=(R2:Int)) (h2:r2<R2)
include hR2 h2
theorem zge{j:Nat}(hj:j<f.1.length):CI h.1 (gn h p (s:Int) ((r1*R2+r2:Nat):Int)) j=CI f.1 (gn f p (s:Int) (r1:Int)) j:=by
 obtain⟨W,e0,_,e1,e2,e3,e4⟩:=PJ hf hg ha;have hW:∀v∈qh W 3,pz v:=λv hv=>kz ha.wf.vars.Qs 3 v (by rw[e3];exact List.mem_append_right _ hv)
 have Zt:=Rg (kz hf.vars.Qs 3) hW (r1:Int) (r2:Int) (by omega) (by rw[uN e4,hR2];omega);rw[uN e4,hR2]at Zt;have hv:h.1[j]? = f.1[j]? := by rw[e0,Z2k hj]
 have hc:∀k,jA h.1 k j=jA f.1 k j:=λk=>by unfold jA;rw[e0,Z39 (by omega)]
 unfold CI;rw[hv,wV hj];simp only[hc];split
 ·rfl
 ·rename_i h0;obtain⟨c1,c2⟩:=Ai f.1 hj rfl;obtain⟨i,hi,rfl⟩:∃i,∃hi:i<f.1.length,i=j:=⟨j,hj,rfl⟩;have v0:=(hf.vars.each i hi).LY;have v3:=(hf.vars.each i hi).LQ;have:f.1[i].2.1=1\/f.1[i].2.1=2\/f.1[i].2.1=3:=by omega
  rcases this with hk|hk|hk
  ·rw[hk];simp only[QE,gn,e1];rfl
  ·rw[hk];rfl
  ·rw[hk]at c1⊢;have q1:QE (gn h p (s:Int) ((r1*R2+r2:Nat):Int)) 3=xu (qh f.1 3) (r1:Int) (qh f.1 3).length++xu (qh W 3) (r2:Int) (qh W 3).length:=by
    show xu (qh h.1 3) ((r1*R2+r2:Nat):Int) (qh h.1 3).length=_;rw[e3,<-Zt];simp
   have q2:QE (gn f p (s:Int) (r1:Int)) 3=xu (qh f.1 3) (r1:Int) (qh f.1 3).length:=rfl;rw[q1,q2,ZB,Z2k (by rw[xG];exact c1),<-ZB]
theorem zgd{j:Nat}(hj:j<g.1.length):∃i:Nat,A[j]? = some (i:Int)/\i<h.1.length/\(∀v,JG f.1 v=true->v.toNat≠i)/\CI h.1 (gn h p (s:Int) ((r1*R2+r2:Nat):Int)) i=CI g.1 (gn g p (s:Int) (r2:Int)) j/\
  (g.1[j].2.1=0->∃nm,h.1[i]? = some (nm,g.1[j].2)):=by
 obtain⟨W,e0,es,e1,e2,e3,e4⟩:=PJ hf hg ha;have hW:∀v∈qh W 3,pz v:=λv hv=>kz ha.wf.vars.Qs 3 v (by rw[e3];exact List.mem_append_right _ hv)
 have Zt:=Rg (kz hf.vars.Qs 3) hW (r1:Int) (r2:Int) (by omega) (by rw[uN e4,hR2];omega);rw[uN e4,hR2]at Zt;have v0:=(hg.vars.each j hj).LY;have v3:=(hg.vars.each j hj).LQ;by_cases hk:g.1[j].2.1=1\/g.1[j].2.1=2
 ·-- an input
  have vW:∀k:Int,k=1\/k=2->g.1[j].2.1=k->JA f.1 g.1 k A g.1.length->(∀i,i<(qh f.1 k).length->(QE (gn h p (s:Int) ((r1*R2+r2:Nat):Int)) k).getD i 0=(QE (gn g p (s:Int) (r2:Int)) k).getD i 0)->
    ∃i:Nat,A[j]? = some (i:Int)/\i<h.1.length/\(∀v,JG f.1 v=true->v.toNat≠i)/\CI h.1 (gn h p (s:Int) ((r1*R2+r2:Nat):Int)) i=CI g.1 (gn g p (s:Int) (r2:Int)) j/\(g.1[j].2.1=0->∃nm,h.1[i]? = some (nm,g.1[j].2)):=λk hkk hgk hI u6=>by
   obtain⟨i,hi,q1,q2,q3,q4,q5⟩:=hI j hj hj hgk;have hc:=(Ai f.1 hi q2).1;refine⟨i,q1,by rw[e0,Jz];omega,λv hv he=>?_,?_,λh0=>by omega⟩
   ·obtain⟨k',pg,rfl,hl⟩:=Gu hv;simp only[Wi]at he;subst he;omega
   ·unfold CI;rw[e0,Z2k hi,wV hi,wV hj];simp only[q2,hgk];rw[qP (by omega),qP (by omega)];have BE:jA (f.1++W) k i=jA f.1 k i:=by unfold jA;rw[Z39 (by omega)]
    rw[BE,<-q3];exact u6 _ hc
  rcases hk with hk|hk
  ·exact vW 1 (.inl rfl) hk ha.FL λi hi=>by
    have z1:QE (gn h p (s:Int) ((r1*R2+r2:Nat):Int)) 1=xu (qh f.1 1) (s:Int) (qh f.1 1).length:=by
     show xu (qh h.1 1) (s:Int) (qh h.1 1).length=_;rw[e1]
    have z2:QE (gn g p (s:Int) (r2:Int)) 1=xu (qh f.1 1) (s:Int) (qh f.1 1).length:=by
     show xu (qh g.1 1) (s:Int) (qh g.1 1).length=_;rw[<-z3x (O8 ha.FL ha.znb),ha.znb]
    rw[z1,z2]
  ·exact vW 2 (.inr rfl) hk ha.LG λi hi=>rfl
 ·have ho:pW g.1[j]=true:=by
   unfold pW;simp only[CX,jc];omega
  have q1:=ha.own j hj hj ho;obtain⟨t1,t2⟩:=zf9 hj ho;have hWj:∃nm,W[xk g.1 j]? = some (nm,g.1[j].2):=by
   have z:=Wm (λl=>l[xk g.1 j]?) es;simp only[Ny]at z;rw[show(g.1.filter pW)[xk g.1 j]? = some g.1[j] from t1]at z
   cases hw:W[xk g.1 j]? with
   |none=>rw[hw]at z;simp at z
   |some x=>
    rw[hw]at z;simp only[Z24,zI]at z;exact⟨x.1,by rw[<-z]⟩
  obtain⟨nm,hWj⟩:=hWj;have hWlt:xk g.1 j<W.length:=by
   rw[Z3u]at hWj;exact hWj.1
  have hh:h.1[f.1.length+xk g.1 j]? = some (nm,g.1[j].2):=by rw[e0,Z36 (by omega),Z3i,hWj]
  refine⟨f.1.length+xk g.1 j,q1,by rw[e0,Jz];omega,λv hv he=>?_,?_,λ_=>⟨nm,hh⟩⟩
  ·have:=Gp hv;simp only[len]at this;omega
  ·unfold CI;rw[hh,wV hj];simp only;split
   ·rfl
   ·rename_i h0;have hk3:g.1[j].2.1=3:=by omega
    rw[hk3];obtain⟨c1,_⟩:=Ai g.1 hj hk3;have BE:jA h.1 3 (f.1.length+xk g.1 j)=(qh f.1 3).length+jA g.1 3 j:=by
     unfold jA;rw[e0,List.take_append,Z21 (by omega),Z3i];have y1:qh (f.1++W.take (xk g.1 j)) 3=qh f.1 3++qh (W.take (xk g.1 j)) 3:=by simp[qh]
     rw[y1,Jz];congr 1;have y2:(W.take (xk g.1 j)).map Prod.snd=((g.1.take j).filter pW).map Prod.snd:=by
      rw[List.map_take,es,<-List.map_take,show(g.1.filter pW).take (xk g.1 j)=_ from t2]
     have y3:=Wm List.length (F7 y2 3);rw[FK,qn (.inl rfl)]at y3;simpa using y3
    have z1:QE (gn h p (s:Int) ((r1*R2+r2:Nat):Int)) 3=xu (qh f.1 3) (r1:Int) (qh f.1 3).length++xu (qh W 3) (r2:Int) (qh W 3).length:=by
     show xu (qh h.1 3) ((r1*R2+r2:Nat):Int) (qh h.1 3).length=_;rw[e3,<-Zt];simp
    have z2:QE (gn g p (s:Int) (r2:Int)) 3=xu (qh W 3) (r2:Int) (qh W 3).length:=by
     show xu (qh g.1 3) (r2:Int) (qh g.1 3).length=_;have zl:(qh W 3).length=(qh g.1 3).length:=by have:=Wm List.length e4;simpa using this
     rw[z3x e4,zl]
    rw[z1,z2,BE];simp only[ZB];rw[Z36 (by rw[xG];omega),xG,Z3i]
end
end Go.Kz
namespace Go.Kz
theorem IU(h:zt)(hs:List Int):∀(a b:List Sp)(s:RS),vc h hs (a++b) s=vc h hs b (vc h hs a s)
 |[],b,s=>by simp only[JD,vc]
 |x::a,b,s=>by simp only[Qm,vc,IU h hs a b]
section
variable {f g h:zt}{A:List Int} (hf:WF f) (hg:WF g) (ha:zay f g h A)
include hf hg ha
theorem zgg{j j':Nat}(hj:j<g.1.length)(gg:j'<g.1.length)(he:A[j]? = A[j']?):j=j':=by
 have kd:∀(i:Nat)(hi:i<g.1.length),g.1[i].2.1=1\/g.1[i].2.1=2\/pW g.1[i]=true:=λi hi=>by
  have v0:=(hg.vars.each i hi).LY;have v3:=(hg.vars.each i hi).LQ;unfold pW;simp only[CX,jc];omega
 have io:∀(k:Int),JA f.1 g.1 k A g.1.length->∀(i i':Nat)(hi:i<g.1.length)(wu:i'<g.1.length),A[i]? = A[i']?->g.1[i].2.1=k->pW g.1[i']=true->False:=λk hI i i' hi wu he hk ho=>by
  obtain⟨z,hz,q1,_⟩:=hI i hi hi hk;rw[he,ha.own i' wu wu ho,zI]at q1;omega
 have ii:∀(k k':Int),JA f.1 g.1 k A g.1.length->JA f.1 g.1 k' A g.1.length->g.1[j].2.1=k->g.1[j'].2.1=k'->j=j':=λk k' hI hI' hk pg=>by
  obtain⟨z,hz,q1,q2,q3,_⟩:=hI j hj hj hk;obtain⟨z',hz',q1',q2',q3',_⟩:=hI' j' gg gg pg;rw[he,q1',zI]at q1;have:z'=z:=by omega
  subst this;have:k=k':=by rw[<-q2,<-q2']
  subst this;exact z9r hj gg hk pg (by omega)
 rcases kd j hj with hk|hk|hk<;>rcases kd j' gg with pg|pg|pg
 ·exact ii 1 1 ha.FL ha.FL hk pg
 ·exact ii 1 2 ha.FL ha.LG hk pg
 ·exact(io 1 ha.FL j j' hj gg he hk pg).elim
 ·exact ii 2 1 ha.LG ha.FL hk pg
 ·exact ii 2 2 ha.LG ha.LG hk pg
 ·exact(io 2 ha.LG j j' hj gg he hk pg).elim
 ·exact(io 1 ha.FL j' j gg hj he.symm pg hk).elim
 ·exact(io 2 ha.LG j' j gg hj he.symm pg hk).elim
 ·have:=ha.own j hj hj hk;rw[he,ha.own j' gg gg pg,zI]at this;exact z9q hj gg hk pg (by omega)
variable {p:List Int}{s r1 r2 R2:Nat} (hR2:zf (qh g.1 3)=(R2:Int)) (h2:r2<R2)
include hR2 h2
theorem zgf:Wx h p false (s:Int) ((r1*R2+r2:Nat):Int)=GV (Wx f p false (s:Int) (r1:Int)) (Wx g p false (s:Int) (r2:Int)):=by
 obtain⟨W,e0,_⟩:=PJ hf hg ha;obtain⟨H,eh,ehs⟩:=ha.GD;generalize hah:gn h p (s:Int) ((r1*R2+r2:Nat):Int)=a_h;generalize haf:gn f p (s:Int) (r1:Int)=a_f;generalize w8:gn g p (s:Int) (r2:Int)=a_g;have hfl:f.1.length<=h.1.length:=by rw[e0,Jz];omega
 have st1:∀j,j<f.1.length->(Wg h.1 a_h h.1.length).getD j 0=(Wg f.1 a_f f.1.length).getD j 0:=λj hj=>by
  rw[XK _ _ (by omega),XK _ _ hj,<-hah,<-haf];exact zge hf hg ha hR2 h2 hj
 have st2:∀j,j<g.1.length->∃i:Nat,A[j]? = some (i:Int)/\i<h.1.length/\(∀v,JG f.1 v=true->v.toNat≠i)/\(Wg h.1 a_h h.1.length).getD i 0=(Wg g.1 a_g g.1.length).getD j 0/\(∀hj:j<g.1.length,g.1[j].2.1=0->∃nm,h.1[i]? = some (nm,g.1[j].2)):=λj hj=>by
  obtain⟨i,q1,q2,q3,q4,q5⟩:=zgd (p:=p) (s:=s) (r1:=r1) hf hg ha hR2 h2 hj;exact⟨i,q1,q2,q3,by rw[XK _ _ q2,XK _ _ hj,<-hah,<-w8];exact q4,λ_=>q5⟩
 generalize hvh:Wg h.1 a_h h.1.length=vh at st1 st2;generalize hvf:Wg f.1 a_f f.1.length=vf at st1;generalize hvg:Wg g.1 a_g g.1.length=vg at st2;have lvh:vh.length=h.1.length:=by rw[<-hvh,VM]
 have lvf:vf.length=f.1.length:=by rw[<-hvf,VM]
 have lvg:vg.length=g.1.length:=by rw[<-hvg,VM]
 have Oz:∀n:Int,0<=n->n<len f.1->vh.getD ((λn:Int=>n) n).toNat 0=vf.getD n.toNat 0:=λn h0 h1=>st1 n.toNat (by simp only[len]at h1;omega)
 have at2:∀n:Int,0<=n->n<len g.1->∃i:Nat,JC A n=(i:Int)/\A[n.toNat]? = some (i:Int)/\i<h.1.length/\(∀v,JG f.1 v=true->v.toNat≠i)/\vh.getD i 0=vg.getD n.toNat 0/\(∀hj:n.toNat<g.1.length,g.1[n.toNat].2.1=0->∃nm,h.1[i]? = some (nm,g.1[n.toNat].2)):=λn h0 h1=>by
  obtain⟨i,q1,q2⟩:=st2 n.toNat (by simp only[len]at h1;omega);exact⟨i,zf4 q1,q1,q2⟩
 have xy:∀n:Int,0<=n->n<len g.1->vh.getD (JC A n).toNat 0=vg.getD n.toNat 0:=λn h0 h1=>by
  obtain⟨i,q1,_,_,_,q4,_⟩:=at2 n h0 h1;rw[q1,Wi,q4]
 have S1:=AW (m:=λn=>n) (pre:=[]) (w0:=vh) f h (GF f vf) (GF h vh) 0 ⟨λn h0 h1=>⟨h0,by have h1:n<(f.1.length:Int):=h1;show n<(vh.length:Int);rw[lvh];omega⟩,λn n' _ _ _ _ he=>he⟩
  (λv hv=>by
   have:=Gp hv;simp only[len]at this;unfold Tl Tn;rw[e0,Z2k (by omega)];exact⟨rfl,rfl⟩)
  (λn h0 h1=>by
   have hn:n.toNat<f.2.1.length:=by simp only[len]at h1;omega
   rw[Int.add_zero];simp only[GF,ZB,Ny,eh,Z2k hn,wV hn,Z24,CU];have:=XV f.1 true (λn=>n) vf vh Oz _ (Xu f.2.1[n.toNat].2.2.2.1) (jq _) ((hf.GD _ hn).term).1;rw[O3]at this;rw[this])
  (yA f.2.2.1+1) f.2.2.1 true (by omega) hf.steps ⟨vf,[],0⟩ ⟨vh,[],0⟩ ⟨lvf,Oz,rfl,rfl,λ_ _=>rfl⟩
 rw[XB]at S1;generalize BU:vc h (GF h vh) f.2.2.1 ⟨vh,[],0⟩=s1 at S1;have l1:s1.vals.length=h.1.length:=by rw[S1.ln',lvh]
 have S2:=AW (m:=JC A) (pre:=s1.outs) (w0:=s1.vals) g h (GF g vg) (GF h vh) (f.2.1.length:Int)
  ⟨λn h0 h1=>by
   obtain⟨i,q1,_,q2,_⟩:=at2 n h0 h1;rw[q1,l1];omega,λn n' h0 h1 h0' Lf he=>by
   obtain⟨i,q1,q2,_⟩:=at2 n h0 h1;obtain⟨i',q1',q2',_⟩:=at2 n' h0' Lf;simp only[len]at h1 Lf;have:=zgg hf hg ha (j:=n.toNat) (j':=n'.toNat) (by omega) (by omega) (by rw[q2,q2',<-q1,<-q1',he]);omega⟩
  (λv hv=>by
   obtain⟨k,hk,rfl,hl⟩:=Gu hv;obtain⟨i,q1,_,_,_,_,q5⟩:=at2 (k:Int) (by omega) (by simp only[len];omega);obtain⟨nm,q5⟩:=q5 hk hl;have q5:h.1[i]? = some (nm,g.1[k].2):=q5;unfold Tl Tn;rw[q1,Wi,q5,Wi,wV hk];exact⟨rfl,rfl⟩)
  (λn h0 h1=>by
   have hn:n.toNat<g.2.1.length:=by simp only[len]at h1;omega
   have hHn:H[n.toNat]?.map Prod.snd=some (mvH (JC A) g.2.1[n.toNat]):=by
    have:=Wm (λl=>l[n.toNat]?) ehs;simpa[hn]using this
   obtain⟨x,hx,hx2⟩:=kT.1 hHn;have e1:(n+(f.2.1.length:Int)).toNat=f.2.1.length+n.toNat:=by omega
   rw[e1];simp only[GF,ZB,Ny,eh,Z36 (Z5x _ _),Z3i,hx,wV hn,Z24,CU];rw[hx2];simp only[mvH,A2];rw[XV g.1 true (JC A) vg vh xy _ (Xu g.2.1[n.toNat].2.2.2.1) (jq _) ((hg.GD _ hn).term).1])
  (yA g.2.2.1+1) g.2.2.1 true (by omega) hg.steps ⟨vg,[],0⟩ s1 ⟨lvg,λn h0 h1=>by
   obtain⟨i,q1,_,_,q3,q4,_⟩:=at2 n h0 h1;rw[q1,Wi,S1.vV i q3,q4],by simp,rfl,λ_ _=>rfl⟩
 have o1:=S1.outs;have o2:=S2.outs;rw[<-BU,<-IU,<-ha.body]at o2;rw[BU]at o2;have oh:(Q5 h a_h).outs=(Q5 f a_f).outs++(Q5 g a_g).outs:=by
  unfold Q5;rw[hvh,hvf,hvg];rw[o2,o1];rfl
 unfold Wx GV;rw[hah,haf,w8,oh];rfl
end
end Go.Kz
namespace Go.Kz
theorem z9d(N:Nat)(hN:5000<=N)(l:List Int)(hl:l.length<=4096):f13 N l l=some true:=by
 unfold f13;rw[jQ rfl,Qv,zU];refine zp.eq ?_;refine zp.CT (λ_=>True) l.length ?_ ?_ N 0 (v8 _) (by omega) trivial
 ·intro j w hj _ hw;simp only[HP];rw[zb hj,zJ,zY hj,zO,zO,jQ rfl,Qv,zU,zk (by omega)];exact hw trivial
 ·intro w _;simp only[HP];rw[show decide (((l.length:Nat):Int)<len l)=false from zH _,zU];exact zp.ret rfl
theorem z9f(N:Nat)(hN:5000<=N)(l:List (List Int))(hl:l.length<=4096)(hw:∀r∈l,r.length<=4096):f11 N l l ()=some true:=by
 unfold f11;rw[jQ rfl,Qv,zU];refine zp.eq ?_;refine zp.CT (λ_=>True) l.length ?_ ?_ N 0 (v8 _) (by omega) trivial
 ·intro j w hj _ hw2;simp only[HU];unfold f12;rw[zb hj,zJ,zY hj,zO,zO,z9d N hN _ (hw _ (wB hj)),zO,zO,Qv,zU,zk (by omega)];exact hw2 trivial
 ·intro w _;simp only[HU];rw[show decide (((l.length:Nat):Int)<len l)=false from zH _,zU];exact zp.ret rfl
theorem zn4(N:Nat)(hN:1000<=N){vs:List zi}(hv:Qn vs)(p:List Int):zp (f50 N vs 2 p) λr=>r.2=0->Fits (qh vs 2) p:=by
 have hlk:=YP vs 2;have hl:=hv.len;unfold f50;rw[HY N hN hv.len hv.Qs 2 (by omega) hv.pub,zO];simp only[Nq,Qv,zU];rw[z8t N hN vs hv.len 2,zO];refine zp.cond (λ_=>zp.ret λh=>by simp at h) λhb=>?_
 simp only[Hb,jc,len]at hb;have gX:p.length=(qh vs 2).length:=by omega
 refine zp.up (λk (_:Int)=>∀i (h:i<(qh vs 2).length) (h':i<p.length),i<k->(qh vs 2)[i].2.2.1<=p[i]/\p[i]<=(qh vs 2)[i].2.2.2.1) (qh vs 2).length ?_ ?_ N 0 (v8 _) (by omega) _ (λi _ _ h=>by omega)
 ·intro k s w hk hi hw;have pg:k<p.length:=by omega
  simp only[Hp];rw[zb hk,zJ];simp only[zY pg,zY hk,wh hk,qx,zO];by_cases h1:p[k]<(qh vs 2)[k].2.2.1
  ·rw[jQ h1,zJ,zO,zJ];exact zp.ret λh=>by simp at h
  ·rw[qd h1,zU,zO];by_cases h2:(qh vs 2)[k].2.2.2.1<p[k]
   ·rw[jQ h2,zJ];exact zp.ret λh=>by simp at h
   ·rw[qd h2,zU,zk (by omega)];refine hw _ λi h h' yP=>?_
    by_cases he:i=k
    ·subst he;omega
    ·exact hi i h h' (by omega)
 ·intro s w hi;simp only[Hp];rw[show decide (((qh vs 2).length:Int)<len (qh vs 2))=false from zH _,zU];exact zp.ret λ_=>⟨gX,λi h h'=>hi i h h' h⟩
def OfP(f:zt)(p:List Int)(S R:Nat)(rows:List (List Int))(l:List vQ):Prop:=
 ∃ord:List Int,ord.Perm (wq (jU f p false R (S*R)).length)/\rows=((List.range S).map λs=>ord.map λk=>xO f p false R (S*R) (S*R) s k)/\l=ord.map (Dg (jU f p false R (S*R)))
structure zo6 (f g:zt) (p:List Int) (S R1 R2:Nat) (h:zt) (A:List Int):Prop where
 wf:WF f
 wg:WF g
 aft:zay f g h A
 pS:zf (qh f.1 1)=(S:Int)
 pR1:zf (qh f.1 3)=(R1:Int)
 pR2:zf (qh g.1 3)=(R2:Int)
 s8:1<=S/\S<=8
 r1:1<=R1/\R1<=3
 r2:1<=R2/\R2<=3
theorem toN{x:Int}(h:1<=x):∃n:Nat,x=(n:Int)/\1<=n:=⟨x.toNat,by omega,by omega⟩
theorem zu3(N:Nat)(hN:5000<=N)(f g:zt)(p:List Int):zp (f8 N f g (p,(false,()))) λr=>r.2.2.2.2=true->∃(h:zt)(A:List Int)(S R1 R2:Nat)(l0 l1 l2:List vQ),zo6 f g p S R1 R2 h A/\r.2.2.2.1=[l0,l1,l2]/\
  OfP f p S R1 r.1.1 l0/\OfP g p S R2 r.2.1.1 l1/\OfP h p S (R1*R2) r.2.2.1.1 l2:=by
 unfold f8;refine zp.then (z99 N (by omega) f 8 4096 3) λb1 h1=>?_
 refine zp.then (P:=λb=>b=false->b1=true/\WF g/\Mh g/\zf (qh g.1 1)<=8/\zf (qh g.1 3)<=3) ?_ λb hb=>?_
 ·refine zp.cond (λ_=>zp.ret (by simp)) λVk=>?_
  simp only[Hb]at Vk;refine zp.then (z99 N (by omega) g 8 4096 3) λb2 h2=>zp.ret λh=>?_
  simp only[Hb]at h;exact⟨Vk,h2 h⟩
 refine zp.cond (λ_=>zp.ret λh=>by simp at h) λZk=>?_
 obtain⟨k1,wg,sg,gs,gr⟩:=hb Zk;obtain⟨wf,sf,fs,fr⟩:=h1 k1;refine zp.then (zn5 N (by omega) wf wg sf sg) λq2 S7=>?_
 refine zp.then (zn4 N (by omega) wf.vars p) λq3 hq3=>?_
 refine zp.then (P:=λb=>b=false->q2.2=true/\q3.2=0) ?_ λb hb=>?_
 ·refine zp.cond (λ_=>zp.ret (by simp)) λVk=>zp.ret λh=>?_
  simp only[Hb,jc]at Vk h;exact⟨Vk,h⟩
 refine zp.cond (λ_=>zp.ret λh=>by simp at h) λZk=>?_
 obtain⟨c1,c2⟩:=hb Zk;obtain⟨A,ha⟩:=S7 c1;have fp:=hq3 c2;obtain⟨S,hS,S1⟩:=toN (ji (kz wf.vars.Qs 1));obtain⟨R1,hR1,R11⟩:=toN (ji (kz wf.vars.Qs 3));obtain⟨R2,hR2,R21⟩:=toN (ji (kz wg.vars.Qs 3));obtain⟨x1,x2,x3⟩:=zaf wf wg ha;obtain⟨W,_,_,_,y2,_,_⟩:=PJ wf wg ha;have sr:zo6 f g p S R1 R2 q2.1 A:=⟨wf,wg,ha,hS,hR1,hR2,⟨S1,by omega⟩,⟨R11,by omega⟩,⟨R21,by omega⟩⟩;have S8:=sr.s8.2;have R13:=sr.r1.2;have R23:=sr.r2.2;have t1:S*R1<=8*3:=Z25 S8 R13;have t2:S*R2<=8*3:=Z25 S8 R23;have t3:R1*R2<=3*3:=Z25 R13 R23;have t4:S*(R1*R2)<=8*9:=Z25 S8 t3;refine zp.then (HQ N hN wf fp false hS hR1 (by omega) (by omega)) λo1 CR=>?_
 obtain⟨_,Ch,p1,e1,d1⟩:=CR;rw[show idx (List.replicate 3 ([]:List vQ)) (0:Int)=some [] from rfl,show idx (List.replicate 3 (0:Int)) (0:Int)=some 0 from rfl];simp only[zO];refine zp.then (HQ N hN wg (fp.rg (O8 ha.LG ha.q3w)) false (x2.trans hS) hR2 (by omega) (by omega)) λo2 CO=>?_
 obtain⟨_,zqa,p2,e2,d2⟩:=CO;have i1:∀(x:List vQ),qR (List.replicate 3 ([]:List vQ)) 0 x=[x,[],[]]:=λ_=>rfl
 have j1:∀(x:Int),qR (List.replicate 3 (0:Int)) 0 x=[x,0,0]:=λ_=>rfl
 have i2:∀(x y z w:List vQ),qR [x,y,z] 1 w=[x,w,z]:=λ_ _ _ _=>rfl
 have j2:∀(x y z w:Int),qR [x,y,z] 1 w=[x,w,z]:=λ_ _ _ _=>rfl
 have i3:∀(x y z w:List vQ),qR [x,y,z] 2 w=[x,y,w]:=λ_ _ _ _=>rfl
 have j3:∀(x y z w:Int),qR [x,y,z] 2 w=[x,y,w]:=λ_ _ _ _=>rfl
 have b1:∀(x y z:List vQ),wY [x,y,z] 1=true:=λ_ _ _=>rfl
 have b2:∀(x y z:List vQ),wY [x,y,z] 2=true:=λ_ _ _=>rfl
 have b3:∀(x y z:Int),wY [x,y,z] 1=true:=λ_ _ _=>rfl
 have b4:∀(x y z:Int),wY [x,y,z] 2=true:=λ_ _ _=>rfl
 have g1:∀(x y z:List vQ),idx [x,y,z] 1=some y:=λ_ _ _=>rfl
 have g2:∀(x y z:List vQ),idx [x,y,z] 2=some z:=λ_ _ _=>rfl
 have g3:∀(x y z:Int),idx [x,y,z] 1=some y:=λ_ _ _=>rfl
 have g4:∀(x y z:Int),idx [x,y,z] 2=some z:=λ_ _ _=>rfl
 simp only[i1,j1,b1,b3,g1,g3,qx,zO,i2,j2];refine zp.then (HQ N hN ha.wf (by rw[y2];exact fp) false (x1.trans hS) (x3.trans (by rw[hR1,hR2];simp)) (S:=S) (R:=R1*R2) (by omega) (by omega)) λo3 ho3=>?_
 obtain⟨_,zy0,p3,e3,d3⟩:=ho3;simp only[b2,b4,g2,g4,qx,zO,i3,j3];refine zp.ret λ_=>⟨q2.1,A,S,R1,R2,o1.2.1,o2.2.1,o3.2.1,sr,rfl,⟨Ch,p1,?_,d1⟩,⟨zqa,p2,?_,d2⟩,⟨zy0,p3,?_,d3⟩⟩
 ·rw[e1]
 ·rw[e2]
 ·rw[e3]
theorem z5c{a b:List (List Int)}{n w w':Nat}{t t':Int}(ha:ZK a n w t)(hb:ZK b n w' t')(hw:w*w'<=256)(ht:t*t'<=1048576):ZK (Pn a b n w w') n (w*w') (t*t'):=by
 obtain⟨t1,_⟩:=ha.t1;obtain⟨t1',_⟩:=hb.t1;obtain⟨w1,_⟩:=ha.w1;obtain⟨w1',_⟩:=hb.w1;refine⟨ha.n1,⟨Nat.mul_pos w1 w1',hw⟩,⟨?_,ht⟩,by simp[Pn],λr hr=>?_,λr hr x hx=>?_,λr hr=>?_⟩
 ·have:=Z3r t1 t1' (by omega) (by omega);omega
 ·simp only[Pn,pe]at hr;obtain⟨x,_,rfl⟩:=hr;simp
 ·simp only[Pn,pe,Du]at hr;obtain⟨i,hi,rfl⟩:=hr;simp only[pe,Du]at hx;obtain⟨y,hy,rfl⟩:=hx;have d1:y/w'<w:=Z2g (by rw[DZ];exact hy);have d2:y%w'<w':=Z23 _ (by omega);obtain⟨_,_,_,q1,_⟩:=Fv ha hi d1;obtain⟨_,_,_,q2,_⟩:=Fv hb hi d2;exact Ol q1 q2
 ·simp only[Pn,pe,Du]at hr;obtain⟨i,hi,rfl⟩:=hr;have hia:i<a.length:=by rw[ha.len];exact hi
  have hib:i<b.length:=by rw[hb.len];exact hi
  have ea:a.getD i []=a[i]:=by rw[ZB,wV hia];rfl
  have eb:b.getD i []=b[i]:=by rw[ZB,wV hib];rfl
  have la:=ha.wid _ (wB hia);have lb:=hb.wid _ (wB hib);have full:∀(r:List Int)(m:Nat),r.length=m->((List.range m).map λy=>r.getD y 0)=r:=λr m hm=>by
   apply I3
   ·simp[hm]
   ·intro y h1 h2;simp[ZB,h2]
  have sm:∀(c:Int)(r:List Int),(r.map λx=>c*x).sum=c*r.sum:=λc r=>by
   induction r with
   |nil=>simp
   |cons x r ih=>simp only[Qw,Z2x,ih,Int.mul_add]
  have sf:∀(l:List Int),(l.flatMap λx=>b[i].map λy=>x*y).sum=l.sum*b[i].sum:=λl=>by
   induction l with
   |nil=>simp
   |cons x l ih=>simp only[Z4f,Z61,Z2x,ih,sm,Z55]
  rw[ea,eb,xr,Dc w w'];have:((List.range w).flatMap λx=>(List.range w').map λj=>a[i].getD ((x*w'+j)/w') 0*b[i].getD ((x*w'+j)%w') 0)=a[i].flatMap λx=>b[i].map λy=>x*y:=by
   conv=>rhs;rw[<-full a[i] w la,<-full b[i] w' lb]
   rw[Z62];refine Zx λx hx=>?_
   rw[Oo];refine TV λy hy=>?_
   have hy':=Du.1 hy;rw[show(x*w'+y)/w'=x by rw[DZ,Z3o (by omega),Z3p hy'];rfl,show(x*w'+y)%w'=y by rw[DZ,Z5a,Z3q hy']];rfl
  rw[this,sf,<-ha.sum _ (wB hia),<-hb.sum _ (wB hib)];rfl
end Go.Kz
namespace Go.Kz
theorem zn3(N:Nat)(hN:5000<=N){a b:List Int}(hb:b.length<=4096):f63 N a b=some (w5 b a):=by
 unfold f63;rw[z8w N b a (by omega) (by omega)];rfl
theorem zkv(cs:List (List Int)):(Ky cs).length<=cs.length:=by
 have:=Vd ([]:List (List Int)) ((cs.filter λc=>decide (yD c≠0)).map vE);have:=Z37 (λc=>decide (yD c≠0)) cs;simp only[Ky,pc,jr,J9,Z1y]at *;omega
theorem z0w(N:Nat)(hN:2000000<=N){f g h:zt}{p:List Int}{S R1 R2:Nat}{A:List Int}(sr:zo6 f g p S R1 R2 h A){c d s:List (List Int)}{l0 l1 l2:List vQ}(o0:OfP f p S R1 c l0)(o1:OfP g p S R2 d l1)(o2:OfP h p S (R1*R2) s l2)
  (w0:l0.length<=8) (w1:l1.length<=8) (pj:∀i (hi:i<l0.length) (h0:0<l0.length),l0[i].1.length=l0[0].1.length) :
  ∃P:List (List Int),f9 N (c,()) (d,())=some ((P,()),0)/\∃l:List (List Int),0<l.length/\l.length<=4096/\(∀r∈l,r.length<=4096)/\f10 N (P,())=some (l,())/\f10 N (s,())=some (l,()):=by
 obtain⟨Ae,p0,rfl,rfl⟩:=o0;obtain⟨Ch,p1,rfl,rfl⟩:=o1;obtain⟨zqa,p2,rfl,rfl⟩:=o2;have S8:=sr.s8;have R13:=sr.r1;have R23:=sr.r2;have t1:S*R1<=8*3:=Z25 S8.2 R13.2;have t2:S*R2<=8*3:=Z25 S8.2 R23.2;have t3:R1*R2<=3*3:=Z25 R13.2 R23.2;have t3':1*1<=R1*R2:=Z25 R13.1 R23.1;have t4:S*(R1*R2)<=8*9:=Z25 S8.2 t3;have ha:=FX (f:=f) (p:=p) (td:=false) (S:=S) (R:=R1) ⟨S8.1,by omega⟩ ⟨R13.1,by omega⟩ (by omega) p0;have hb:=FX (f:=g) (p:=p) (td:=false) (S:=S) (R:=R2) ⟨S8.1,by omega⟩ ⟨R23.1,by omega⟩ (by omega) p1;have hs:=FX (f:=h) (p:=p) (td:=false) (S:=S) (R:=R1*R2) ⟨S8.1,by omega⟩ ⟨by omega,by omega⟩ (by omega) p2;rw[J9]at w0 w1;have tw:Ae.length*Ch.length<=8*8:=Z25 w0 w1;have tt:(R1:Int)*(R2:Int)<=9:=by
  have:((R1*R2:Nat):Int)<=9:=by omega
  rw[Int.natCast_mul]at this;exact this
 obtain⟨n0,m0⟩:=AV (f:=f) (p:=p) (td:=false) (S:=S) (R:=R1) (by omega) p0;obtain⟨n1,m1⟩:=AV (f:=g) (p:=p) (td:=false) (S:=S) (R:=R2) (by omega) p1;obtain⟨n2,m2⟩:=AV (f:=h) (p:=p) (td:=false) (S:=S) (R:=R1*R2) (by omega) p2;have hP:=z5c ha hb (by omega) (by omega);refine⟨_,zu2 N (by omega) ha hb (by omega) (by omega),?_⟩;have hlen:∀s r,s<S->r<R1->∃h0:0<(Ae.map (Dg (jU f p false R1 (S*R1)))).length,(AG f p false s r).1.length=((Ae.map (Dg (jU f p false R1 (S*R1))))[0]).1.length:=λs r hs hr=>by
  have:=(m0 (AG f p false s r)).2 ⟨s,r,hs,hr,rfl⟩;obtain⟨i,hi,he⟩:=Wl.1 this;have h0:0<(Ae.map (Dg (jU f p false R1 (S*R1)))).length:=by omega
  exact⟨h0,by rw[<-he];exact pj i hi h0⟩
 have sq:zo7 S R1 R2 (AG f p false) (AG g p false) (AG h p false):=⟨λs r1 r2 hs h1 h2=>zgf sr.wf sr.wg sr.aft sr.pR2 h2,λs r s' r' hs hr FT UT=>by
  obtain⟨_,e1⟩:=hlen s r hs hr;obtain⟨_,e2⟩:=hlen s' r' FT UT;rw[e1,e2],λ_ _=>rfl,λ_ _=>rfl⟩
 have q3v:=z4k sq (by omega) n0 n1 n2 m0 m1 m2;have eP:vF (Pn ((List.range S).map λs=>Ae.map λk=>xO f p false R1 (S*R1) (S*R1) s k) ((List.range S).map λs=>Ch.map λk=>xO g p false R2 (S*R2) (S*R2) s k) S Ae.length Ch.length) (Ae.length*Ch.length) =
   (Ae.map (Dg (jU f p false R1 (S*R1)))).flatMap λa=>(Ch.map (Dg (jU g p false R2 (S*R2)))).map λb=>List.zipWith (· * ·) (WJ S R1 (AG f p false) a) (WJ S R2 (AG g p false) b):=by
  rw[zcx ha hb,Nx (by omega) p0,Nx (by omega) p1,Z62];refine Zx λa _=>?_
  rw[Oo];rfl
 have eS:=Nx (f:=h) (p:=p) (td:=false) (S:=S) (R:=R1*R2) (by omega) p2;have S9:=z5z q3v;rw[<-eP,<-eS]at S9;obtain⟨q1,q2,_⟩:=Ag hP;generalize hcp:vF (Pn ((List.range S).map λs=>Ae.map λk=>xO f p false R1 (S*R1) (S*R1) s k) ((List.range S).map λs=>Ch.map λk=>xO g p false R2 (S*R2) (S*R2) s k) S Ae.length Ch.length) (Ae.length*Ch.length)=cp at S9 q1 q2;have LM:=RN (λc hc=>(q2 c hc).1) λc hc=>(q2 c hc).2
 have hle:=zkv cp;have cF:∀x∈Ky cp,∀y∈Ky cp,f63 N x y=some (w5 y x):=λx hx y hy=>zn3 N (by omega) (by rw[LM y hy];omega)
 have c0:∀x∈Ky cp,∀y∈Ky cp,w5 y x=0->x=y:=λx _ y _ h=>((xh y x).1 h).symm
 have cr:∀x∈Ky cp,w5 x x=0:=λx _=>(xh x x).2 rfl
 have cn:∀x∈Ky cp,∀y∈Ky cp,w5 x y = -w5 y x:=λx _ y _=>Ck y x
 have ct:∀x∈Ky cp,∀y∈Ky cp,∀z∈Ky cp,w5 y x<0->w5 z y<0->w5 z x<0:=λx _ y _ z _ h1 h2=>KD z y x h2 h1
 obtain⟨v1,_,_⟩:=AZ (t:=.sl false (.int .i64)) (Fc:=λx y=>f63 N x y) (c:=λx y=>w5 y x) (l:=Ky cp) cF c0 cr cn ct (by omega);have v2:=z02 (t:=.sl false (.int .i64)) (Fc:=λx y=>f63 N x y) (c:=λx y=>w5 y x) S9 cF c0 cr cn ct (by omega);have gX:=wP (JB (kW (λx y=>f63 N x y))) (Ky cp);refine⟨vF (V9 (JB (kW (λx y=>f63 N x y))) (Ky cp)) S,by simp[vF];omega,by simp[vF];omega,λr hr=>?_,?_,?_⟩
 ·simp only[vF,pe]at hr;obtain⟨y,_,rfl⟩:=hr;rw[J9,gX.length_eq];omega
 ·refine z9g N hN hP ?_ ?_
  ·rw[hcp];exact v1
  ·rw[hcp];exact gX
 ·exact z9g N hN hs (v2.symm.trans v1) (gX.trans S9)
theorem ze3(N:Nat)(hN:2000000<=N)(k7:f7 N=some true)(f g:zt)(v:List Int×(Bool×Unit)):f3 N f g v=some true:=by
 obtain⟨r,hr,hf⟩:=zu3 N (by omega) f g v.1;obtain⟨⟨c,u1⟩,⟨d,u2⟩,⟨s,u3⟩,l,ok⟩:=r;simp only at hf;unfold f3;rw[k7,zO,Qv,zU,show f8 N f g (v.1,(false,v.2.2))=_ from hr,zO];simp only
 cases ok with
 |false=>rfl
 |true=>
  obtain⟨h,A,S,R1,R2,l0,l1,l2,sr,rfl,o0,o1,o2⟩:=hf rfl;have i0:wY [l0,l1,l2] 0=true:=rfl;have i1:wY [l0,l1,l2] 1=true:=rfl;have x0:idx [l0,l1,l2] 0=some l0:=rfl;have x1:idx [l0,l1,l2] 1=some l1:=rfl;rw[Qv,zU,i0,qx rfl,x0,zO,zO];by_cases h0:8<len l0
  ·rw[jQ h0];rfl
  rw[qd h0,zU,i1,qx rfl,x1,zO,zO];by_cases h1:8<len l1
  ·rw[jQ h1];rfl
  rw[qd h1,zU,qx rfl,zO];simp only[len]at h0 h1;refine zp.eq ?_;refine zp.CT (λk=>∀i (hi:i<l0.length) (h0:0<l0.length),i<k->l0[i].1.length=l0[0].1.length) l0.length ?_ ?_ N 0 (v8 _) (by omega) (λi _ _ h=>by omega)
  ·intro k w hk hi hw;simp only[SX];have hp:0<l0.length:=by omega
   rw[zb hk,zJ,zY hk,zO,i0,qx rfl,x0,zO,show idx l0 0=some l0[0] from zY (k:=0) hp,zO];by_cases he:len l0[k].1=len l0[0].1
   ·rw[jQ he,Qv,zU,zk (by omega)];refine hw λi N7 hl yP=>?_
    by_cases hik:i=k
    ·subst hik;simp only[len]at he;omega
    ·exact hi i N7 hl (by omega)
   ·rw[qd he,Z1z,zJ];exact zp.ret rfl
  ·intro w hi;simp only[SX];rw[show decide (((l0.length:Nat):Int)<len l0)=false from zH _,zU];obtain⟨P,e1,L,L1,L2,L3,e2,e3⟩:=z0w N hN sr o0 o1 o2 (by omega) (by omega) λi wu h0'=>hi i wu h0' wu
   rw[show f9 N (c,u1) (d,u2)=_ from e1,zO];simp only[Nq,Qv,zU];rw[e2,zO,show f10 N (s,u3)=_ from e3,zO];simp only;rw[jQ (show 0<len L by simp only[len];omega),zJ,z9f N (by omega) L L2 L3];exact zp.ret rfl
theorem zl5:f7 10000000=some true:=by kernel_rfl
theorem law3(f g:zt)(v:List Int×(Bool×Unit)):f3 10000000 f g v=some true:=ze3 10000000 (by omega) zl5 f g v
end Go.Kz
