/-
  What a computation yields: rules for the words of the generated texts.
-/
import Derived.Test.YtmoggdcmpoobpaaGreatDoorKzAN
set_option linter.unusedVariables false
set_option linter.unusedSimpArgs false
namespace Go.Kz
variable {R I Z J:Type}
def zg(x:Option R)(Q:R->Prop):Prop:=∃r,x=some r/\Q r
theorem zg.ret{r:R}{Q:R->Prop}(h:Q r):zg (some r) Q:=⟨r,rfl,h⟩
theorem zg.mono{x:Option R}{P Q:R->Prop}(h:zg x P)(hq:∀r,P r->Q r):zg x Q:=let ⟨r,h1,h2⟩:=h;⟨r,h1,hq r h2⟩
theorem zg.bind{m:Option I}{f:I->Option R}{Q:R->Prop}(h:zg m λa=>zg (f a) Q):zg (m.bind f) Q:=by
 obtain⟨a,rfl,r,h1,h2⟩:=h;exact⟨r,h1,h2⟩
theorem zg.then{m:Option I}{f:I->Option R}{P:I->Prop}{Q:R->Prop}(h:zg m P)(hf:∀a,P a->zg (f a) Q):zg (m.bind f) Q:=zg.bind (h.mono hf)
theorem zg.cond{b:Bool}{x y:Option R}{Q:R->Prop}(h1:b=true->zg x Q)(h2:b=false->zg y Q):zg (cond b x y) Q:=by
 cases b with
 |true=>exact h1 rfl
 |false=>exact h2 rfl
theorem zg.zo{b:Bool}{x:Option R}{Q:R->Prop}(hb:b=true)(h:zg x Q):zg (zo b x) Q:=by rw[hb];exact h
theorem zg.Ek{l:List I}{k:Nat}{Q:I->Prop}(hk:k<l.length)(h:Q l[k]):zg (Go.Kz.idx l (k:Int)) Q:=⟨_,zY hk,h⟩
theorem zg.eq{x:Option R}{r:R}(h:zg x λy=>y=r):x=some r:=by obtain⟨y,rfl,rfl⟩:=h;rfl
theorem zg.of{x:Option R}{r:R}{Q:R->Prop}(h:x=some r)(hq:Q r):zg x Q:=⟨r,h,hq⟩
theorem zg.iter{Q:R->Prop}{Body:(I->Option R)->I->Option R}(Inv:I->Prop)(m:I->Nat)
  (h:∀x w,Inv x->(∀y,Inv y->m y<m x->zg (w y) Q)->zg (Body w x) Q):∀(n:Nat)(x:I),Inv x->m x<n->zg (iter Body n x) Q
 |0,_,_,hn=>by omega
 |n+1,x,hx,hn=>h x _ hx λy hy hm=>zg.iter Inv m h n y hy (by omega)
theorem zg.up{Q:R->Prop}{F:(Int×J->Option R)->Int×J->Option R}(Inv:Nat->J->Prop)(n:Nat)
  (step:∀(k:Nat)(s:J)(w:Int×J->Option R),k<n->Inv k s->(∀s',Inv (k+1) s'->zg (w ((k:Int)+1,s')) Q)->zg (F w ((k:Int),s)) Q)
  (last:∀(s:J)(w:Int×J->Option R),Inv n s->zg (F w ((n:Int),s)) Q) (N k0:Nat) (hk:k0<=n) (hN:n-k0<N) (s0:J) (h0:Inv k0 s0):zg (Go.Kz.iter F N ((k0:Int),s0)) Q:=by
 refine zg.iter (λx=>∃k:Nat,x.1=(k:Int)/\k<=n/\Inv k x.2) (λx=>n-x.1.toNat) ?_ N _ ⟨k0,rfl,hk,h0⟩ (by simpa using hN);rintro⟨x,s⟩ w ⟨k,hx,hk,hi⟩ hw;simp only at hx hi;subst hx;by_cases qk:k<n
 ·exact step k s w qk hi λs' Nc=>hw _ ⟨k+1,by simp,by omega,Nc⟩ (by simp;omega)
 ·have:k=n:=by omega
  subst this;exact last s w hi
theorem zg.WW{Q:R->Prop}{F:(Int->Option R)->Int->Option R}(Inv:Nat->Prop)(n:Nat)
  (step:∀(k:Nat)(w:Int->Option R),k<n->Inv k->(Inv (k+1)->zg (w ((k:Int)+1)) Q)->zg (F w (k:Int)) Q)
  (last:∀(w:Int->Option R),Inv n->zg (F w (n:Int)) Q) (N k0:Nat) (hk:k0<=n) (hN:n-k0<N) (h0:Inv k0):zg (Go.Kz.iter F N (k0:Int)) Q:=by
 refine zg.iter (λx=>∃k:Nat,x=(k:Int)/\k<=n/\Inv k) (λx=>n-x.toNat) ?_ N _ ⟨k0,rfl,hk,h0⟩ (by simpa using hN);rintro x w ⟨k,hx,hk,hi⟩ hw;subst hx;by_cases qk:k<n
 ·exact step k w qk hi λNc=>hw _ ⟨k+1,by simp,by omega,Nc⟩ (by simp;omega)
 ·have:k=n:=by omega
  subst this;exact last w hi
theorem zg.first{Q:R->Prop}{F:(I->Option R)->I->Option R}{N:Nat}{x:I}(hN:0<N)(h:∀w,zg (F w x) Q):zg (Go.Kz.iter F N x) Q:=by
 cases N with
 |zero=>omega
 |succ n=>exact h _
theorem Gd{F:(Int->Option R)->Int->Option R}(k0 n:Nat)(hk0:k0<=n)(p:Nat->Bool)(A B:Option R)
  (step:∀(k:Nat)(w:Int->Option R),k0<=k->k<n->F w (k:Int)=if p k then w ((k:Int)+1) else B)
  (last:∀(w:Int->Option R),F w (n:Int)=A) (N:Nat) (hN:n-k0<N):iter F N (k0:Int)=if (List.range (n-k0)).all (λj=>p (k0+j)) then A else B:=by
 have key:∀(M k:Nat),k<=n-k0->n-k0-k<M->((List.range k).all (λj=>p (k0+j))=true)->iter F M ((k0+k:Nat):Int)=if (List.range (n-k0)).all (λj=>p (k0+j)) then A else B:=by
  intro M
  induction M with
  |zero=>intro k _ h;omega
  |succ M ih=>
   intro k hk hM hall;simp only[iter];by_cases qk:k<n-k0
   ·rw[step (k0+k) _ (by omega) (by omega)]
    cases hp:p (k0+k) with
    |true=>
     simp only[Ms];have:=ih (k+1) qk (by omega) (by rw[Z2n,List.all_append,hall];simp[hp]);rw[show(((k0+(k+1):Nat)):Int)=((k0+k:Nat):Int)+1 from by omega]at this
     exact this
    |false=>
     have:(List.range (n-k0)).all (λj=>p (k0+j))=false:=by
      rw[List.all_eq_false];exact⟨k,by simp[qk],by simp[hp]⟩
     rw[this];simp
   ·have:k=n-k0:=by omega
    subst this;rw[show k0+(n-k0)=n from by omega,last,hall];simp
 have:=key N 0 (jF _) (by omega) rfl;simpa using this
theorem Ge{F:(Int->Option R)->Int->Option R}(l:List I)(p:I->Bool)(A B:Option R)
  (step:∀(k:Nat)(w:Int->Option R)(hk:k<l.length),F w (k:Int)=if p l[k] then w ((k:Int)+1) else B)
  (last:∀(w:Int->Option R),F w (l.length:Int)=A) (N:Nat) (hN:l.length<N):iter F N 0=if l.all p then A else B:=by
 have:=Gd (F:=F) 0 l.length (jF _) (λk=>match l[k]? with
  |some x=>p x
  |none=>true) A B (λk w _ hk=>by rw[step k w hk];simp[hk]) last N (by omega)
 rw[show((0:Nat):Int)=0 from rfl]at this;rw[this];congr 1
 have e:((List.range (l.length-0)).all λj=>match l[0+j]? with
  |some x=>p x
  |none=>true)=l.all p:=by
  rw[Z4d,Z2m,Z2m];constructor
  ·intro h x hx;obtain⟨i,hi,rfl⟩:=Gz.1 hx;have:=h i (by simp[hi]);simpa[hi]using this
  ·intro h i hi;have wm:i<l.length:=by simpa using hi
   simp only[QK,uX wm];exact h _ (gU wm)
 rw[e]
theorem zy{k:Nat}(h:k<9223372036854775807):zz ((k:Int)+1)=(k:Int)+1:=zx (by omega) (by omega)
theorem jJ{k:Nat}(h:0<k)(h2:k<9223372036854775807):zz ((k:Int)-1)=((k-1:Nat):Int):=by
 rw[zx (by omega) (by omega)];omega
theorem qX{p:Prop}[Decidable p](h:¬p):decide p=false:=ql h
theorem qR{p:Prop}[Decidable p](h:p):decide p=true:=ju h
end Go.Kz
namespace Go.Kz
theorem qg{P:Go.Program}{f:Nat}{p:gg}{res:List Ty}{F:p.den->Option (jD res)}(h:∀d,F d=none):qL P f (.pure p res F):=by
 intro w g d vals r _ _ _ hF;rw[h]at hF;cases hF
theorem QQ{P:Go.Program}{f:Nat}{fin:wg}{js:List Nat}{zr:wg}{F:fin.den->Option zr.den}(h:∀d,F d=none):qL P f (.mut fin js zr F):=by
 intro w g d vals r _ _ _ hF;rw[h]at hF;cases hF
def Ty.fits:(t:Ty)->t.den->Prop
 |.int k,n=>k.min<=n/\n<=k.max
 |.pair a b,(x,y)=>a.fits x/\b.fits y
 |.arr n t,l=>List.length l=n/\∀x∈l,t.fits x
 |.sl _ t,l=>∀x∈l,t.fits x
 |_,_=>True
theorem ZY{w:World}{g:z8}:{o:C8}->{t:Ty}->{d:t.den}->{cs:List Value}->zN w g o t d cs->t.fits d
 |_,.int _,_,_,h=>h.2
 |_,.bool,_,_,_=>trivial
 |_,.str,_,_,_=>trivial
 |_,.unit,_,_,_=>trivial
 |_,.pair a b,(x,y),_,h=>by
  obtain⟨c1,c2,rfl,h1,h2⟩:=h
  exact⟨ZY h1,ZY h2⟩
 |_,.arr n t,l,_,h=>⟨h.1,λx hx=>by
  obtain⟨i,hi,rfl⟩:=Gz.1 hx
  exact ZY (h.2.2 i hi)⟩
 |_,.sl false t,l,_,h=>λx hx=>by
  obtain⟨a,cap,rfl,h1,h2,h3⟩:=h;obtain⟨b,off,c,e,fz,ha,ht,hb,hs,he⟩:=h3 (by intro h0;rw[h0]at hx;simp at hx);obtain⟨i,hi,rfl⟩:=Gz.1 hx
  exact ZY (he i hi)
 |some (_,_),.sl true t,l,_,h=>λx hx=>by
  obtain⟨a,cap,rfl,h0,h1,h2,h3⟩:=h;rcases h3 with⟨_,rfl,_⟩|⟨b,off,c,e,ha,ht,hb,hs,he⟩
  ·simp at hx
  ·obtain⟨i,hi,rfl⟩:=Gz.1 hx
   exact ZY (he i hi)
 |none,.sl true _,_,_,h=>h.elim
 |_,.ptr _,_,_,_=>trivial
 |_,.fn _ _,_,_,_=>trivial
 |_,.tree _,_,_,_=>trivial
 |_,.mp _,_,_,_=>trivial
theorem arg_fits{w:World}{g:z8}{t:Ty}{x:t.den}{v:Value}(h:t.zG=true/\∃cs,zN w g none t x cs/\v=jh t.sk.isAgg cs):t.fits x:=by
 obtain⟨_,cs,h,_⟩:=h;exact ZY h
end Go.Kz
