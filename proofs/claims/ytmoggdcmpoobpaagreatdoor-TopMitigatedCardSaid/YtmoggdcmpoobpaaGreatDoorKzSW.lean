/-
  Drawn orders of some steps, as a small script; an entry of a map counted up. In the words of all orders and in the words of one.
-/
import Derived.Test.YtmoggdcmpoobpaaGreatDoorKzAT
set_option linter.unusedVariables false
set_option linter.unusedSimpArgs false
namespace Go.Kz
inductive Tr where
 |k|z|a (t:Tr)|b (t:Tr)|c (t:Tr)|s (x l:Tr)
noncomputable section
theorem Fm{R:Type}{x:Option R}{l:List (Option R)}{r:Option R}(h:∀e∈x::l,e=r):qA (x::l)=r:=by
 have hx:=h x (by simp);rw[qA,yX λe he=>by rw[h e (TX _ he),hx]];exact hx
def orO{I:Type}(A:Option I):Option I->Option I
 |none=>A
 |x=>x
section
variable {I Z γ R:Type} (A:Option I) (B:Option Z) (C:Option γ) (K:I->Z->γ->Option R)
def Tr.go:Tr->Option I->Option Z->Option γ->Option R×List (Option R)
 |.k,some x,some y,some w=>(K x y w,[])
 |.a t,_,y,w=>(A.bind λx=>(Tr.go t (some x) y w).1,[])
 |.b t,x,_,w=>(B.bind λy=>(Tr.go t x (some y) w).1,[])
 |.c t,x,y,_=>(C.bind λw=>(Tr.go t x y (some w)).1,[])
 |.s u l,x,y,w=>(qA ((Tr.go u x y w).1::(Tr.go l x y w).2),(Tr.go u x y w).1::(Tr.go l x y w).2)
 |_,_,_,_=>(none,[])
def Tr.fin(x:Option I)(y:Option Z)(w:Option γ):Option R:=(orO A x).bind λa=>(orO B y).bind λb=>(orO C w).bind λc=>K a b c
end
def Tr.BC:Tr->Bool->Bool->Bool->Bool×Bool
 |.k,p,q,r=>(p&&q&&r,false)
 |.z,_,_,_=>(false,true)
 |.a t,p,q,r=>(!p&&(t.BC true q r).1,false)
 |.b t,p,q,r=>(!q&&(t.BC p true r).1,false)
 |.c t,p,q,r=>(!r&&(t.BC p q true).1,false)
 |.s u l,p,q,r=>((u.BC p q r).1&&(l.BC p q r).2,(u.BC p q r).1&&(l.BC p q r).2)
theorem Sn{I Z R:Type}{A:Option I}{B:Option Z}{K:I->Z->Option R}:(A.bind λx=>B.bind λy=>K x y)=B.bind λy=>A.bind λx=>K x y:=by
 cases A<;>cases B<;>rfl
theorem Tr.go_ok{I Z γ R:Type}{A:Option I}{B:Option Z}{C:Option γ}{K:I->Z->γ->Option R}:(t:Tr)->(x:Option I)->(y:Option Z)->(w:Option γ)->
  ((t.BC x.isSome y.isSome w.isSome).1=true->(t.go A B C K x y w).1=Tr.fin A B C K x y w)/\((t.BC x.isSome y.isSome w.isSome).2=true->∀e∈(t.go A B C K x y w).2,e=Tr.fin A B C K x y w)
 |.k,x,y,w=>by cases x<;>cases y<;>cases w<;>simp[Tr.BC,Tr.go,Tr.fin,orO]
 |.z,x,y,w=>by cases x<;>cases y<;>cases w<;>simp[Tr.BC,Tr.go]
 |.a t,x,y,w=>by
  refine⟨λh=>?_,λh=>by simp[Tr.BC]at h⟩;simp only[Tr.BC,zA,U0]at h;obtain rfl:x=none:=by simpa using h.1
  simp only[Tr.go,λv=>(Tr.go_ok (A:=A) (B:=B) (C:=C) (K:=K) t (some v) y w).1 h.2]
  rfl
 |.b t,x,y,w=>by
  refine⟨λh=>?_,λh=>by simp[Tr.BC]at h⟩;simp only[Tr.BC,zA,U0]at h;obtain rfl:y=none:=by simpa using h.1
  simp only[Tr.go,λv=>(Tr.go_ok (A:=A) (B:=B) (C:=C) (K:=K) t x (some v) w).1 h.2]
  exact Sn
 |.c t,x,y,w=>by
  refine⟨λh=>?_,λh=>by simp[Tr.BC]at h⟩;simp only[Tr.BC,zA,U0]at h;obtain rfl:w=none:=by simpa using h.1
  simp only[Tr.go,λv=>(Tr.go_ok (A:=A) (B:=B) (C:=C) (K:=K) t x y (some v)).1 h.2];show(C.bind λv=>(orO A x).bind λa=>(orO B y).bind λb=>K a b v)=(orO A x).bind λa=>(orO B y).bind λb=>C.bind λv=>K a b v
  cases C<;>cases orO A x<;>cases orO B y<;>rfl
 |.s u l,x,y,w=>by
  have key:(u.BC x.isSome y.isSome w.isSome).1=true->(l.BC x.isSome y.isSome w.isSome).2=true->(∀e∈(u.go A B C K x y w).1::(l.go A B C K x y w).2,e=Tr.fin A B C K x y w):=by
   intro h1 h2 e he;rcases pF.1 he with rfl|he
   ·exact(Tr.go_ok u x y w).1 h1
   ·exact(Tr.go_ok l x y w).2 h2 e he
  refine⟨λh=>?_,λh=>?_⟩<;>simp only[Tr.BC,zA]at h
  ·exact Fm (key h.1 h.2)
  ·exact key h.1 h.2
abbrev ST:=Tr->(I Z γ R:Type)->Option I->Option Z->Option γ->(I->Z->γ->Option R)->Option R
def idT:ST:=λ_ _ _ _ _ A B C K=>A.bind λx=>B.bind λy=>C.bind λz=>K x y z
def Fl:ST:=λt _ _ _ _ A B C K=>cond (t.BC false false false).1 (t.go A B C K none none none).1 (A.bind λx=>B.bind λy=>C.bind λz=>K x y z)
theorem z0s:Fl=idT:=by
 funext t I Z γ R A B C K
 cases h:(t.BC false false false).1 with
 |true=>simp only[Fl,h,zB];exact(Tr.go_ok t none none none).1 h
 |false=>simp only[Fl,h,zP];rfl
def Tr.goC{R:Type}(b:Bool)(K:Option R):Tr->Option R×List (Option R)
 |.k=>(K,[])
 |.a t=>(zo b (t.goC b K).1,[])
 |.s u l=>(qA ((u.goC b K).1::(l.goC b K).2),(u.goC b K).1::(l.goC b K).2)
 |_=>(none,[])
def Tr.Hg:Tr->Bool->Bool×Bool
 |.k,p=>(p,false)
 |.z,_=>(false,true)
 |.a t,_=>((t.Hg true).1,false)
 |.s u l,p=>((u.Hg p).1&&(l.Hg p).2,(u.Hg p).1&&(l.Hg p).2)
 |_,_=>(false,false)
theorem Tr.EA{R:Type}{b:Bool}{K:Option R}:(t:Tr)->(p:Bool)->(p=true->b=true)->((t.Hg p).1=true->(t.goC b K).1=zo b K)/\((t.Hg p).2=true->∀e∈(t.goC b K).2,e=zo b K)
 |.k,p,hp=>by refine⟨λh=>?_,by simp[Tr.Hg]⟩;rw[hp h];rfl
 |.z,_,_=>by simp[Tr.Hg,Tr.goC]
 |.b _,_,_=>by simp[Tr.Hg]
 |.c _,_,_=>by simp[Tr.Hg]
 |.a t,_,_=>by
  refine⟨λh=>?_,by simp[Tr.Hg]⟩
  cases b with
  |false=>rfl
  |true=>exact(Tr.EA t true λ_=>rfl).1 h
 |.s u l,p,hp=>by
  have key:(u.Hg p).1=true->(l.Hg p).2=true->(∀e∈(u.goC b K).1::(l.goC b K).2,e=zo b K):=by
   intro h1 h2 e he;rcases pF.1 he with rfl|he
   ·exact(Tr.EA u p hp).1 h1
   ·exact(Tr.EA l p hp).2 h2 e he
  refine⟨λh=>?_,λh=>?_⟩<;>simp only[Tr.Hg,zA]at h
  ·exact Fm (key h.1 h.2)
  ·exact key h.1 h.2
abbrev SC:=Tr->(R:Type)->Bool->Option R->Option R
def idC:SC:=λ_ _ b K=>zo b K
def Fo:SC:=λt _ b K=>cond (t.Hg false).1 (t.goC b K).1 (zo b K)
theorem z0v:Fo=idC:=by
 funext t R b K
 cases h:(t.Hg false).1 with
 |true=>simp only[Fo,h,zB];exact(Tr.EA t false (by simp)).1 h
 |false=>simp only[Fo,h,zP];rfl
abbrev E2:=Int×(Int×Unit)
def qE:E2->E2->Bool:=P4 (.pair (.int .i64) (.pair (.int .i64) .unit))
abbrev SM:=(R:Type)->List (E2×Int)->E2->(List (E2×Int)->Option R)->Option R
def WE:SM:=λ_ m k F=>
 qA [zo (decide (m.length<=room))<|zo (decide (0<=((gy qE m k:Nat):Int))&&decide (((gy qE m k:Nat):Int)<len (vQ qE m k ((vL qE m k).getD 0))))<|
   F (A0 (vQ qE m k ((vL qE m k).getD 0)) (Int.toNat ((gy qE m k:Nat):Int)) (zz ((vL qE m k).getD 0+1))),
  zo (decide (m.length<=room))<|zo (decide (0<=((gy qE m k:Nat):Int))&&decide (((gy qE m k:Nat):Int)<len (vQ qE m k ((vL qE m k).getD 0))))<|
   F (A0 (vQ qE m k ((vL qE m k).getD 0)) (Int.toNat ((gy qE m k:Nat):Int)) (zz ((vL qE (vQ qE m k ((vL qE m k).getD 0)) k).getD 0+1)))]
def idM:SM:=λ_ m k F=>zo (decide (m.length<=room)) (F (vQ qE m k (zz ((vL qE m k).getD 0+1))))
theorem NJ(k:E2):qE k k=true:=by simp[qE,P4,jX]
theorem Cb{I Z:Type}{q:I->I->Bool}{k:I}(h:q k k=true)(v w:Z):(m:List (I×Z))->A0 (vQ q m k v) (gy q m k) w=vQ q m k w
 |[]=>rfl
 |(a,b)::m=>by
  simp only[vQ,gy]
  cases q k a with
  |true=>rfl
  |false=>simp only[zP,A0,Cb h v w m]
theorem NA{I Z:Type}{q:I->I->Bool}{k:I}(v:Z):(m:List (I×Z))->gy q m k<(vQ q m k v).length
 |[]=>Nat.zero_lt_succ 0
 |(a,b)::m=>by
  have:=NA (q:=q) (k:=k) v m;simp only[vQ,gy]
  cases q k a with
  |true=>simp
  |false=>simp only[zP,BF];omega
theorem Ce{I Z:Type}{q:I->I->Bool}{k:I}(h:q k k=true)(v:Z):(m:List (I×Z))->vL q (vQ q m k v) k=some v
 |[]=>by simp[vQ,vL,h]
 |(a,b)::m=>by
  simp only[vQ]
  cases hq:q k a with
  |true=>simp[vL,hq]
  |false=>simp[vL,hq,Ce h v m]
theorem z0u:WE=idM:=by
 funext R m k F;have h1:(decide (0<=((gy qE m k:Nat):Int))&&decide (((gy qE m k:Nat):Int)<len (vQ qE m k ((vL qE m k).getD 0))))=true:=by
  have:=NA (q:=qE) (k:=k) ((vL qE m k).getD 0) m;simp only[len,zA,ve];omega
 have h2:Int.toNat ((gy qE m k:Nat):Int)=gy qE m k:=rfl;simp only[WE,idM,h2,Cb (NJ k),Ce (NJ k),Z3m];rw[h1];cases decide (m.length<=room)<;>simp[qA,zo]
end
end Go.Kz
