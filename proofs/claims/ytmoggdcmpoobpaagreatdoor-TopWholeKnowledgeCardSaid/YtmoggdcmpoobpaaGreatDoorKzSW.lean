/-
  Drawn orders of two steps, as a small script; an entry of a map counted up. Both in the words of all orders and in the words of one.
-/
import Derived.Test.YtmoggdcmpoobpaaGreatDoorKzAT
set_option linter.unusedVariables false
set_option linter.unusedSimpArgs false
namespace Go.Kz
inductive Tr where
 | k | z | a (t:Tr) | b (t:Tr) | s (x l:Tr)
noncomputable section
def Tr.go {I Z R:Type} (A:Option I) (B:Option Z) (K:I->Z->Option R):Tr->Option I->Option Z->Option R×List (Option R)
 | .k,some x,some y=>(K x y,[])
 | .a t,_,y=>(A.bind fun x=>(Tr.go A B K t (some x) y).1,[])
 | .b t,x,_=>(B.bind fun y=>(Tr.go A B K t x (some y)).1,[])
 | .s u l,x,y=>(qu ((Tr.go A B K u x y).1 :: (Tr.go A B K l x y).2),(Tr.go A B K u x y).1 :: (Tr.go A B K l x y).2)
 | _,_,_=>(none,[])
def Tr.xJ:Tr->Bool->Bool->Bool×Bool
 | .k,p,q=>(p && q,false)
 | .z,_,_=>(false,true)
 | .a t,p,q=>(!p && (t.xJ true q).1,false)
 | .b t,p,q=>(!q && (t.xJ p true).1,false)
 | .s u l,p,q=>((u.xJ p q).1 && (l.xJ p q).2,(u.xJ p q).1 && (l.xJ p q).2)
def Tr.fin {I Z R:Type} (A:Option I) (B:Option Z) (K:I->Z->Option R):Option I->Option Z->Option R
 | some x,some y=>K x y
 | none,some y=>A.bind fun x=>K x y
 | some x,none=>B.bind fun y=>K x y
 | none,none=>A.bind fun x=>B.bind fun y=>K x y
theorem Tr.go_ok {I Z R:Type} {A:Option I} {B:Option Z} {K:I->Z->Option R}:(t:Tr)->(x:Option I)->(y:Option Z)->
  ((t.xJ x.isSome y.isSome).1=true->(t.go A B K x y).1=Tr.fin A B K x y)/\((t.xJ x.isSome y.isSome).2=true->∀ e∈(t.go A B K x y).2,e=Tr.fin A B K x y)
 | .k,x,y=>by cases x <;> cases y <;> simp [Tr.xJ,Tr.go,Tr.fin]
 | .z,x,y=>by cases x <;> cases y <;> simp [Tr.xJ,Tr.go]
 | .a t,x,y=>by
  cases x with
  | some x=>simp [Tr.xJ]
  | none=>
   refine ⟨fun h=>?_,fun h=>by simp [Tr.xJ] at h⟩;have hh:(t.xJ true y.isSome).1=true:=by simpa [Tr.xJ] using h
   have:∀ x,(Tr.go A B K t (some x) y).1=Tr.fin A B K (some x) y:=fun x=>(Tr.go_ok t (some x) y).1 hh
   simp only [Tr.go,this]
   cases y <;> rfl
 | .b t,x,y=>by
  cases y with
  | some y=>simp [Tr.xJ]
  | none=>
   refine ⟨fun h=>?_,fun h=>by simp [Tr.xJ] at h⟩;have hh:(t.xJ x.isSome true).1=true:=by simpa [Tr.xJ] using h
   have:∀ y,(Tr.go A B K t x (some y)).1=Tr.fin A B K x (some y):=fun y=>(Tr.go_ok t x (some y)).1 hh
   simp only [Tr.go,this]
   cases x with
   | some x=>rfl
   | none=>cases A <;> cases B <;> rfl
 | .s u l,x,y=>by
  have hu:=(Tr.go_ok (A:=A) (B:=B) (K:=K) u x y).1;have hl:=(Tr.go_ok (A:=A) (B:=B) (K:=K) l x y).2;have key:(u.xJ x.isSome y.isSome).1=true->(l.xJ x.isSome y.isSome).2=true->(∀ e∈(u.go A B K x y).1 :: (l.go A B K x y).2,e=Tr.fin A B K x y):=by
   intro h1 h2 e he;rcases gX.1 he with rfl | he
   ·exact hu h1
   ·exact hl h2 e he
  refine ⟨fun h=>?_,fun h=>?_⟩
  ·simp only [Tr.xJ,zA] at h;have k1:=key h.1 h.2;have e1:=hu h.1;simp only [Tr.go];rw [qu,yW (fun e he=>by rw [k1 e (LZ _ he),e1])];exact e1
  ·simp only [Tr.xJ,zA] at h;exact key h.1 h.2
abbrev ST:=Tr->(I Z R:Type)->Option I->Option Z->(I->Z->Option R)->Option R
def idT:ST:=fun _ _ _ _ A B K=>A.bind fun x=>B.bind fun y=>K x y
def LL:ST:=fun t _ _ _ A B K=>cond (t.xJ false false).1 (t.go A B K none none).1 (A.bind fun x=>B.bind fun y=>K x y)
theorem S7:LL=idT:=by
 funext t I Z R A B K
 cases h:(t.xJ false false).1 with
 | true=>simp only [LL,h,zD];exact (Tr.go_ok t none none).1 h
 | false=>simp only [LL,h,zW];rfl
abbrev E2:=Int×(Int×Unit)
def qE:E2->E2->Bool:=PS (.pair (.int .i64) (.pair (.int .i64) .unit))
abbrev SM:=(R:Type)->List (E2×Int)->E2->(List (E2×Int)->Option R)->Option R
def Vi:SM:=fun _ m k F=>
 qu [qR (decide (m.length<=room)) <| qR (decide (0<=((kJ qE m k:Nat):Int)) && decide (((kJ qE m k:Nat):Int) < len (js qE m k ((jW qE m k).getD 0)))) <|
   F (UR (js qE m k ((jW qE m k).getD 0)) (Int.toNat ((kJ qE m k:Nat):Int)) (zz ((jW qE m k).getD 0+1))),
  qR (decide (m.length<=room)) <| qR (decide (0<=((kJ qE m k:Nat):Int)) && decide (((kJ qE m k:Nat):Int) < len (js qE m k ((jW qE m k).getD 0)))) <|
   F (UR (js qE m k ((jW qE m k).getD 0)) (Int.toNat ((kJ qE m k:Nat):Int)) (zz ((jW qE (js qE m k ((jW qE m k).getD 0)) k).getD 0+1)))]
def TY:SM:=fun _ m k F=>qR (decide (m.length<=room)) (F (js qE m k (zz ((jW qE m k).getD 0+1))))
theorem Le (k:E2):qE k k=true:=by simp [qE,PS,yI]
theorem BJ {I Z:Type} {q:I->I->Bool} {k:I} (h:q k k=true) (v w:Z):(m:List (I×Z))->UR (js q m k v) (kJ q m k) w=js q m k w
 | []=>rfl
 | (a,b) :: m=>by
  simp only [js,kJ]
  cases q k a with
  | true=>rfl
  | false=>simp only [zW,UR,BJ h v w m]
theorem Lr {I Z:Type} {q:I->I->Bool} {k:I} (v:Z):(m:List (I×Z))->kJ q m k < (js q m k v).length
 | []=>Nat.zero_lt_succ 0
 | (a,b) :: m=>by
  have:=Lr (q:=q) (k:=k) v m;simp only [js,kJ]
  cases q k a with
  | true=>simp
  | false=>simp only [zW,GO];omega
theorem BG {I Z:Type} {q:I->I->Bool} {k:I} (h:q k k=true) (v:Z):(m:List (I×Z))->jW q (js q m k v) k=some v
 | []=>by simp [js,jW,h]
 | (a,b) :: m=>by
  simp only [js]
  cases hq:q k a with
  | true=>simp [jW,hq]
  | false=>simp [jW,hq,BG h v m]
theorem S9:Vi=TY:=by
 funext R m k F;have h1:(decide (0<=((kJ qE m k:Nat):Int)) && decide (((kJ qE m k:Nat):Int) < len (js qE m k ((jW qE m k).getD 0))))=true:=by
  have:=Lr (q:=qE) (k:=k) ((jW qE m k).getD 0) m;simp only [len,zA,jL];omega
 have h2:Int.toNat ((kJ qE m k:Nat):Int)=kJ qE m k:=rfl;simp only [Vi,TY,h2,BJ (Le k),BG (Le k),Z44];rw [h1];cases decide (m.length<=room) <;> simp [qu,qR]
end
end Go.Kz
