/-
  An entry of a map counted up, in the words of all orders and in the words of one.
-/
import Derived.Test.YtmoggdcmpoobpaaGreatDoorKzAT
set_option linter.unusedVariables false
set_option linter.unusedSimpArgs false
namespace Go.Kz
noncomputable section
abbrev E2:=Int×(Int×Unit)
def qE:E2->E2->Bool:=Ui (.pair (.int .i64) (.pair (.int .i64) .unit))
abbrev SM:=(R:Type)->List (E2×Int)->E2->(List (E2×Int)->Option R)->Option R
def G2:SM:=λ_ m k F=>
 wK [qV (decide (m.length<=room))<|qV (decide (0<=((gG qE m k:Nat):Int))&&decide (((gG qE m k:Nat):Int)<len (ve qE m k ((jF qE m k).getD 0))))<|
   F (B4 (ve qE m k ((jF qE m k).getD 0)) (Int.toNat ((gG qE m k:Nat):Int)) (zz ((jF qE m k).getD 0+1))),
  qV (decide (m.length<=room))<|qV (decide (0<=((gG qE m k:Nat):Int))&&decide (((gG qE m k:Nat):Int)<len (ve qE m k ((jF qE m k).getD 0))))<|
   F (B4 (ve qE m k ((jF qE m k).getD 0)) (Int.toNat ((gG qE m k:Nat):Int)) (zz ((jF qE (ve qE m k ((jF qE m k).getD 0)) k).getD 0+1)))]
def idM:SM:=λ_ m k F=>qV (decide (m.length<=room)) (F (ve qE m k (zz ((jF qE m k).getD 0+1))))
theorem RD(k:E2):qE k k=true:=by simp[qE,Ui,ja]
theorem E9{I Z:Type}{q:I->I->Bool}{k:I}(h:q k k=true)(v w:Z):(m:List (I×Z))->B4 (ve q m k v) (gG q m k) w=ve q m k w
 |[]=>rfl
 |(a,b)::m=>by
  simp only[ve,gG]
  cases q k a with
  |true=>rfl
  |false=>simp only[zU,B4,E9 h v w m]
theorem Rc{I Z:Type}{q:I->I->Bool}{k:I}(v:Z):(m:List (I×Z))->gG q m k<(ve q m k v).length
 |[]=>Nat.zero_lt_succ 0
 |(a,b)::m=>by
  have:=Rc (q:=q) (k:=k) v m;simp only[ve,gG]
  cases q k a with
  |true=>simp
  |false=>simp only[zU,X4];omega
theorem Ey{I Z:Type}{q:I->I->Bool}{k:I}(h:q k k=true)(v:Z):(m:List (I×Z))->jF q (ve q m k v) k=some v
 |[]=>by simp[ve,jF,h]
 |(a,b)::m=>by
  simp only[ve]
  cases hq:q k a with
  |true=>simp[jF,hq]
  |false=>simp[jF,hq,Ey h v m]
theorem z4p:G2=idM:=by
 funext R m k F;have h1:(decide (0<=((gG qE m k:Nat):Int))&&decide (((gG qE m k:Nat):Int)<len (ve qE m k ((jF qE m k).getD 0))))=true:=by
  have:=Rc (q:=qE) (k:=k) ((jF qE m k).getD 0) m;simp only[len,zA,jc];omega
 have h2:Int.toNat ((gG qE m k:Nat):Int)=gG qE m k:=rfl;simp only[G2,idM,h2,E9 (RD k),Ey (RD k),CU];rw[h1];cases decide (m.length<=room)<;>simp[wK,qV]
end
end Go.Kz
