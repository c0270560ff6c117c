/-
  The functions of the program as plain functions on lists and numbers, and the proofs that the program computes them. Printed by a program.
-/
import Derived.Test.YtnjfafnflbackaaKzP43c
set_option linter.unusedSimpArgs false
set_option maxRecDepth 100000
set_option linter.unusedVariables false
namespace Go.Kz
open Go.Proofs
noncomputable section
def znu {R:Type} (N:Nat) (r58:Int->Int->Ye->Yl->Yg->Option (Yv)) (t2_1:Int) (t19:Int) (o2:List Int) (kb:Int×Int×Ye×List Ya×Yg->Option R) (kx0:Int->Ye->Yl->Yg->Option R):Int×Int×Ye×List Ya×Yg->Option R:=
 fun (t20,t9,o0_1,o0'_1,o1_1)=>
  cond (decide (t20 < t19))
   (chk (inb o2 t20) <|
   (idx o2 t20).bind fun x=>
   (r58 x (z0l (t2_1-1)) o0_1 o0'_1 o1_1).bind fun r_1=>
   kb ((z0l (t20+1)),(z0l (t9+r_1.1.2.1)),r_1.2.1.1,r_1.2.1.2.1,r_1.2.2.1))
   (kx0 t9 o0_1 o0'_1 o1_1)
def f85 (N:Nat) (r58:Int->Int->Ye->Yl->Yg->Option (Yv)) (t1:Int) (t2:Int) (t3:Int) (o0:Ye) (o0':List Ya) (o1:List Yf):Option (Yv):=
 (f41 N o0 t1 t3).bind fun r=>
 iter (fun w=>znu N r58 t2 (len r) r w
  (fun t9_1 o0_2 o0'_2 o1_2=>
   some (((),(t9_1,())),((o0_2,(o0'_2,((),()))),(o1_2,()))))) N (0,0,o0,o0',o1)
def fi85:SForm:=⟨[(0,(.bptr 0 [])),(1,(.val .ya)),(2,(.val .ya)),(3,(.val .ya))],[.con (.agg (.pr (.val .yg) (.pr (.val .yc) (.pr (.mref 1) .un)))),.map .ye .ya]⟩
def fo85:SForm:=⟨[(0,(.bptr 0 [])),(8,(.val .ya))],[.con (.agg (.pr (.val .yg) (.pr (.val .yc) (.pr (.mref 1) .un)))),.map .ye .ya]⟩
def c85 (N:Nat) (r58:Int->Int->Ye->Yl->Yg->Option (Yv)):Callee:=.mut fi85 [0] fo85 fun d=>f85 N r58 d.1.2.1 d.1.2.2.1 d.1.2.2.2.1 d.2.1.1 d.2.1.2.1 d.2.2.1
def F85_3:SForm:=⟨[(20,(.val .ya)),(2,(.val .ya)),(0,(.bptr 0 [])),(9,(.val .ya)),(18,(.ref 2)),(19,(.val .ya))],[.con (.agg (.pr (.val .yg) (.pr (.val .yc) (.pr (.mref 1) .un)))),.map .ye .ya,.row .ya]⟩
def G85_3 (N:Nat) (r58:Int->Int->Ye->Yl->Yg->Option (Yv)):(R:Type)->F85_3.den->(AExit->St->Option R)->Option R:=fun R d k=>iter (fun kb=>znu N r58 d.1.2.1 d.1.2.2.2.2.2.1 d.2.2.2.1 kb
  (fun y0 y1 y2 y3=>k (.exit 0) (St.of [(0,(.bptr 0 [])),(9,(.data .ya y0))] [.cell (.tup (.agg (.pr (.data .yg y1) (.pr (.data .yc y2) (.pr (.mref 1) .un))))),.map .ye .ya y3]))) N (d.1.1,d.1.2.2.2.1,d.2.1.1,d.2.1.2.1,d.2.2.1)
def lp85 (N:Nat) (r58:Int->Int->Ye->Yl->Yg->Option (Yv)):Nat->Option z0m:=fun r=>cond (Nat.beq r 3) (some fun R sl os k=>F85_3.take sl os fun d=>G85_3 N r58 R d k) (none)
def x85 (N:Nat) (r58:Int->Int->Ye->Yl->Yg->Option (Yv)):Ctx:={ fuel:=N,tt:=z1v ttL,mt:=z1v mtL,ntmps:=33,env:=fun f=>(z1v [(41,[c41 N]),(58,[(.mut ⟨[(0,(.bptr 0 [])),(1,(.val .ya)),(2,(.val .ya))],[.con (.agg (.pr (.val .yg) (.pr (.val .yc) (.pr (.mref 1) .un)))),.map .ye .ya]⟩ [0] ⟨[(0,(.bptr 0 [])),(6,(.val .ya))],[.con (.agg (.pr (.val .yg) (.pr (.val .yc) (.pr (.mref 1) .un)))),.map .ye .ya]⟩ fun d=>r58 d.1.2.1 d.1.2.2.1 d.2.1.1 d.2.1.2.1 d.2.2.1)])] f).getD [],cut:=z1v [(3,⟨[20,2,0,9,18,19],[]⟩)],exits:=fun r=>z1v ((z1v [(3,[(0,⟨[0,9],[]⟩)])] r).getD []),res:=⟨[0,8],[]⟩,own:=fun _=>none,lp:=lp85 N r58,eqs:=fun T=>z2q T eqL,ct:=fun T=>z2q T ctL,ms:=zb6 msL }
noncomputable def b85:Code:=((Go.Proofs.Try.f85).body).getD .skip
theorem s85_3 (N:Nat) (r58:Int->Int->Ye->Yl->Yg->Option (Yv)) {R:Type} (k:AExit->St->Option R) (t2_1:Int) (t19:Int) (o2:List Int) (kb:List Yp->List Obj->Option R) (x:Int×Int×Ye×List Ya×Yg):z0z (x85 N r58) (z04 3 (z00 b85)) (St.of [(20,(.data .ya x.1)),(2,(.data .ya t2_1)),(0,(.bptr 0 [])),(9,(.data .ya x.2.1)),(18,(.ref 2 [] 0)),(19,(.data .ya t19))] [.cell (.tup (.agg (.pr (.data .yg x.2.2.1) (.pr (.data .yc x.2.2.2.1) (.pr (.mref 1) .un))))),.map .ye .ya x.2.2.2.2,.row .ya o2 0]) (z1q (x85 N r58) 3 ⟨[20,2,0,9,18,19],[]⟩ kb k)=znu N r58 t2_1 t19 o2 (fun y=>kb [(20,(.data .ya y.1)),(2,(.data .ya t2_1)),(0,(.bptr 0 [])),(9,(.data .ya y.2.1)),(18,(.ref 2 [] 0)),(19,(.data .ya t19))] [.cell (.tup (.agg (.pr (.data .yg y.2.2.1) (.pr (.data .yc y.2.2.2.1) (.pr (.mref 1) .un))))),.map .ye .ya y.2.2.2.2,.row .ya o2 0])
  (fun y0 y1 y2 y3=>k (.exit 0) (St.of [(0,(.bptr 0 [])),(9,(.data .ya y0))] [.cell (.tup (.agg (.pr (.data .yg y1) (.pr (.data .yc y2) (.pr (.mref 1) .un))))),.map .ye .ya y3])) x:=by kernel_rfl
theorem l85_3 (N:Nat) (r58:Int->Int->Ye->Yl->Yg->Option (Yv)):z0r (x85 N r58) (z04 3 (z00 b85)):=
 z0i (G85_3 N r58) (by kernel_rfl) (by kernel_rfl) (by kernel_rfl) fun R k d=>
  z0g (st:=fun (x:Int×Int×Ye×List Ya×Yg)=>([(20,(.data .ya x.1)),(2,(.data .ya d.1.2.1)),(0,(.bptr 0 [])),(9,(.data .ya x.2.1)),(18,(.ref 2 [] 0)),(19,(.data .ya d.1.2.2.2.2.2.1))],[.cell (.tup (.agg (.pr (.data .yg x.2.2.1) (.pr (.data .yc x.2.2.2.1) (.pr (.mref 1) .un))))),.map .ye .ya x.2.2.2.2,.row .ya d.2.2.2.1 0])) (s85_3 N r58 k d.1.2.1 d.1.2.2.2.2.2.1 d.2.2.2.1) N (d.1.1,d.1.2.2.2.1,d.2.1.1,d.2.1.2.1,d.2.2.1)
theorem e85 (N:Nat) (r58:Int->Int->Ye->Yl->Yg->Option (Yv)) (t1:Int) (t2:Int) (t3:Int) (o0:Ye) (o0':List Ya) (o1:List Yf):zch (x85 N r58) fo85 b85 (St.of [(0,(.bptr 0 [])),(1,(.data .ya t1)),(2,(.data .ya t2)),(3,(.data .ya t3))] [.cell (.tup (.agg (.pr (.data .yg o0) (.pr (.data .yc o0') (.pr (.mref 1) .un))))),.map .ye .ya o1])=f85 N r58 t1 t2 t3 o0 o0' o1:=by kernel_rfl
theorem k85 (N:Nat) (r58:Int->Int->Ye->Yl->Yg->Option (Yv)) (h58:z03 Go.Proofs.Try.prog 58 (.mut ⟨[(0,(.bptr 0 [])),(1,(.val .ya)),(2,(.val .ya))],[.con (.agg (.pr (.val .yg) (.pr (.val .yc) (.pr (.mref 1) .un)))),.map .ye .ya]⟩ [0] ⟨[(0,(.bptr 0 [])),(6,(.val .ya))],[.con (.agg (.pr (.val .yg) (.pr (.val .yc) (.pr (.mref 1) .un)))),.map .ye .ya]⟩ fun d=>r58 d.1.2.1 d.1.2.2.1 d.2.1.1 d.2.1.2.1 d.2.2.1)):z03 Go.Proofs.Try.prog 85 (c85 N r58):=
 z35 (fn:=Go.Proofs.Try.f85) (body:=b85) (c:=x85 N r58) (rs:=[8]) Go.Proofs.Try.func85 (by kernel_rfl) (by kernel_rfl) ⟨ttL_ok,z0n,z0p,z0q,z0o,z02 (z01 (k41 N)) (z02 (z01 (h58)) (z0e))⟩ mixed (by kernel_rfl) (zL (by kernel_rfl)) (by kernel_rfl) (by kernel_rfl) (by kernel_rfl) (z3q (by kernel_rfl))
  (z0b (by kernel_rfl:z00 b85=[z04 3 (z00 b85)]) (.cons (l85_3 N r58) .nil)) fun d=>e85 N r58 d.1.2.1 d.1.2.2.1 d.1.2.2.2.1 d.2.1.1 d.2.1.2.1 d.2.2.1
end
end Go.Kz
