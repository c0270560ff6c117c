/-
  The functions of the program as plain functions on lists and numbers, and the proofs that the program computes them. Printed by a program.
-/
import Derived.Test.YtnjfafnflbackaaKzP43d
set_option linter.unusedSimpArgs false
set_option maxRecDepth 100000
set_option linter.unusedVariables false
namespace Go.Kz
open Go.Proofs
noncomputable section
def zoe {R:Type} (N:Nat) (t9:Int) (o1:Ye) (kb:Int×List Int->Option R) (kx0:Ya->Option R):Int×List Int->Option R:=
 fun (t10,o0)=>
  cond (decide (t10 < t9))
   (chk (decide ((Nat.succ (List.length o0))≤z38)) <|
   kb ((z0i (t10+1)),(o0++(t10 :: ([]:List Int)))))
   (kx0 o0)
def f69 (N:Nat) (a0:Ye):Option Ya:=
 iter (fun w=>zoe N (len a0.2.1) a0 w
  (fun o0_1=>
   (f49 N a0 o0_1).bind fun r=>
   some r.1)) N (0,([]:List Int))
def c69 (N:Nat):Callee:=.pure (.pr (.val .yg) .un) [.ym] fun d=>f69 N d.1
def F69_3:SForm:=⟨[(10,(.val .ya)),(3,(.ref 0)),(1,(.bptr 1 [])),(9,(.val .ya))],[.row .ya,.cell (.val .yg)]⟩
def G69_3 (N:Nat):(R:Type)->F69_3.den->(AExit->St->Option R)->Option R:=fun R d k=>iter (fun kb=>zoe N d.1.2.2.2.1 d.2.2.1 kb
  (fun y0=>k (.exit 0) (St.of [(3,(.ref 0 [] 0)),(1,(.bptr 1 []))] [.row .ya y0 0,.cell (.data .yg d.2.2.1)]))) N (d.1.1,d.2.1)
def lp69 (N:Nat):Nat->Option z0o:=fun r=>cond (Nat.beq r 3) (some fun R sl os k=>F69_3.take sl os fun d=>G69_3 N R d k) (none)
def x69 (N:Nat):Ctx:=(mkX N 25 [(49,[c49 N])] [(3,⟨[10,3,1,9],[(3,none,.row .ya)]⟩)] [(3,[(0,⟨[3,1],[]⟩)])] ⟨[2],[]⟩ (fun _=>none) (lp69 N))
noncomputable def b69:Code:=((Go.Proofs.Try.f69).body).getD .skip
theorem s69_3 (N:Nat) {R:Type} (k:AExit->St->Option R) (t9:Int) (o1:Ye) (kb:List Yl->List Obj->Option R) (x:Int×List Int):z0w (x69 N) (z02 3 (z00 b69)) (St.of [(10,(.data .ya x.1)),(3,(.ref 0 [] 0)),(1,(.bptr 1 [])),(9,(.data .ya t9))] [.row .ya x.2 0,.cell (.data .yg o1)]) (z1m (x69 N) 3 ⟨[10,3,1,9],[(3,none,.row .ya)]⟩ kb k)=zoe N t9 o1 (fun y=>kb [(10,(.data .ya y.1)),(3,(.ref 0 [] 0)),(1,(.bptr 1 [])),(9,(.data .ya t9))] [.row .ya y.2 0,.cell (.data .yg o1)])
  (fun y0=>k (.exit 0) (St.of [(3,(.ref 0 [] 0)),(1,(.bptr 1 []))] [.row .ya y0 0,.cell (.data .yg o1)])) x:=by kernel_rfl
theorem l69_3 (N:Nat):z0n (x69 N) (z02 3 (z00 b69)):=
 z0h (G69_3 N) (by kernel_rfl) (by kernel_rfl) (by kernel_rfl) fun R k d=>
  z0g (st:=fun (x:Int×List Int)=>([(10,(.data .ya x.1)),(3,(.ref 0 [] 0)),(1,(.bptr 1 [])),(9,(.data .ya d.1.2.2.2.1))],[.row .ya x.2 0,.cell (.data .yg d.2.2.1)])) (s69_3 N k d.1.2.2.2.1 d.2.2.1) N (d.1.1,d.2.1)
theorem e69 (N:Nat) (a0:Ye):z24 (x69 N) [.ym] [.tmp 2] b69 (entry (.pr (.val .yg) .un) (a0,()))=f69 N a0:=by kernel_rfl
theorem k69 (N:Nat):z04 Go.Proofs.Try.prog 69 (c69 N):=
 z29 (fn:=Go.Proofs.Try.f69) (body:=b69) (c:=x69 N) Go.Proofs.Try.func69 (by kernel_rfl) (by kernel_rfl) ⟨ttL_ok,z0p,z0r,z0s,z0q,z03 (z01 (k49 N)) (z0e)⟩ mixed (by kernel_rfl) (zL (by kernel_rfl)) (by kernel_rfl) (by decide)
  (z0a (by kernel_rfl:z00 b69=[z02 3 (z00 b69)]) (.cons (l69_3 N) .nil)) fun d=>e69 N d.1
def zod {R:Type} (N:Nat) (t1:Int) (t8:List Int) (t9:Int) (kb:Int×Int->Option R) (kret:Bool->Option R) (kx0:Unit->Option R):Int×Int->Option R:=
 fun (t10,t5)=>
  cond (decide (t10 < t9))
   ((idx t8 t10).bind fun x=>
   cond (decide (t10 < 0))
    (none)
    (cond (decide ((z0i (((((BitVec.ofInt 64 (Int.fdiv t1 (Int.pow 2 (min (Int.toNat t10) 64)))).and (BitVec.ofInt 64 1)).toNat):Nat):Int))=0))
     (kb ((z0i (t10+1)),t5))
     ((cond (decide (0≤t5))
       (some (!(decide (x=t5))))
       (some false)).bind fun b=>
     cond b
      (kret false)
      (kb ((z0i (t10+1)),x)))))
   (kx0 ())
def f70 (N:Nat) (a0:List Int) (a1:Int):Option (Bool):=
 iter (fun w=>zod N a1 a0 (len a0) w
  (fun t4=>
   some t4)
  (fun (_:Unit)=>
   some true)) N (0,(-1))
def c70 (N:Nat):Callee:=.pure (.pr (.val .yb) (.pr (.val .ya) .un)) [.bool] fun d=>f70 N d.1 d.2.1
def F70_3:SForm:=⟨[(10,(.val .ya)),(5,(.val .ya)),(1,(.val .ya)),(8,(.val .yb)),(9,(.val .ya))],[]⟩
def G70_3 (N:Nat):(R:Type)->F70_3.den->(AExit->St->Option R)->Option R:=fun R d k=>iter (fun kb=>zod N d.1.2.2.1 d.1.2.2.2.1 d.1.2.2.2.2.1 kb
  (fun y0=>k .ret (St.of [(4,(.data .bool y0))] []))
  (fun _=>k (.exit 0) (St.of [] []))) N (d.1.1,d.1.2.1)
def lp70 (N:Nat):Nat->Option z0o:=fun r=>cond (Nat.beq r 3) (some fun R sl os k=>F70_3.take sl os fun d=>G70_3 N R d k) (none)
def x70 (N:Nat):Ctx:=(mkX N 29 [] [(3,⟨[10,5,1,8,9],[]⟩)] [(3,[(0,⟨[],[]⟩)])] ⟨[4],[]⟩ (fun _=>none) (lp70 N))
noncomputable def b70:Code:=((Go.Proofs.Try.f70).body).getD .skip
theorem s70_3 (N:Nat) {R:Type} (k:AExit->St->Option R) (t1:Int) (t8:List Int) (t9:Int) (kb:List Yl->List Obj->Option R) (x:Int×Int):z0w (x70 N) (z02 3 (z00 b70)) (St.of [(10,(.data .ya x.1)),(5,(.data .ya x.2)),(1,(.data .ya t1)),(8,(.data .yb t8)),(9,(.data .ya t9))] []) (z1m (x70 N) 3 ⟨[10,5,1,8,9],[]⟩ kb k)=zod N t1 t8 t9 (fun y=>kb [(10,(.data .ya y.1)),(5,(.data .ya y.2)),(1,(.data .ya t1)),(8,(.data .yb t8)),(9,(.data .ya t9))] [])
  (fun y0=>k .ret (St.of [(4,(.data .bool y0))] []))
  (fun _=>k (.exit 0) (St.of [] [])) x:=by kernel_rfl
theorem l70_3 (N:Nat):z0n (x70 N) (z02 3 (z00 b70)):=
 z0h (G70_3 N) (by kernel_rfl) (by kernel_rfl) (by kernel_rfl) fun R k d=>
  z0g (st:=fun (x:Int×Int)=>([(10,(.data .ya x.1)),(5,(.data .ya x.2)),(1,(.data .ya d.1.2.2.1)),(8,(.data .yb d.1.2.2.2.1)),(9,(.data .ya d.1.2.2.2.2.1))],[])) (s70_3 N k d.1.2.2.1 d.1.2.2.2.1 d.1.2.2.2.2.1) N (d.1.1,d.1.2.1)
theorem e70 (N:Nat) (a0:List Int) (a1:Int):z24 (x70 N) [.bool] [.tmp 4] b70 (entry (.pr (.val .yb) (.pr (.val .ya) .un)) (a0,(a1,())))=f70 N a0 a1:=by kernel_rfl
theorem k70 (N:Nat):z04 Go.Proofs.Try.prog 70 (c70 N):=
 z29 (fn:=Go.Proofs.Try.f70) (body:=b70) (c:=x70 N) Go.Proofs.Try.func70 (by kernel_rfl) (by kernel_rfl) ⟨ttL_ok,z0p,z0r,z0s,z0q,z0e⟩ mixed (by kernel_rfl) (zL (by kernel_rfl)) (by kernel_rfl) (by decide)
  (z0a (by kernel_rfl:z00 b70=[z02 3 (z00 b70)]) (.cons (l70_3 N) .nil)) fun d=>e70 N d.1 d.2.1
def f90 (N:Nat) (t0:Int) (o1:List Yq) (o2:Yd):Option (((Unit×Yaa)×(Unit×(Yy×(Yd×Unit))))):=
 (cond (!(decide (t0=0)))
   (some (Option.isSome (z8f (z2y .ya) o1 t0)))
   (some false)).bind fun b=>
 (cond b
   (some (decide ((z0i (o2.2.1-1))≤(Option.getD (z8f (z2y .ya) o1 t0) 0))))
   (some false)).bind fun b_1=>
 some (((),((),(b_1,()))),((),(o1,(o2,()))))
def fi90:SForm:=⟨[(0,(.val .ya)),(1,(.bptr 0 [])),(2,(.bptr 2 []))],[.con (.mref 1),.map .ya .ya,.cell (.val .ye)]⟩
def fo90:SForm:=⟨[(1,(.bptr 0 [])),(2,(.bptr 2 [])),(4,(.val .bool))],[.con (.mref 1),.map .ya .ya,.cell (.val .ye)]⟩
def c90 (N:Nat):Callee:=.mut fi90 [1,2] fo90 fun d=>f90 N d.1.1 d.2.2.1 d.2.2.2.1
def lp90 (N:Nat):Nat->Option z0o:=fun r=>none
def x90 (N:Nat):Ctx:=(mkX N 25 [] [] [] ⟨[1,2,4],[]⟩ (fun _=>none) (lp90 N))
noncomputable def b90:Code:=((Go.Proofs.Try.f90).body).getD .skip
theorem e90 (N:Nat) (t0:Int) (o1:List Yq) (o2:Yd):zbn (x90 N) fo90 b90 (St.of [(0,(.data .ya t0)),(1,(.bptr 0 [])),(2,(.bptr 2 []))] [.cell (.tup (.mref 1)),.map .ya .ya o1,.cell (.data .ye o2)])=f90 N t0 o1 o2:=by kernel_rfl
theorem k90 (N:Nat):z04 Go.Proofs.Try.prog 90 (c90 N):=
 z2v (fn:=Go.Proofs.Try.f90) (body:=b90) (c:=x90 N) (rs:=[4]) Go.Proofs.Try.func90 (by kernel_rfl) (by kernel_rfl) ⟨ttL_ok,z0p,z0r,z0s,z0q,z0e⟩ mixed (by kernel_rfl) (zL (by kernel_rfl)) (by kernel_rfl) (by kernel_rfl) (by kernel_rfl) (z3f (by kernel_rfl))
  (z0a (by kernel_rfl:z00 b90=[]) .nil) fun d=>e90 N d.1.1 d.2.2.1 d.2.2.2.1
def z9i {R:Type} (N:Nat) (t7:Int) (o0_1:List Int) (kb:Int×Yy×Yd->Option R) (kret:Int->Yy->Yd->Option R) (kx0:Yy->Yd->Option R):Int×Yy×Yd->Option R:=
 fun (t8,o2_1,o3_1)=>
  cond (decide (t8 < t7))
   (chk (inb o0_1 t8) <|
   (idx o0_1 t8).bind fun x=>
   (f90 N x o2_1 o3_1).bind fun r=>
   cond r.1.2.2.1
    (kret t8 r.2.2.1 r.2.2.2.1)
    (kb ((z0i (t8+1)),r.2.2.1,r.2.2.2.1)))
   (kx0 o2_1 o3_1)
def zp0 (N:Nat) (o0:List Int) (o2:List Yq) (o3:Yd):Option (((Unit×(Yn×Yc))×(Ya×(Unit×(Yy×(Yd×Unit)))))):=
 iter (fun w=>z9i N (len o0) o0 w
  (fun t4 o2_2 o3_2=>
   some (((),(((),((),())),(t4,()))),(o0,((),(o2_2,(o3_2,()))))))
  (fun o2_3 o3_3=>
   some (((),(((),((),())),((-1),()))),(o0,((),(o2_3,(o3_3,()))))))) N (0,o2,o3)
def fi110v1:SForm:=⟨[(0,(.ref 0)),(1,(.clos 90 (.pr (.bptr 1 []) (.pr (.bptr 3 []) .un))))],[.row .ya,.con (.mref 2),.map .ya .ya,.cell (.val .ye)]⟩
def zy2:SForm:=⟨[(0,(.ref 0)),(1,(.clos 90 (.pr (.bptr 1 []) (.pr (.bptr 3 []) .un)))),(4,(.val .ya))],[.row .ya,.con (.mref 2),.map .ya .ya,.cell (.val .ye)]⟩
def c110v1 (N:Nat):Callee:=.mut fi110v1 [0,1] zy2 fun d=>zp0 N d.2.1 d.2.2.2.1 d.2.2.2.2.1
def zua:SForm:=⟨[(0,(.ref 0)),(1,(.clos 90 (.pr (.bptr 1 []) (.pr (.bptr 3 []) .un)))),(8,(.val .ya)),(7,(.val .ya))],[.row .ya,.con (.mref 2),.map .ya .ya,.cell (.val .ye)]⟩
def zu6 (N:Nat):(R:Type)->zua.den->(AExit->St->Option R)->Option R:=fun R d k=>iter (fun kb=>z9i N d.1.2.2.2.1 d.2.1 kb
  (fun y0 y2 y3=>k .ret (St.of [(0,(.ref 0 [] 0)),(1,(.clos 90 (.pr (.bptr 1 []) (.pr (.bptr 3 []) .un)))),(4,(.data .ya y0))] [.row .ya d.2.1 0,.cell (.tup (.mref 2)),.map .ya .ya y2,.cell (.data .ye y3)]))
  (fun y1 y2=>k (.exit 0) (St.of [(0,(.ref 0 [] 0)),(1,(.clos 90 (.pr (.bptr 1 []) (.pr (.bptr 3 []) .un))))] [.row .ya d.2.1 0,.cell (.tup (.mref 2)),.map .ya .ya y1,.cell (.data .ye y2)]))) N (d.1.2.2.1,d.2.2.2.1,d.2.2.2.2.1)
def lp110v1 (N:Nat):Nat->Option z0o:=fun r=>cond (Nat.beq r 2) (some fun R sl os k=>zua.take sl os fun d=>zu6 N R d k) (none)
def zma (N:Nat):Ctx:=(mkX N 19 [(90,[c90 N])] [(2,⟨[0,1,8,7],[]⟩)] [(2,[(0,⟨[0,1],[]⟩)])] ⟨[0,1,4],[]⟩ (fun _=>none) (lp110v1 N))
noncomputable def zkc:Code:=((Go.Proofs.Try.f110).body).getD .skip
theorem s110v1_2 (N:Nat) {R:Type} (k:AExit->St->Option R) (t7:Int) (o0_1:List Int) (kb:List Yl->List Obj->Option R) (x:Int×Yy×Yd):z0w (zma N) (z02 2 (z00 zkc)) (St.of [(0,(.ref 0 [] 0)),(1,(.clos 90 (.pr (.bptr 1 []) (.pr (.bptr 3 []) .un)))),(8,(.data .ya x.1)),(7,(.data .ya t7))] [.row .ya o0_1 0,.cell (.tup (.mref 2)),.map .ya .ya x.2.1,.cell (.data .ye x.2.2)]) (z1m (zma N) 2 ⟨[0,1,8,7],[]⟩ kb k)=z9i N t7 o0_1 (fun y=>kb [(0,(.ref 0 [] 0)),(1,(.clos 90 (.pr (.bptr 1 []) (.pr (.bptr 3 []) .un)))),(8,(.data .ya y.1)),(7,(.data .ya t7))] [.row .ya o0_1 0,.cell (.tup (.mref 2)),.map .ya .ya y.2.1,.cell (.data .ye y.2.2)])
  (fun y0 y2 y3=>k .ret (St.of [(0,(.ref 0 [] 0)),(1,(.clos 90 (.pr (.bptr 1 []) (.pr (.bptr 3 []) .un)))),(4,(.data .ya y0))] [.row .ya o0_1 0,.cell (.tup (.mref 2)),.map .ya .ya y2,.cell (.data .ye y3)]))
  (fun y1 y2=>k (.exit 0) (St.of [(0,(.ref 0 [] 0)),(1,(.clos 90 (.pr (.bptr 1 []) (.pr (.bptr 3 []) .un))))] [.row .ya o0_1 0,.cell (.tup (.mref 2)),.map .ya .ya y1,.cell (.data .ye y2)])) x:=by kernel_rfl
theorem l110v1_2 (N:Nat):z0n (zma N) (z02 2 (z00 zkc)):=
 z0h (zu6 N) (by kernel_rfl) (by kernel_rfl) (by kernel_rfl) fun R k d=>
  z0g (st:=fun (x:Int×Yy×Yd)=>([(0,(.ref 0 [] 0)),(1,(.clos 90 (.pr (.bptr 1 []) (.pr (.bptr 3 []) .un)))),(8,(.data .ya x.1)),(7,(.data .ya d.1.2.2.2.1))],[.row .ya d.2.1 0,.cell (.tup (.mref 2)),.map .ya .ya x.2.1,.cell (.data .ye x.2.2)])) (s110v1_2 N k d.1.2.2.2.1 d.2.1) N (d.1.2.2.1,d.2.2.2.1,d.2.2.2.2.1)
theorem e110v1 (N:Nat) (o0:List Int) (o2:List Yq) (o3:Yd):zbn (zma N) zy2 zkc (St.of [(0,(.ref 0 [] 0)),(1,(.clos 90 (.pr (.bptr 1 []) (.pr (.bptr 3 []) .un))))] [.row .ya o0 0,.cell (.tup (.mref 2)),.map .ya .ya o2,.cell (.data .ye o3)])=zp0 N o0 o2 o3:=by kernel_rfl
theorem k110v1 (N:Nat):z04 Go.Proofs.Try.prog 110 (c110v1 N):=
 z2v (fn:=Go.Proofs.Try.f110) (body:=zkc) (c:=zma N) (rs:=[4]) Go.Proofs.Try.func110 (by kernel_rfl) (by kernel_rfl) ⟨ttL_ok,z0p,z0r,z0s,z0q,z03 (z01 (k90 N)) (z0e)⟩ mixed (by kernel_rfl) (zL (by kernel_rfl)) (by kernel_rfl) (by kernel_rfl) (by kernel_rfl) (z3f (by kernel_rfl))
  (z0a (by kernel_rfl:z00 zkc=[z02 2 (z00 zkc)]) (.cons (l110v1_2 N) .nil)) fun d=>e110v1 N d.2.1 d.2.2.2.1 d.2.2.2.2.1
def zy6 (N:Nat) (o0:List Int) (o2:List Yq) (o3:Yd):Option (((Unit×(Yn×Yx))×(Ya×(Unit×(Yy×(Yd×Unit)))))):=
 (zp0 N o0 o2 o3).bind fun r=>
 some (((),(((),((),())),((decide (0≤r.1.2.2.1)),()))),(r.2.1,((),(r.2.2.2.1,(r.2.2.2.2.1,())))))
def fi89v1:SForm:=⟨[(0,(.ref 0)),(1,(.clos 90 (.pr (.bptr 1 []) (.pr (.bptr 3 []) .un))))],[.row .ya,.con (.mref 2),.map .ya .ya,.cell (.val .ye)]⟩
def fo89v1:SForm:=⟨[(0,(.ref 0)),(1,(.clos 90 (.pr (.bptr 1 []) (.pr (.bptr 3 []) .un)))),(4,(.val .bool))],[.row .ya,.con (.mref 2),.map .ya .ya,.cell (.val .ye)]⟩
def c89v1 (N:Nat):Callee:=.mut fi89v1 [0,1] fo89v1 fun d=>zy6 N d.2.1 d.2.2.2.1 d.2.2.2.2.1
def lp89v1 (N:Nat):Nat->Option z0o:=fun r=>none
def x89v1 (N:Nat):Ctx:=(mkX N 9 [(110,[c110v1 N])] [] [] ⟨[0,1,4],[]⟩ (fun _=>none) (lp89v1 N))
noncomputable def b89v1:Code:=((Go.Proofs.Try.f89).body).getD .skip
theorem e89v1 (N:Nat) (o0:List Int) (o2:List Yq) (o3:Yd):zbn (x89v1 N) fo89v1 b89v1 (St.of [(0,(.ref 0 [] 0)),(1,(.clos 90 (.pr (.bptr 1 []) (.pr (.bptr 3 []) .un))))] [.row .ya o0 0,.cell (.tup (.mref 2)),.map .ya .ya o2,.cell (.data .ye o3)])=zy6 N o0 o2 o3:=by kernel_rfl
theorem k89v1 (N:Nat):z04 Go.Proofs.Try.prog 89 (c89v1 N):=
 z2v (fn:=Go.Proofs.Try.f89) (body:=b89v1) (c:=x89v1 N) (rs:=[4]) Go.Proofs.Try.func89 (by kernel_rfl) (by kernel_rfl) ⟨ttL_ok,z0p,z0r,z0s,z0q,z03 (z01 (k110v1 N)) (z0e)⟩ mixed (by kernel_rfl) (zL (by kernel_rfl)) (by kernel_rfl) (by kernel_rfl) (by kernel_rfl) (z3f (by kernel_rfl))
  (z0a (by kernel_rfl:z00 b89v1=[]) .nil) fun d=>e89v1 N d.2.1 d.2.2.2.1 d.2.2.2.2.1
def zjo {R:Type} (N:Nat) (t10:List Ya) (t11:Int) (kb:Int×Yy×Yd->Option R) (kret:Bool->Yy->Option R) (kx0:Yy->Option R):Int×Yy×Yd->Option R:=
 fun (t12,o0_1,o2)=>
  cond (decide (t12 < t11))
   ((idx t10 t12).bind fun x=>
   (f76 N x o2.1).bind fun r=>
   (zy6 N r o0_1 o2).bind fun r_1=>
   cond (!r_1.1.2.2.1)
    (kret false r_1.2.2.2.1)
    (kb ((z0i (t12+1)),r_1.2.2.2.1,r_1.2.2.2.2.1)))
   (kx0 o0_1)
def f71 (N:Nat) (t0:Ye) (t2:Yd) (o0:List Yq):Option ((Yaa×(Yy×Unit))):=
 iter (fun w=>zjo N t0.2.1 (len t0.2.1) w
  (fun t6 o0_2=>
   some (((),(t6,())),(o0_2,())))
  (fun o0_3=>
   some (((),(true,())),(o0_3,())))) N (0,o0,t2)
def fi71:SForm:=⟨[(0,(.val .yg)),(1,(.mref 0)),(2,(.val .ye))],[.map .ya .ya]⟩
def fo71:SForm:=⟨[(1,(.mref 0)),(6,(.val .bool))],[.map .ya .ya]⟩
def c71 (N:Nat):Callee:=.mut fi71 [1] fo71 fun d=>f71 N d.1.1 d.1.2.2.1 d.2.1
def F71_2:SForm:=⟨[(1,(.mref 0)),(12,(.val .ya)),(4,(.bptr 1 [])),(5,(.bptr 2 [])),(10,(.val .yc)),(11,(.val .ya))],[.map .ya .ya,.con (.mref 0),.cell (.val .ye)]⟩
def G71_2 (N:Nat):(R:Type)->F71_2.den->(AExit->St->Option R)->Option R:=fun R d k=>iter (fun kb=>zjo N d.1.2.2.2.2.1 d.1.2.2.2.2.2.1 kb
  (fun y0 y1=>k .ret (St.of [(1,(.mref 0)),(6,(.data .bool y0))] [.map .ya .ya y1]))
  (fun y0=>k (.exit 0) (St.of [(1,(.mref 0))] [.map .ya .ya y0]))) N (d.1.2.1,d.2.1,d.2.2.2.1)
def lp71 (N:Nat):Nat->Option z0o:=fun r=>cond (Nat.beq r 2) (some fun R sl os k=>F71_2.take sl os fun d=>G71_2 N R d k) (none)
def x71 (N:Nat):Ctx:=(mkX N 24 [(76,[c76 N]),(89,[c89v1 N])] [(2,⟨[1,12,4,5,10,11],[(4,some [],.con)]⟩)] [(2,[(0,⟨[1],[]⟩)])] ⟨[1,6],[]⟩ (fun _=>none) (lp71 N))
noncomputable def b71:Code:=((Go.Proofs.Try.f71).body).getD .skip
theorem s71_2 (N:Nat) {R:Type} (k:AExit->St->Option R) (t10:List Ya) (t11:Int) (kb:List Yl->List Obj->Option R) (x:Int×Yy×Yd):z0w (x71 N) (z02 2 (z00 b71)) (St.of [(1,(.mref 0)),(12,(.data .ya x.1)),(4,(.bptr 1 [])),(5,(.bptr 2 [])),(10,(.data .yc t10)),(11,(.data .ya t11))] [.map .ya .ya x.2.1,.cell (.tup (.mref 0)),.cell (.data .ye x.2.2)]) (z1m (x71 N) 2 ⟨[1,12,4,5,10,11],[(4,some [],.con)]⟩ kb k)=zjo N t10 t11 (fun y=>kb [(1,(.mref 0)),(12,(.data .ya y.1)),(4,(.bptr 1 [])),(5,(.bptr 2 [])),(10,(.data .yc t10)),(11,(.data .ya t11))] [.map .ya .ya y.2.1,.cell (.tup (.mref 0)),.cell (.data .ye y.2.2)])
  (fun y0 y1=>k .ret (St.of [(1,(.mref 0)),(6,(.data .bool y0))] [.map .ya .ya y1]))
  (fun y0=>k (.exit 0) (St.of [(1,(.mref 0))] [.map .ya .ya y0])) x:=by kernel_rfl
theorem l71_2 (N:Nat):z0n (x71 N) (z02 2 (z00 b71)):=
 z0h (G71_2 N) (by kernel_rfl) (by kernel_rfl) (by kernel_rfl) fun R k d=>
  z0g (st:=fun (x:Int×Yy×Yd)=>([(1,(.mref 0)),(12,(.data .ya x.1)),(4,(.bptr 1 [])),(5,(.bptr 2 [])),(10,(.data .yc d.1.2.2.2.2.1)),(11,(.data .ya d.1.2.2.2.2.2.1))],[.map .ya .ya x.2.1,.cell (.tup (.mref 0)),.cell (.data .ye x.2.2)])) (s71_2 N k d.1.2.2.2.2.1 d.1.2.2.2.2.2.1) N (d.1.2.1,d.2.1,d.2.2.2.1)
theorem e71 (N:Nat) (t0:Ye) (t2:Yd) (o0:List Yq):zbn (x71 N) fo71 b71 (St.of [(0,(.data .yg t0)),(1,(.mref 0)),(2,(.data .ye t2))] [.map .ya .ya o0])=f71 N t0 t2 o0:=by kernel_rfl
theorem k71 (N:Nat):z04 Go.Proofs.Try.prog 71 (c71 N):=
 z2v (fn:=Go.Proofs.Try.f71) (body:=b71) (c:=x71 N) (rs:=[6]) Go.Proofs.Try.func71 (by kernel_rfl) (by kernel_rfl) ⟨ttL_ok,z0p,z0r,z0s,z0q,z03 (z01 (k76 N)) (z03 (z01 (k89v1 N)) (z0e))⟩ mixed (by kernel_rfl) (zL (by kernel_rfl)) (by kernel_rfl) (by kernel_rfl) (by kernel_rfl) (z3f (by kernel_rfl))
  (z0a (by kernel_rfl:z00 b71=[z02 2 (z00 b71)]) (.cons (l71_2 N) .nil)) fun d=>e71 N d.1.1 d.1.2.2.1 d.2.1
end
end Go.Kz
