/-
  The functions of the program as plain functions on lists and numbers, and the proofs that the program computes them. Printed by a program.
-/
import Derived.Test.YtnjfafnflbackaaGreatKzP43Zd
set_option linter.unusedSimpArgs false
set_option maxRecDepth 100000
set_option linter.unusedVariables false
namespace Go.Kz
open Go.Proofs
noncomputable section
def zhm {R:Type} (N:Nat) (t2:Int) (t1:List Yk) (o1:Yd) (kb:Int×Yaf->Option R) (kx0:Yaf->Option R):Int×Yaf->Option R:=
 fun (t8,o0)=>
  cond (!(decide (t8=(-1))))
   ((idx t1 t8).bind fun x=>
   (idx o1.2.1 x.1).bind fun x_1=>
   (idx x_1 t2).bind fun x_2=>
   chk (decide ((Nat.succ (List.length o0))≤z31)) <|
   (idx x.2.1 x_2).bind fun x_3=>
   kb (x_3,(o0++((x.1,(x_2,())) :: ([]:List Ye)))))
   (kx0 o0)
def f33 (N:Nat) (a0:Yd) (a1:List Yk) (a2:Int):Option Yaf:=
 cond (decide ((len a1)=0))
  (iter (fun w=>zhm N a2 a1 a0 w
   (fun o0_1=>
    some o0_1)) N ((-1),([]:List Ye)))
  (iter (fun w=>zhm N a2 a1 a0 w
   (fun o0_2=>
    some o0_2)) N (0,([]:List Ye)))
def c33 (N:Nat):Callee:=.pure (.pr (.val .yf) (.pr (.val .ym) (.pr (.val .ya) .un))) [.yo] fun d=>f33 N d.1 d.2.1 d.2.2.1
def F33_5:SForm:=⟨[(7,(.ref 0)),(2,(.val .ya)),(3,(.bptr 1 [])),(8,(.val .ya)),(1,(.val .ym))],[.row .yg,.cell (.val .yf)]⟩
def G33_5 (N:Nat):(R:Type)->F33_5.den->(AExit->St->Option R)->Option R:=fun R d k=>iter (fun kb=>zhm N d.1.2.1 d.1.2.2.2.2.1 d.2.2.1 kb
  (fun y0=>k (.exit 0) (St.of [(7,(.ref 0 [] 0))] [.row .yg y0 0]))) N (d.1.2.2.2.1,d.2.1)
def lp33 (N:Nat):Nat->Option z0h:=fun r=>cond (Nat.beq r 5) (some fun R sl os k=>F33_5.take sl os fun d=>G33_5 N R d k) (none)
def x33 (N:Nat):Ctx:=(mkX N 43 [] [(5,⟨[7,2,3,8,1],[]⟩)] [(5,[(0,⟨[7],[]⟩)])] ⟨[6],[]⟩ (fun _=>none) (lp33 N))
noncomputable def b33:Code:=((Go.Proofs.Tryz.f33).body).getD .skip
theorem s33_5 (N:Nat) {R:Type} (k:AExit->St->Option R) (t2:Int) (t1:List Yk) (o1:Yd) (kb:List Yo->List Obj->Option R) (x:Int×Yaf):z0q (x33 N) (z03 5 (z00 b33)) (St.of [(7,(.ref 0 [] 0)),(2,(.data .ya t2)),(3,(.bptr 1 [])),(8,(.data .ya x.1)),(1,(.data .ym t1))] [.row .yg x.2 0,.cell (.data .yf o1)]) (z12 (x33 N) 5 ⟨[7,2,3,8,1],[]⟩ kb k)=zhm N t2 t1 o1 (fun y=>kb [(7,(.ref 0 [] 0)),(2,(.data .ya t2)),(3,(.bptr 1 [])),(8,(.data .ya y.1)),(1,(.data .ym t1))] [.row .yg y.2 0,.cell (.data .yf o1)])
  (fun y0=>k (.exit 0) (St.of [(7,(.ref 0 [] 0))] [.row .yg y0 0])) x:=by kernel_rfl
theorem l33_5 (N:Nat):z0f (x33 N) (z03 5 (z00 b33)):=
 z0b (G33_5 N) (by kernel_rfl) (by kernel_rfl) (by kernel_rfl) fun R k d=>
  z0a (st:=fun (x:Int×Yaf)=>([(7,(.ref 0 [] 0)),(2,(.data .ya d.1.2.1)),(3,(.bptr 1 [])),(8,(.data .ya x.1)),(1,(.data .ym d.1.2.2.2.2.1))],[.row .yg x.2 0,.cell (.data .yf d.2.2.1)])) (s33_5 N k d.1.2.1 d.1.2.2.2.2.1 d.2.2.1) N (d.1.2.2.2.1,d.2.1)
theorem e33 (N:Nat) (a0:Yd) (a1:List Yk) (a2:Int):z1g (x33 N) [.yo] [.tmp 6] b33 (entry (.pr (.val .yf) (.pr (.val .ym) (.pr (.val .ya) .un))) (a0,(a1,(a2,()))))=f33 N a0 a1 a2:=by kernel_rfl
theorem k33 (N:Nat):z04 Go.Proofs.Tryz.prog 33 (c33 N):=
 z1h (fn:=Go.Proofs.Tryz.f33) (body:=b33) (c:=x33 N) Go.Proofs.Tryz.func33 (by kernel_rfl) (by kernel_rfl) ⟨ttL_ok,z0k,z0m,z0n,z0l,z09⟩ mixed (by kernel_rfl) (zL (by kernel_rfl)) (by kernel_rfl) (by decide)
  (z06 (by kernel_rfl:z00 b33=[z03 5 (z00 b33)]) (.cons (l33_5 N) .nil)) fun d=>e33 N d.1 d.2.1 d.2.2.1
def zlk {R:Type} (N:Nat) (t1:List Ye) (t0:List Ye) (t12:Int) (kb:Int->Option R) (kret:Bool->Option R) (kx0:Unit->Option R):Int->Option R:=
 fun t13=>
  cond (decide (t13 < t12))
   ((idx t0 t13).bind fun x=>
   (idx t1 t13).bind fun x_1=>
   cond (!(eqD .yg x x_1))
    (kret false)
    (kb (z0g (t13+1))))
   (kx0 ())
def f34 (N:Nat) (a0:List Ye) (a1:List Ye):Option (Bool):=
 cond (!(decide ((len a0)=(len a1))))
  (some false)
  (iter (fun w=>zlk N a1 a0 (len a0) w
   (fun t4=>
    some t4)
   (fun (_:Unit)=>
    some true)) N 0)
def c34 (N:Nat):Callee:=.pure (.pr (.val .yo) (.pr (.val .yo) .un)) [.bool] fun d=>f34 N d.1 d.2.1
def F34_4:SForm:=⟨[(13,(.val .ya)),(1,(.val .yo)),(0,(.val .yo)),(12,(.val .ya))],[]⟩
def G34_4 (N:Nat):(R:Type)->F34_4.den->(AExit->St->Option R)->Option R:=fun R d k=>iter (fun kb=>zlk N d.1.2.1 d.1.2.2.1 d.1.2.2.2.1 kb
  (fun y0=>k .ret (St.of [(4,(.data .bool y0))] []))
  (fun _=>k (.exit 0) (St.of [] []))) N d.1.1
def lp34 (N:Nat):Nat->Option z0h:=fun r=>cond (Nat.beq r 4) (some fun R sl os k=>F34_4.take sl os fun d=>G34_4 N R d k) (none)
def x34 (N:Nat):Ctx:=(mkX N 26 [] [(4,⟨[13,1,0,12],[]⟩)] [(4,[(0,⟨[],[]⟩)])] ⟨[4],[]⟩ (fun _=>none) (lp34 N))
noncomputable def b34:Code:=((Go.Proofs.Tryz.f34).body).getD .skip
theorem s34_4 (N:Nat) {R:Type} (k:AExit->St->Option R) (t1:List Ye) (t0:List Ye) (t12:Int) (kb:List Yo->List Obj->Option R) (x:Int):z0q (x34 N) (z03 4 (z00 b34)) (St.of [(13,(.data .ya x)),(1,(.data .yo t1)),(0,(.data .yo t0)),(12,(.data .ya t12))] []) (z12 (x34 N) 4 ⟨[13,1,0,12],[]⟩ kb k)=zlk N t1 t0 t12 (fun y=>kb [(13,(.data .ya y)),(1,(.data .yo t1)),(0,(.data .yo t0)),(12,(.data .ya t12))] [])
  (fun y0=>k .ret (St.of [(4,(.data .bool y0))] []))
  (fun _=>k (.exit 0) (St.of [] [])) x:=by kernel_rfl
theorem l34_4 (N:Nat):z0f (x34 N) (z03 4 (z00 b34)):=
 z0b (G34_4 N) (by kernel_rfl) (by kernel_rfl) (by kernel_rfl) fun R k d=>
  z0a (st:=fun (x:Int)=>([(13,(.data .ya x)),(1,(.data .yo d.1.2.1)),(0,(.data .yo d.1.2.2.1)),(12,(.data .ya d.1.2.2.2.1))],[])) (s34_4 N k d.1.2.1 d.1.2.2.1 d.1.2.2.2.1) N d.1.1
theorem e34 (N:Nat) (a0:List Ye) (a1:List Ye):z1g (x34 N) [.bool] [.tmp 4] b34 (entry (.pr (.val .yo) (.pr (.val .yo) .un)) (a0,(a1,())))=f34 N a0 a1:=by kernel_rfl
theorem k34 (N:Nat):z04 Go.Proofs.Tryz.prog 34 (c34 N):=
 z1h (fn:=Go.Proofs.Tryz.f34) (body:=b34) (c:=x34 N) Go.Proofs.Tryz.func34 (by kernel_rfl) (by kernel_rfl) ⟨ttL_ok,z0k,z0m,z0n,z0l,z09⟩ mixed (by kernel_rfl) (zL (by kernel_rfl)) (by kernel_rfl) (by decide)
  (z06 (by kernel_rfl:z00 b34=[z03 4 (z00 b34)]) (.cons (l34_4 N) .nil)) fun d=>e34 N d.1 d.2.1
def zfk {R:Type} (N:Nat) (t10:List Ye) (t8_1:Int) (t1_1:List Yk) (t16_1:Int) (t17_1:Int) (t33:Int) (o0_1:List Int) (o1_1:List Yaf) (o2_1:Yd) (kb:Int×Int->Option R) (kx2:Int->Option R):Int×Int->Option R:=
 fun (t34,t11)=>
  cond (decide (t34 < t33))
   (chk (inb o1_1 t34) <|
   (idx o1_1 t34).bind fun x=>
   (f34 N x t10).bind fun r_1=>
   cond r_1
    (chk (inb o0_1 t34) <|
    (idx o0_1 t34).bind fun x_1=>
    kb ((z0g (t34+1)),x_1))
    (kb ((z0g (t34+1)),t11)))
   (kx2 t11)
def zlt {R:Type} (N:Nat) (t1:List Yk) (t16:Int) (o2:Yd) (kb:Int×Int×List Int×(List Yaf)->Option R) (kx0:Int->Ya->Option R):Int×Int×List Int×(List Yaf)->Option R:=
 fun (t17,t8,o0,o1)=>
  cond (decide (t17 < t16))
   ((f33 N o2 t1 t17).bind fun r=>
   chk (decide ((Nat.succ (List.length o1))≤z31)) <|
   iter (fun w=>zfk N r (zky t8 (len r)) t1 t16 t17 t17 o0 (o1++(r :: ([]:List Yaf))) o2 w
    (fun t11_1=>
     chk (decide ((Nat.succ (List.length o0))≤z31)) <|
     kb ((z0g (t17+1)),(zky t8 (len r)),(o0++(t11_1 :: ([]:List Int))),(o1++(r :: ([]:List Yaf)))))) N (0,t17))
   (kx0 t8 o0)
def f12 (N:Nat) (a0:Yd) (a1:List Yk):Option (List Int×Int):=
 iter (fun w=>zlt N a1 a0.1 a0 w
  (fun t8_2 o0_2=>
   (f35 N o0_2).bind fun r_2=>
   some (r_2,t8_2))) N (0,0,([]:List Int),([]:List Yaf))
def c12 (N:Nat):Callee:=.pure (.pr (.val .yf) (.pr (.val .ym) .un)) [.yi,.ya] fun d=>f12 N d.1 d.2.1
def F12_12:SForm:=⟨[(34,(.val .ya)),(6,(.ref 0)),(10,(.val .yo)),(7,(.ref 1)),(8,(.val .ya)),(1,(.val .ym)),(2,(.bptr 2 [])),(16,(.val .ya)),(17,(.val .ya)),(11,(.val .ya)),(33,(.val .ya))],[.row .ya,.row .yo,.cell (.val .yf)]⟩
def G12_12 (N:Nat):(R:Type)->F12_12.den->(AExit->St->Option R)->Option R:=fun R d k=>iter (fun kb=>zfk N d.1.2.2.1 d.1.2.2.2.2.1 d.1.2.2.2.2.2.1 d.1.2.2.2.2.2.2.2.1 d.1.2.2.2.2.2.2.2.2.1 d.1.2.2.2.2.2.2.2.2.2.2.1 d.2.1 d.2.2.1 d.2.2.2.1 kb
  (fun y4=>k (.exit 2) (St.of [(8,(.data .ya d.1.2.2.2.2.1)),(7,(.ref 0 [] 0)),(1,(.data .ym d.1.2.2.2.2.2.1)),(2,(.bptr 1 [])),(16,(.data .ya d.1.2.2.2.2.2.2.2.1)),(17,(.data .ya d.1.2.2.2.2.2.2.2.2.1)),(11,(.data .ya y4)),(6,(.ref 2 [] 0))] [.row .yo d.2.2.1 0,.cell (.data .yf d.2.2.2.1),.row .ya d.2.1 0]))) N (d.1.1,d.1.2.2.2.2.2.2.2.2.2.1)
def F12_5:SForm:=⟨[(6,(.ref 0)),(17,(.val .ya)),(8,(.val .ya)),(7,(.ref 1)),(1,(.val .ym)),(2,(.bptr 2 [])),(16,(.val .ya))],[.row .ya,.row .yo,.cell (.val .yf)]⟩
def G12_5 (N:Nat):(R:Type)->F12_5.den->(AExit->St->Option R)->Option R:=fun R d k=>iter (fun kb=>zlt N d.1.2.2.2.2.1 d.1.2.2.2.2.2.2.1 d.2.2.2.1 kb
  (fun y0 y1=>k (.exit 0) (St.of [(8,(.data .ya y0)),(6,(.ref 0 [] 0))] [.row .ya y1 0]))) N (d.1.2.1,d.1.2.2.1,d.2.1,d.2.2.1)
def lp12 (N:Nat):Nat->Option z0h:=fun r=>cond (Nat.beq r 12) (some fun R sl os k=>F12_12.take sl os fun d=>G12_12 N R d k) (cond (Nat.beq r 5) (some fun R sl os k=>F12_5.take sl os fun d=>G12_5 N R d k) (none))
def x12 (N:Nat):Ctx:=(mkX N 56 [(33,[c33 N]),(34,[c34 N]),(35,[c35 N])] [(5,⟨[6,17,8,7,1,2,16],[]⟩),(12,⟨[34,6,10,7,8,1,2,16,17,11,33],[]⟩)] [(5,[(0,⟨[8,6],[]⟩)]),(12,[(2,⟨[8,7,1,2,16,17,11,6],[]⟩)])] ⟨[4,5],[]⟩ (fun _=>none) (lp12 N))
noncomputable def b12:Code:=((Go.Proofs.Tryz.f12).body).getD .skip
theorem s12_12 (N:Nat) {R:Type} (k:AExit->St->Option R) (t10:List Ye) (t8_1:Int) (t1_1:List Yk) (t16_1:Int) (t17_1:Int) (t33:Int) (o0_1:List Int) (o1_1:List Yaf) (o2_1:Yd) (kb:List Yo->List Obj->Option R) (x:Int×Int):z0q (x12 N) (z03 12 (z00 b12)) (St.of [(34,(.data .ya x.1)),(6,(.ref 0 [] 0)),(10,(.data .yo t10)),(7,(.ref 1 [] 0)),(8,(.data .ya t8_1)),(1,(.data .ym t1_1)),(2,(.bptr 2 [])),(16,(.data .ya t16_1)),(17,(.data .ya t17_1)),(11,(.data .ya x.2)),(33,(.data .ya t33))] [.row .ya o0_1 0,.row .yo o1_1 0,.cell (.data .yf o2_1)]) (z12 (x12 N) 12 ⟨[34,6,10,7,8,1,2,16,17,11,33],[]⟩ kb k)=zfk N t10 t8_1 t1_1 t16_1 t17_1 t33 o0_1 o1_1 o2_1 (fun y=>kb [(34,(.data .ya y.1)),(6,(.ref 0 [] 0)),(10,(.data .yo t10)),(7,(.ref 1 [] 0)),(8,(.data .ya t8_1)),(1,(.data .ym t1_1)),(2,(.bptr 2 [])),(16,(.data .ya t16_1)),(17,(.data .ya t17_1)),(11,(.data .ya y.2)),(33,(.data .ya t33))] [.row .ya o0_1 0,.row .yo o1_1 0,.cell (.data .yf o2_1)])
  (fun y4=>k (.exit 2) (St.of [(8,(.data .ya t8_1)),(7,(.ref 0 [] 0)),(1,(.data .ym t1_1)),(2,(.bptr 1 [])),(16,(.data .ya t16_1)),(17,(.data .ya t17_1)),(11,(.data .ya y4)),(6,(.ref 2 [] 0))] [.row .yo o1_1 0,.cell (.data .yf o2_1),.row .ya o0_1 0])) x:=by kernel_rfl
theorem l12_12 (N:Nat):z0f (x12 N) (z03 12 (z00 b12)):=
 z0b (G12_12 N) (by kernel_rfl) (by kernel_rfl) (by kernel_rfl) fun R k d=>
  z0a (st:=fun (x:Int×Int)=>([(34,(.data .ya x.1)),(6,(.ref 0 [] 0)),(10,(.data .yo d.1.2.2.1)),(7,(.ref 1 [] 0)),(8,(.data .ya d.1.2.2.2.2.1)),(1,(.data .ym d.1.2.2.2.2.2.1)),(2,(.bptr 2 [])),(16,(.data .ya d.1.2.2.2.2.2.2.2.1)),(17,(.data .ya d.1.2.2.2.2.2.2.2.2.1)),(11,(.data .ya x.2)),(33,(.data .ya d.1.2.2.2.2.2.2.2.2.2.2.1))],[.row .ya d.2.1 0,.row .yo d.2.2.1 0,.cell (.data .yf d.2.2.2.1)])) (s12_12 N k d.1.2.2.1 d.1.2.2.2.2.1 d.1.2.2.2.2.2.1 d.1.2.2.2.2.2.2.2.1 d.1.2.2.2.2.2.2.2.2.1 d.1.2.2.2.2.2.2.2.2.2.2.1 d.2.1 d.2.2.1 d.2.2.2.1) N (d.1.1,d.1.2.2.2.2.2.2.2.2.2.1)
theorem s12_5 (N:Nat) {R:Type} (k:AExit->St->Option R) (t1:List Yk) (t16:Int) (o2:Yd) (kb:List Yo->List Obj->Option R) (x:Int×Int×List Int×(List Yaf)):z0q (x12 N) (z03 5 (z00 b12)) (St.of [(6,(.ref 0 [] 0)),(17,(.data .ya x.1)),(8,(.data .ya x.2.1)),(7,(.ref 1 [] 0)),(1,(.data .ym t1)),(2,(.bptr 2 [])),(16,(.data .ya t16))] [.row .ya x.2.2.1 0,.row .yo x.2.2.2 0,.cell (.data .yf o2)]) (z12 (x12 N) 5 ⟨[6,17,8,7,1,2,16],[]⟩ kb k)=zlt N t1 t16 o2 (fun y=>kb [(6,(.ref 0 [] 0)),(17,(.data .ya y.1)),(8,(.data .ya y.2.1)),(7,(.ref 1 [] 0)),(1,(.data .ym t1)),(2,(.bptr 2 [])),(16,(.data .ya t16))] [.row .ya y.2.2.1 0,.row .yo y.2.2.2 0,.cell (.data .yf o2)])
  (fun y0 y1=>k (.exit 0) (St.of [(8,(.data .ya y0)),(6,(.ref 0 [] 0))] [.row .ya y1 0])) x:=by kernel_rfl
theorem l12_5 (N:Nat):z0f (x12 N) (z03 5 (z00 b12)):=
 z0b (G12_5 N) (by kernel_rfl) (by kernel_rfl) (by kernel_rfl) fun R k d=>
  z0a (st:=fun (x:Int×Int×List Int×(List Yaf))=>([(6,(.ref 0 [] 0)),(17,(.data .ya x.1)),(8,(.data .ya x.2.1)),(7,(.ref 1 [] 0)),(1,(.data .ym d.1.2.2.2.2.1)),(2,(.bptr 2 [])),(16,(.data .ya d.1.2.2.2.2.2.2.1))],[.row .ya x.2.2.1 0,.row .yo x.2.2.2 0,.cell (.data .yf d.2.2.2.1)])) (s12_5 N k d.1.2.2.2.2.1 d.1.2.2.2.2.2.2.1 d.2.2.2.1) N (d.1.2.1,d.1.2.2.1,d.2.1,d.2.2.1)
theorem e12 (N:Nat) (a0:Yd) (a1:List Yk):z1g (x12 N) [.yi,.ya] [.tmp 4,.tmp 5] b12 (entry (.pr (.val .yf) (.pr (.val .ym) .un)) (a0,(a1,())))=f12 N a0 a1:=by kernel_rfl
theorem k12 (N:Nat):z04 Go.Proofs.Tryz.prog 12 (c12 N):=
 z1h (fn:=Go.Proofs.Tryz.f12) (body:=b12) (c:=x12 N) Go.Proofs.Tryz.func12 (by kernel_rfl) (by kernel_rfl) ⟨ttL_ok,z0k,z0m,z0n,z0l,z02 (z01 (k33 N)) (z02 (z01 (k34 N)) (z02 (z01 (k35 N)) (z09)))⟩ mixed (by kernel_rfl) (zL (by kernel_rfl)) (by kernel_rfl) (by decide)
  (z06 (by kernel_rfl:z00 b12=[z03 5 (z00 b12),z03 12 (z00 b12)]) (.cons (l12_5 N) (.cons (l12_12 N) .nil))) fun d=>e12 N d.1 d.2.1
def zhi {R:Type} (N:Nat) (t0:List Int) (t1:Int) (t7:Int) (kb:Int->Option R) (kret:Int->Option R) (kx0:Unit->Option R):Int->Option R:=
 fun t8=>
  cond (decide (t8 < t7))
   ((idx t0 t8).bind fun x=>
   cond (decide (t1=x))
    (kret t8)
    (kb (z0g (t8+1))))
   (kx0 ())
def f83 (N:Nat) (a0:List Int) (a1:Int):Option (Int):=
 iter (fun w=>zhi N a0 a1 (len a0) w
  (fun t4=>
   some t4)
  (fun (_:Unit)=>
   some (-1))) N 0
def c83 (N:Nat):Callee:=.pure (.pr (.val .yb) (.pr (.val .ya) .un)) [.ya] fun d=>f83 N d.1 d.2.1
def F83_2:SForm:=⟨[(8,(.val .ya)),(0,(.val .yb)),(1,(.val .ya)),(7,(.val .ya))],[]⟩
def G83_2 (N:Nat):(R:Type)->F83_2.den->(AExit->St->Option R)->Option R:=fun R d k=>iter (fun kb=>zhi N d.1.2.1 d.1.2.2.1 d.1.2.2.2.1 kb
  (fun y0=>k .ret (St.of [(4,(.data .ya y0))] []))
  (fun _=>k (.exit 0) (St.of [] []))) N d.1.1
def lp83 (N:Nat):Nat->Option z0h:=fun r=>cond (Nat.beq r 2) (some fun R sl os k=>F83_2.take sl os fun d=>G83_2 N R d k) (none)
def x83 (N:Nat):Ctx:=(mkX N 19 [] [(2,⟨[8,0,1,7],[]⟩)] [(2,[(0,⟨[],[]⟩)])] ⟨[4],[]⟩ (fun _=>none) (lp83 N))
noncomputable def b83:Code:=((Go.Proofs.Tryz.f83).body).getD .skip
theorem s83_2 (N:Nat) {R:Type} (k:AExit->St->Option R) (t0:List Int) (t1:Int) (t7:Int) (kb:List Yo->List Obj->Option R) (x:Int):z0q (x83 N) (z03 2 (z00 b83)) (St.of [(8,(.data .ya x)),(0,(.data .yb t0)),(1,(.data .ya t1)),(7,(.data .ya t7))] []) (z12 (x83 N) 2 ⟨[8,0,1,7],[]⟩ kb k)=zhi N t0 t1 t7 (fun y=>kb [(8,(.data .ya y)),(0,(.data .yb t0)),(1,(.data .ya t1)),(7,(.data .ya t7))] [])
  (fun y0=>k .ret (St.of [(4,(.data .ya y0))] []))
  (fun _=>k (.exit 0) (St.of [] [])) x:=by kernel_rfl
theorem l83_2 (N:Nat):z0f (x83 N) (z03 2 (z00 b83)):=
 z0b (G83_2 N) (by kernel_rfl) (by kernel_rfl) (by kernel_rfl) fun R k d=>
  z0a (st:=fun (x:Int)=>([(8,(.data .ya x)),(0,(.data .yb d.1.2.1)),(1,(.data .ya d.1.2.2.1)),(7,(.data .ya d.1.2.2.2.1))],[])) (s83_2 N k d.1.2.1 d.1.2.2.1 d.1.2.2.2.1) N d.1.1
theorem e83 (N:Nat) (a0:List Int) (a1:Int):z1g (x83 N) [.ya] [.tmp 4] b83 (entry (.pr (.val .yb) (.pr (.val .ya) .un)) (a0,(a1,())))=f83 N a0 a1:=by kernel_rfl
theorem k83 (N:Nat):z04 Go.Proofs.Tryz.prog 83 (c83 N):=
 z1h (fn:=Go.Proofs.Tryz.f83) (body:=b83) (c:=x83 N) Go.Proofs.Tryz.func83 (by kernel_rfl) (by kernel_rfl) ⟨ttL_ok,z0k,z0m,z0n,z0l,z09⟩ mixed (by kernel_rfl) (zL (by kernel_rfl)) (by kernel_rfl) (by decide)
  (z06 (by kernel_rfl:z00 b83=[z03 2 (z00 b83)]) (.cons (l83_2 N) .nil)) fun d=>e83 N d.1 d.2.1
def f62 (N:Nat) (a0:List Int) (a1:Int):Option (Bool):=
 (f83 N a0 a1).bind fun r=>
 some (decide (0≤r))
def c62 (N:Nat):Callee:=.pure (.pr (.val .yb) (.pr (.val .ya) .un)) [.bool] fun d=>f62 N d.1 d.2.1
def lp62 (N:Nat):Nat->Option z0h:=fun r=>none
def x62 (N:Nat):Ctx:=(mkX N 9 [(83,[c83 N])] [] [] ⟨[4],[]⟩ (fun _=>none) (lp62 N))
noncomputable def b62:Code:=((Go.Proofs.Tryz.f62).body).getD .skip
theorem e62 (N:Nat) (a0:List Int) (a1:Int):z1g (x62 N) [.bool] [.tmp 4] b62 (entry (.pr (.val .yb) (.pr (.val .ya) .un)) (a0,(a1,())))=f62 N a0 a1:=by kernel_rfl
theorem k62 (N:Nat):z04 Go.Proofs.Tryz.prog 62 (c62 N):=
 z1h (fn:=Go.Proofs.Tryz.f62) (body:=b62) (c:=x62 N) Go.Proofs.Tryz.func62 (by kernel_rfl) (by kernel_rfl) ⟨ttL_ok,z0k,z0m,z0n,z0l,z02 (z01 (k83 N)) (z09)⟩ mixed (by kernel_rfl) (zL (by kernel_rfl)) (by kernel_rfl) (by decide)
  (z06 (by kernel_rfl:z00 b62=[]) .nil) fun d=>e62 N d.1 d.2.1
def zd1 {R:Type} (N:Nat) (t1:List Int) (t2:Int) (t9:List Ye) (t10:Int) (kb:Int->Option R) (kret:Bool->Option R) (kx0:Unit->Option R):Int->Option R:=
 fun t11=>
  cond (decide (t11 < t10))
   ((idx t9 t11).bind fun x=>
   (cond (decide (t2≤x.2.1))
     ((f62 N t1 x.1).bind fun r=>
     some r)
     (some false)).bind fun b=>
   cond b
    (kret true)
    (kb (z0g (t11+1))))
   (kx0 ())
def f36 (N:Nat) (a0:List Ye) (a1:List Int) (a2:Int):Option (Bool):=
 iter (fun w=>zd1 N a1 a2 a0 (len a0) w
  (fun t6=>
   some t6)
  (fun (_:Unit)=>
   some false)) N 0
def c36 (N:Nat):Callee:=.pure (.pr (.val .yo) (.pr (.val .yb) (.pr (.val .ya) .un))) [.bool] fun d=>f36 N d.1 d.2.1 d.2.2.1
def F36_2:SForm:=⟨[(11,(.val .ya)),(1,(.val .yb)),(2,(.val .ya)),(9,(.val .yo)),(10,(.val .ya))],[]⟩
def G36_2 (N:Nat):(R:Type)->F36_2.den->(AExit->St->Option R)->Option R:=fun R d k=>iter (fun kb=>zd1 N d.1.2.1 d.1.2.2.1 d.1.2.2.2.1 d.1.2.2.2.2.1 kb
  (fun y0=>k .ret (St.of [(6,(.data .bool y0))] []))
  (fun _=>k (.exit 0) (St.of [] []))) N d.1.1
def lp36 (N:Nat):Nat->Option z0h:=fun r=>cond (Nat.beq r 2) (some fun R sl os k=>F36_2.take sl os fun d=>G36_2 N R d k) (none)
def x36 (N:Nat):Ctx:=(mkX N 26 [(62,[c62 N])] [(2,⟨[11,1,2,9,10],[]⟩)] [(2,[(0,⟨[],[]⟩)])] ⟨[6],[]⟩ (fun _=>none) (lp36 N))
noncomputable def b36:Code:=((Go.Proofs.Tryz.f36).body).getD .skip
theorem s36_2 (N:Nat) {R:Type} (k:AExit->St->Option R) (t1:List Int) (t2:Int) (t9:List Ye) (t10:Int) (kb:List Yo->List Obj->Option R) (x:Int):z0q (x36 N) (z03 2 (z00 b36)) (St.of [(11,(.data .ya x)),(1,(.data .yb t1)),(2,(.data .ya t2)),(9,(.data .yo t9)),(10,(.data .ya t10))] []) (z12 (x36 N) 2 ⟨[11,1,2,9,10],[]⟩ kb k)=zd1 N t1 t2 t9 t10 (fun y=>kb [(11,(.data .ya y)),(1,(.data .yb t1)),(2,(.data .ya t2)),(9,(.data .yo t9)),(10,(.data .ya t10))] [])
  (fun y0=>k .ret (St.of [(6,(.data .bool y0))] []))
  (fun _=>k (.exit 0) (St.of [] [])) x:=by kernel_rfl
theorem l36_2 (N:Nat):z0f (x36 N) (z03 2 (z00 b36)):=
 z0b (G36_2 N) (by kernel_rfl) (by kernel_rfl) (by kernel_rfl) fun R k d=>
  z0a (st:=fun (x:Int)=>([(11,(.data .ya x)),(1,(.data .yb d.1.2.1)),(2,(.data .ya d.1.2.2.1)),(9,(.data .yo d.1.2.2.2.1)),(10,(.data .ya d.1.2.2.2.2.1))],[])) (s36_2 N k d.1.2.1 d.1.2.2.1 d.1.2.2.2.1 d.1.2.2.2.2.1) N d.1.1
theorem e36 (N:Nat) (a0:List Ye) (a1:List Int) (a2:Int):z1g (x36 N) [.bool] [.tmp 6] b36 (entry (.pr (.val .yo) (.pr (.val .yb) (.pr (.val .ya) .un))) (a0,(a1,(a2,()))))=f36 N a0 a1 a2:=by kernel_rfl
theorem k36 (N:Nat):z04 Go.Proofs.Tryz.prog 36 (c36 N):=
 z1h (fn:=Go.Proofs.Tryz.f36) (body:=b36) (c:=x36 N) Go.Proofs.Tryz.func36 (by kernel_rfl) (by kernel_rfl) ⟨ttL_ok,z0k,z0m,z0n,z0l,z02 (z01 (k62 N)) (z09)⟩ mixed (by kernel_rfl) (zL (by kernel_rfl)) (by kernel_rfl) (by decide)
  (z06 (by kernel_rfl:z00 b36=[z03 2 (z00 b36)]) (.cons (l36_2 N) .nil)) fun d=>e36 N d.1 d.2.1 d.2.2.1
def zho {R:Type} (N:Nat) (t1:List Ye) (t2:Int) (t20:Int) (o0:Yd) (kb:Int->Option R) (kret:Int->Option R) (kx0:Unit->Option R):Int->Option R:=
 fun t21=>
  cond (decide (t21 < t20))
   ((cond (decide (0 < t21))
     ((idx t1 t21).bind fun x=>
     (idx t1 (z0g (t21-1))).bind fun x_1=>
     some (decide (x.1≤x_1.1)))
     (some false)).bind fun b=>
   cond b
    (kret 10)
    (kb (z0g (t21+1))))
   (kx0 ())
def zab {R:Type} (N:Nat) (t1_2:List Ye) (t2_2:Int) (t45_1:List Ye) (t46_1:Int) (t47_1:Int) (t9_1:Bool) (t75:Int) (o0_2:Ye) (o1_1:Yd) (o2:List Int) (kb:Int->Option R) (kret:Int->Option R) (kx4:Unit->Option R):Int->Option R:=
 fun t76=>
  cond (decide (t76 < t75))
   ((cond (decide (1 < o0_2.2.1))
     ((f30 N o1_1 o0_2.1 t76).bind fun r_4=>
     (f36 N t1_2 r_4 (z0g (o0_2.2.1-1))).bind fun r_5=>
     some (!r_5))
     (some false)).bind fun b_4=>
   cond b_4
    (kret 13)
    (kb (z0g (t76+1))))
   (kx4 ())
def zcd {R:Type} (N:Nat) (t1_1:List Ye) (t2_1:Int) (t45:List Ye) (t46:Int) (o0_1:Yd) (o1:List Int) (kb:Int×Bool->Option R) (kret:Int->Option R) (kx2:Bool->Option R):Int×Bool->Option R:=
 fun (t47,t9)=>
  cond (decide (t47 < t46))
   ((idx t45 t47).bind fun x_2=>
   (cond (decide (x_2.1 < 1))
     (some true)
     ((f10 N o0_1).bind fun r_2=>
     some (decide (r_2 < x_2.1)))).bind fun b_1=>
   (cond b_1
     (some true)
     ((cond (decide (0 < x_2.2.1))
       ((f29 N o0_1 o1 x_2.1).bind fun r_3=>
       some r_3)
       (some false)).bind fun b_2=>
     some b_2)).bind fun b_3=>
   cond b_3
    (kret 13)
    (iter (fun w=>zab N t1_1 t2_1 t45 t46 t47 t9 (len o0_1.2.1) x_2 o0_1 o1 w
     (fun t6_1=>
      kret t6_1)
     (fun (_:Unit)=>
      (cond t9
        (some true)
        ((f10 N o0_1).bind fun r_6=>
        (cond (decide (x_2.1=r_6))
          (some (decide (t2_1≤x_2.2.1)))
          (some false)).bind fun b_5=>
        some b_5)).bind fun b_6=>
      kb ((z0g (t47+1)),b_6))) N 0))
   (kx2 t9)
def f14 (N:Nat) (a0:Yd) (a1:List Ye) (a2:Int):Option (Int):=
 (f7 N a0).bind fun r=>
 cond (!r)
  (some 1)
  (cond (decide (4096 < (len a1)))
   (some 4)
   (iter (fun w=>zho N a1 a2 (len a1) a0 w
    (fun t6=>
     some t6)
    (fun (_:Unit)=>
     (f9 N a0).bind fun r_1=>
     iter (fun w=>zcd N a1 a2 a1 (len a1) a0 r_1 w
      (fun t6_2=>
       some t6_2)
      (fun t9_2=>
       cond (!t9_2)
        (some 13)
        (some 0))) N (0,(decide (a2≤0))))) N 0))
def c14 (N:Nat):Callee:=.pure (.pr (.val .yf) (.pr (.val .yo) (.pr (.val .ya) .un))) [.ya] fun d=>f14 N d.1 d.2.1 d.2.2.1
def F14_6:SForm:=⟨[(21,(.val .ya)),(1,(.val .yo)),(3,(.bptr 0 [])),(2,(.val .ya)),(20,(.val .ya))],[.cell (.val .yf)]⟩
def G14_6 (N:Nat):(R:Type)->F14_6.den->(AExit->St->Option R)->Option R:=fun R d k=>iter (fun kb=>zho N d.1.2.1 d.1.2.2.2.1 d.1.2.2.2.2.1 d.2.1 kb
  (fun y0=>k .ret (St.of [(6,(.data .ya y0))] []))
  (fun _=>k (.exit 0) (St.of [(3,(.bptr 0 [])),(1,(.data .yo d.1.2.1)),(2,(.data .ya d.1.2.2.2.1))] [.cell (.data .yf d.2.1)]))) N d.1.1
def F14_19:SForm:=⟨[(76,(.val .ya)),(11,(.bptr 0 [])),(3,(.bptr 1 [])),(1,(.val .yo)),(2,(.val .ya)),(8,(.ref 2)),(45,(.val .yo)),(46,(.val .ya)),(47,(.val .ya)),(9,(.val .bool)),(75,(.val .ya))],[.cell (.val .yg),.cell (.val .yf),.row .ya]⟩
def G14_19 (N:Nat):(R:Type)->F14_19.den->(AExit->St->Option R)->Option R:=fun R d k=>iter (fun kb=>zab N d.1.2.2.2.1 d.1.2.2.2.2.1 d.1.2.2.2.2.2.2.1 d.1.2.2.2.2.2.2.2.1 d.1.2.2.2.2.2.2.2.2.1 d.1.2.2.2.2.2.2.2.2.2.1 d.1.2.2.2.2.2.2.2.2.2.2.1 d.2.1 d.2.2.1 d.2.2.2.1 kb
  (fun y0=>k .ret (St.of [(6,(.data .ya y0))] []))
  (fun _=>k (.exit 4) (St.of [(3,(.bptr 0 [])),(1,(.data .yo d.1.2.2.2.1)),(2,(.data .ya d.1.2.2.2.2.1)),(8,(.ref 1 [] 0)),(45,(.data .yo d.1.2.2.2.2.2.2.1)),(46,(.data .ya d.1.2.2.2.2.2.2.2.1)),(47,(.data .ya d.1.2.2.2.2.2.2.2.2.1)),(11,(.bptr 2 [])),(9,(.data .bool d.1.2.2.2.2.2.2.2.2.2.1))] [.cell (.data .yf d.2.2.1),.row .ya d.2.2.2.1 0,.cell (.data .yg d.2.1)]))) N d.1.1
def F14_14:SForm:=⟨[(3,(.bptr 0 [])),(1,(.val .yo)),(47,(.val .ya)),(2,(.val .ya)),(9,(.val .bool)),(8,(.ref 1)),(45,(.val .yo)),(46,(.val .ya))],[.cell (.val .yf),.row .ya]⟩
def G14_14 (N:Nat):(R:Type)->F14_14.den->(AExit->St->Option R)->Option R:=fun R d k=>iter (fun kb=>zcd N d.1.2.1 d.1.2.2.2.1 d.1.2.2.2.2.2.2.1 d.1.2.2.2.2.2.2.2.1 d.2.1 d.2.2.1 kb
  (fun y0=>k .ret (St.of [(6,(.data .ya y0))] []))
  (fun y0=>k (.exit 2) (St.of [(9,(.data .bool y0))] []))) N (d.1.2.2.1,d.1.2.2.2.2.1)
def lp14 (N:Nat):Nat->Option z0h:=fun r=>cond (Nat.beq r 6) (some fun R sl os k=>F14_6.take sl os fun d=>G14_6 N R d k) (cond (Nat.beq r 19) (some fun R sl os k=>F14_19.take sl os fun d=>G14_19 N R d k) (cond (Nat.beq r 14) (some fun R sl os k=>F14_14.take sl os fun d=>G14_14 N R d k) (none)))
def x14 (N:Nat):Ctx:=(mkX N 113 [(7,[c7 N]),(9,[c9 N]),(10,[c10 N]),(29,[c29 N]),(30,[c30 N]),(36,[c36 N])] [(6,⟨[21,1,3,2,20],[]⟩),(14,⟨[3,1,47,2,9,8,45,46],[]⟩),(19,⟨[76,11,3,1,2,8,45,46,47,9,75],[]⟩)] [(6,[(0,⟨[3,1,2],[]⟩)]),(14,[(2,⟨[9],[]⟩)]),(19,[(4,⟨[3,1,2,8,45,46,47,11,9],[]⟩)])] ⟨[6],[]⟩ (fun _=>none) (lp14 N))
noncomputable def b14:Code:=((Go.Proofs.Tryz.f14).body).getD .skip
theorem s14_6 (N:Nat) {R:Type} (k:AExit->St->Option R) (t1:List Ye) (t2:Int) (t20:Int) (o0:Yd) (kb:List Yo->List Obj->Option R) (x:Int):z0q (x14 N) (z03 6 (z00 b14)) (St.of [(21,(.data .ya x)),(1,(.data .yo t1)),(3,(.bptr 0 [])),(2,(.data .ya t2)),(20,(.data .ya t20))] [.cell (.data .yf o0)]) (z12 (x14 N) 6 ⟨[21,1,3,2,20],[]⟩ kb k)=zho N t1 t2 t20 o0 (fun y=>kb [(21,(.data .ya y)),(1,(.data .yo t1)),(3,(.bptr 0 [])),(2,(.data .ya t2)),(20,(.data .ya t20))] [.cell (.data .yf o0)])
  (fun y0=>k .ret (St.of [(6,(.data .ya y0))] []))
  (fun _=>k (.exit 0) (St.of [(3,(.bptr 0 [])),(1,(.data .yo t1)),(2,(.data .ya t2))] [.cell (.data .yf o0)])) x:=by kernel_rfl
theorem l14_6 (N:Nat):z0f (x14 N) (z03 6 (z00 b14)):=
 z0b (G14_6 N) (by kernel_rfl) (by kernel_rfl) (by kernel_rfl) fun R k d=>
  z0a (st:=fun (x:Int)=>([(21,(.data .ya x)),(1,(.data .yo d.1.2.1)),(3,(.bptr 0 [])),(2,(.data .ya d.1.2.2.2.1)),(20,(.data .ya d.1.2.2.2.2.1))],[.cell (.data .yf d.2.1)])) (s14_6 N k d.1.2.1 d.1.2.2.2.1 d.1.2.2.2.2.1 d.2.1) N d.1.1
theorem s14_19 (N:Nat) {R:Type} (k:AExit->St->Option R) (t1_2:List Ye) (t2_2:Int) (t45_1:List Ye) (t46_1:Int) (t47_1:Int) (t9_1:Bool) (t75:Int) (o0_2:Ye) (o1_1:Yd) (o2:List Int) (kb:List Yo->List Obj->Option R) (x:Int):z0q (x14 N) (z03 19 (z00 b14)) (St.of [(76,(.data .ya x)),(11,(.bptr 0 [])),(3,(.bptr 1 [])),(1,(.data .yo t1_2)),(2,(.data .ya t2_2)),(8,(.ref 2 [] 0)),(45,(.data .yo t45_1)),(46,(.data .ya t46_1)),(47,(.data .ya t47_1)),(9,(.data .bool t9_1)),(75,(.data .ya t75))] [.cell (.data .yg o0_2),.cell (.data .yf o1_1),.row .ya o2 0]) (z12 (x14 N) 19 ⟨[76,11,3,1,2,8,45,46,47,9,75],[]⟩ kb k)=zab N t1_2 t2_2 t45_1 t46_1 t47_1 t9_1 t75 o0_2 o1_1 o2 (fun y=>kb [(76,(.data .ya y)),(11,(.bptr 0 [])),(3,(.bptr 1 [])),(1,(.data .yo t1_2)),(2,(.data .ya t2_2)),(8,(.ref 2 [] 0)),(45,(.data .yo t45_1)),(46,(.data .ya t46_1)),(47,(.data .ya t47_1)),(9,(.data .bool t9_1)),(75,(.data .ya t75))] [.cell (.data .yg o0_2),.cell (.data .yf o1_1),.row .ya o2 0])
  (fun y0=>k .ret (St.of [(6,(.data .ya y0))] []))
  (fun _=>k (.exit 4) (St.of [(3,(.bptr 0 [])),(1,(.data .yo t1_2)),(2,(.data .ya t2_2)),(8,(.ref 1 [] 0)),(45,(.data .yo t45_1)),(46,(.data .ya t46_1)),(47,(.data .ya t47_1)),(11,(.bptr 2 [])),(9,(.data .bool t9_1))] [.cell (.data .yf o1_1),.row .ya o2 0,.cell (.data .yg o0_2)])) x:=by kernel_rfl
theorem l14_19 (N:Nat):z0f (x14 N) (z03 19 (z00 b14)):=
 z0b (G14_19 N) (by kernel_rfl) (by kernel_rfl) (by kernel_rfl) fun R k d=>
  z0a (st:=fun (x:Int)=>([(76,(.data .ya x)),(11,(.bptr 0 [])),(3,(.bptr 1 [])),(1,(.data .yo d.1.2.2.2.1)),(2,(.data .ya d.1.2.2.2.2.1)),(8,(.ref 2 [] 0)),(45,(.data .yo d.1.2.2.2.2.2.2.1)),(46,(.data .ya d.1.2.2.2.2.2.2.2.1)),(47,(.data .ya d.1.2.2.2.2.2.2.2.2.1)),(9,(.data .bool d.1.2.2.2.2.2.2.2.2.2.1)),(75,(.data .ya d.1.2.2.2.2.2.2.2.2.2.2.1))],[.cell (.data .yg d.2.1),.cell (.data .yf d.2.2.1),.row .ya d.2.2.2.1 0])) (s14_19 N k d.1.2.2.2.1 d.1.2.2.2.2.1 d.1.2.2.2.2.2.2.1 d.1.2.2.2.2.2.2.2.1 d.1.2.2.2.2.2.2.2.2.1 d.1.2.2.2.2.2.2.2.2.2.1 d.1.2.2.2.2.2.2.2.2.2.2.1 d.2.1 d.2.2.1 d.2.2.2.1) N d.1.1
theorem s14_14 (N:Nat) {R:Type} (k:AExit->St->Option R) (t1_1:List Ye) (t2_1:Int) (t45:List Ye) (t46:Int) (o0_1:Yd) (o1:List Int) (kb:List Yo->List Obj->Option R) (x:Int×Bool):z0q (x14 N) (z03 14 (z00 b14)) (St.of [(3,(.bptr 0 [])),(1,(.data .yo t1_1)),(47,(.data .ya x.1)),(2,(.data .ya t2_1)),(9,(.data .bool x.2)),(8,(.ref 1 [] 0)),(45,(.data .yo t45)),(46,(.data .ya t46))] [.cell (.data .yf o0_1),.row .ya o1 0]) (z12 (x14 N) 14 ⟨[3,1,47,2,9,8,45,46],[]⟩ kb k)=zcd N t1_1 t2_1 t45 t46 o0_1 o1 (fun y=>kb [(3,(.bptr 0 [])),(1,(.data .yo t1_1)),(47,(.data .ya y.1)),(2,(.data .ya t2_1)),(9,(.data .bool y.2)),(8,(.ref 1 [] 0)),(45,(.data .yo t45)),(46,(.data .ya t46))] [.cell (.data .yf o0_1),.row .ya o1 0])
  (fun y0=>k .ret (St.of [(6,(.data .ya y0))] []))
  (fun y0=>k (.exit 2) (St.of [(9,(.data .bool y0))] [])) x:=by kernel_rfl
theorem l14_14 (N:Nat):z0f (x14 N) (z03 14 (z00 b14)):=
 z0b (G14_14 N) (by kernel_rfl) (by kernel_rfl) (by kernel_rfl) fun R k d=>
  z0a (st:=fun (x:Int×Bool)=>([(3,(.bptr 0 [])),(1,(.data .yo d.1.2.1)),(47,(.data .ya x.1)),(2,(.data .ya d.1.2.2.2.1)),(9,(.data .bool x.2)),(8,(.ref 1 [] 0)),(45,(.data .yo d.1.2.2.2.2.2.2.1)),(46,(.data .ya d.1.2.2.2.2.2.2.2.1))],[.cell (.data .yf d.2.1),.row .ya d.2.2.1 0])) (s14_14 N k d.1.2.1 d.1.2.2.2.1 d.1.2.2.2.2.2.2.1 d.1.2.2.2.2.2.2.2.1 d.2.1 d.2.2.1) N (d.1.2.2.1,d.1.2.2.2.2.1)
theorem e14 (N:Nat) (a0:Yd) (a1:List Ye) (a2:Int):z1g (x14 N) [.ya] [.tmp 6] b14 (entry (.pr (.val .yf) (.pr (.val .yo) (.pr (.val .ya) .un))) (a0,(a1,(a2,()))))=f14 N a0 a1 a2:=by kernel_rfl
theorem k14 (N:Nat):z04 Go.Proofs.Tryz.prog 14 (c14 N):=
 z1h (fn:=Go.Proofs.Tryz.f14) (body:=b14) (c:=x14 N) Go.Proofs.Tryz.func14 (by kernel_rfl) (by kernel_rfl) ⟨ttL_ok,z0k,z0m,z0n,z0l,z02 (z01 (k7 N)) (z02 (z01 (k9 N)) (z02 (z01 (k10 N)) (z02 (z01 (k29 N)) (z02 (z01 (k30 N)) (z02 (z01 (k36 N)) (z09))))))⟩ mixed (by kernel_rfl) (zL (by kernel_rfl)) (by kernel_rfl) (by decide)
  (z06 (by kernel_rfl:z00 b14=[z03 6 (z00 b14),z03 14 (z00 b14),z03 19 (z00 b14)]) (.cons (l14_6 N) (.cons (l14_14 N) (.cons (l14_19 N) .nil)))) fun d=>e14 N d.1 d.2.1 d.2.2.1
def f3 (N:Nat) (a0:Yd):Option (Bool):=
 (f4 N).bind fun r=>
 cond (!r)
  (some false)
  ((f5 N a0 ([]:List Ya) 7 4).bind fun r_1=>
  cond (!r_1)
   (some true)
   ((f6 N a0).bind fun r_2=>
   (f7 N a0).bind fun r_3=>
   cond (!r_3)
    ((cond (decide (r_2.2.2.2=1))
      (some (decide (r_2.1=0)))
      (some false)).bind fun b=>
    (cond b
      (some (decide ((len r_2.2.1)=0)))
      (some false)).bind fun b_1=>
    (cond b_1
      (some (decide ((len r_2.2.2.1)=0)))
      (some false)).bind fun b_2=>
    some b_2)
    (cond (!(decide (r_2.2.2.2=0)))
     (z17 [z17 [z17 [some false,
        some false],
       z17 [z17 [some false,
         some false],
        some false],
       z17 [some false,
        some false]],
      z17 [z17 [some false,
        some false],
       some false,
       z17 [some false,
        some false]],
      z17 [z17 [z17 [some false,
         some false],
        some false],
       z17 [z17 [some false,
         some false],
        some false,
        z17 [some false,
         some false]],
       z17 [some false,
        z17 [some false,
         some false]]],
      z17 [z17 [some false,
        some false],
       z17 [some false,
        some false],
       z17 [some false,
        z17 [some false,
         some false]]]])
     (z17 [z17 [(f9 N a0).bind fun r_4=>
       z17 [(f10 N a0).bind fun r_5=>
        (f8 N a0 r_5 r_4 ([]:List Yh)).bind fun r_6=>
        cond (!(decide (r_2.1=r_6.1.2.2.1)))
         (some false)
         ((f11 N a0 r_2.2.1).bind fun r_7=>
         cond (!r_7)
          (some false)
          (cond (decide (200 < (len r_2.2.2.1)))
           (some false)
           ((f12 N a0 r_2.2.1).bind fun r_8=>
           (f9 N a0).bind fun r_9=>
           (f13 N r_8.1 r_9).bind fun r_10=>
           (cond r_10
             (some (decide (r_8.2=r_2.1)))
             (some false)).bind fun b_3=>
           (cond b_3
             ((f14 N a0 r_2.2.2.1 r_2.1).bind fun r_11=>
             some (decide (r_11=0)))
             (some false)).bind fun b_4=>
           some b_4))),
        (f10 N a0).bind fun r_12=>
        (f8 N a0 r_12 r_4 ([]:List Yh)).bind fun r_13=>
        cond (!(decide (r_2.1=r_13.1.2.2.1)))
         (some false)
         ((f11 N a0 r_2.2.1).bind fun r_14=>
         cond (!r_14)
          (some false)
          (cond (decide (200 < (len r_2.2.2.1)))
           (some false)
           ((f12 N a0 r_2.2.1).bind fun r_15=>
           (f9 N a0).bind fun r_16=>
           (f13 N r_15.1 r_16).bind fun r_17=>
           (cond r_17
             (some (decide (r_15.2=r_2.1)))
             (some false)).bind fun b_5=>
           (cond b_5
             ((f14 N a0 r_2.2.2.1 r_2.1).bind fun r_18=>
             some (decide (r_18=0)))
             (some false)).bind fun b_6=>
           some b_6)))],
       z17 [(f9 N a0).bind fun r_19=>
        z17 [(f10 N a0).bind fun r_20=>
         (f8 N a0 r_20 r_19 ([]:List Yh)).bind fun r_21=>
         cond (!(decide (r_2.1=r_21.1.2.2.1)))
          (some false)
          ((f11 N a0 r_2.2.1).bind fun r_22=>
          cond (!r_22)
           (some false)
           (cond (decide (200 < (len r_2.2.2.1)))
            (some false)
            ((f12 N a0 r_2.2.1).bind fun r_23=>
            (f9 N a0).bind fun r_24=>
            (f13 N r_23.1 r_24).bind fun r_25=>
            (cond r_25
              (some (decide (r_23.2=r_2.1)))
              (some false)).bind fun b_7=>
            (cond b_7
              ((f14 N a0 r_2.2.2.1 r_2.1).bind fun r_26=>
              some (decide (r_26=0)))
              (some false)).bind fun b_8=>
            some b_8))),
         (f10 N a0).bind fun r_27=>
         (f8 N a0 r_27 r_19 ([]:List Yh)).bind fun r_28=>
         cond (!(decide (r_2.1=r_28.1.2.2.1)))
          (some false)
          ((f11 N a0 r_2.2.1).bind fun r_29=>
          cond (!r_29)
           (some false)
           (cond (decide (200 < (len r_2.2.2.1)))
            (some false)
            ((f12 N a0 r_2.2.1).bind fun r_30=>
            (f9 N a0).bind fun r_31=>
            (f13 N r_30.1 r_31).bind fun r_32=>
            (cond r_32
              (some (decide (r_30.2=r_2.1)))
              (some false)).bind fun b_9=>
            (cond b_9
              ((f14 N a0 r_2.2.2.1 r_2.1).bind fun r_33=>
              some (decide (r_33=0)))
              (some false)).bind fun b_10=>
            some b_10)))],
        (f9 N a0).bind fun r_34=>
        (f10 N a0).bind fun r_35=>
        (f8 N a0 r_35 r_34 ([]:List Yh)).bind fun r_36=>
        cond (!(decide (r_2.1=r_36.1.2.2.1)))
         (some false)
         ((f11 N a0 r_2.2.1).bind fun r_37=>
         cond (!r_37)
          (some false)
          (cond (decide (200 < (len r_2.2.2.1)))
           (some false)
           ((f12 N a0 r_2.2.1).bind fun r_38=>
           (f9 N a0).bind fun r_39=>
           (f13 N r_38.1 r_39).bind fun r_40=>
           (cond r_40
             (some (decide (r_38.2=r_2.1)))
             (some false)).bind fun b_11=>
           (cond b_11
             ((f14 N a0 r_2.2.2.1 r_2.1).bind fun r_41=>
             some (decide (r_41=0)))
             (some false)).bind fun b_12=>
           some b_12)))],
       z17 [(f9 N a0).bind fun r_42=>
        (f10 N a0).bind fun r_43=>
        (f8 N a0 r_43 r_42 ([]:List Yh)).bind fun r_44=>
        cond (!(decide (r_2.1=r_44.1.2.2.1)))
         (some false)
         ((f11 N a0 r_2.2.1).bind fun r_45=>
         cond (!r_45)
          (some false)
          (cond (decide (200 < (len r_2.2.2.1)))
           (some false)
           ((f12 N a0 r_2.2.1).bind fun r_46=>
           (f9 N a0).bind fun r_47=>
           (f13 N r_46.1 r_47).bind fun r_48=>
           (cond r_48
             (some (decide (r_46.2=r_2.1)))
             (some false)).bind fun b_13=>
           (cond b_13
             ((f14 N a0 r_2.2.2.1 r_2.1).bind fun r_49=>
             some (decide (r_49=0)))
             (some false)).bind fun b_14=>
           some b_14))),
        (f9 N a0).bind fun r_50=>
        (f10 N a0).bind fun r_51=>
        (f8 N a0 r_51 r_50 ([]:List Yh)).bind fun r_52=>
        cond (!(decide (r_2.1=r_52.1.2.2.1)))
         (some false)
         ((f11 N a0 r_2.2.1).bind fun r_53=>
         cond (!r_53)
          (some false)
          (cond (decide (200 < (len r_2.2.2.1)))
           (some false)
           ((f12 N a0 r_2.2.1).bind fun r_54=>
           (f9 N a0).bind fun r_55=>
           (f13 N r_54.1 r_55).bind fun r_56=>
           (cond r_56
             (some (decide (r_54.2=r_2.1)))
             (some false)).bind fun b_15=>
           (cond b_15
             ((f14 N a0 r_2.2.2.1 r_2.1).bind fun r_57=>
             some (decide (r_57=0)))
             (some false)).bind fun b_16=>
           some b_16)))]],
      (f9 N a0).bind fun r_58=>
      z17 [z17 [(f10 N a0).bind fun r_59=>
        (f8 N a0 r_59 r_58 ([]:List Yh)).bind fun r_60=>
        cond (!(decide (r_2.1=r_60.1.2.2.1)))
         (some false)
         ((f11 N a0 r_2.2.1).bind fun r_61=>
         cond (!r_61)
          (some false)
          (cond (decide (200 < (len r_2.2.2.1)))
           (some false)
           ((f12 N a0 r_2.2.1).bind fun r_62=>
           (f9 N a0).bind fun r_63=>
           (f13 N r_62.1 r_63).bind fun r_64=>
           (cond r_64
             (some (decide (r_62.2=r_2.1)))
             (some false)).bind fun b_17=>
           (cond b_17
             ((f14 N a0 r_2.2.2.1 r_2.1).bind fun r_65=>
             some (decide (r_65=0)))
             (some false)).bind fun b_18=>
           some b_18))),
        (f10 N a0).bind fun r_66=>
        (f8 N a0 r_66 r_58 ([]:List Yh)).bind fun r_67=>
        cond (!(decide (r_2.1=r_67.1.2.2.1)))
         (some false)
         ((f11 N a0 r_2.2.1).bind fun r_68=>
         cond (!r_68)
          (some false)
          (cond (decide (200 < (len r_2.2.2.1)))
           (some false)
           ((f12 N a0 r_2.2.1).bind fun r_69=>
           (f9 N a0).bind fun r_70=>
           (f13 N r_69.1 r_70).bind fun r_71=>
           (cond r_71
             (some (decide (r_69.2=r_2.1)))
             (some false)).bind fun b_19=>
           (cond b_19
             ((f14 N a0 r_2.2.2.1 r_2.1).bind fun r_72=>
             some (decide (r_72=0)))
             (some false)).bind fun b_20=>
           some b_20)))],
       (f10 N a0).bind fun r_73=>
       (f8 N a0 r_73 r_58 ([]:List Yh)).bind fun r_74=>
       cond (!(decide (r_2.1=r_74.1.2.2.1)))
        (some false)
        ((f11 N a0 r_2.2.1).bind fun r_75=>
        cond (!r_75)
         (some false)
         (cond (decide (200 < (len r_2.2.2.1)))
          (some false)
          ((f12 N a0 r_2.2.1).bind fun r_76=>
          (f9 N a0).bind fun r_77=>
          (f13 N r_76.1 r_77).bind fun r_78=>
          (cond r_78
            (some (decide (r_76.2=r_2.1)))
            (some false)).bind fun b_21=>
          (cond b_21
            ((f14 N a0 r_2.2.2.1 r_2.1).bind fun r_79=>
            some (decide (r_79=0)))
            (some false)).bind fun b_22=>
          some b_22))),
       z17 [(f10 N a0).bind fun r_80=>
        (f8 N a0 r_80 r_58 ([]:List Yh)).bind fun r_81=>
        cond (!(decide (r_2.1=r_81.1.2.2.1)))
         (some false)
         ((f11 N a0 r_2.2.1).bind fun r_82=>
         cond (!r_82)
          (some false)
          (cond (decide (200 < (len r_2.2.2.1)))
           (some false)
           ((f12 N a0 r_2.2.1).bind fun r_83=>
           (f9 N a0).bind fun r_84=>
           (f13 N r_83.1 r_84).bind fun r_85=>
           (cond r_85
             (some (decide (r_83.2=r_2.1)))
             (some false)).bind fun b_23=>
           (cond b_23
             ((f14 N a0 r_2.2.2.1 r_2.1).bind fun r_86=>
             some (decide (r_86=0)))
             (some false)).bind fun b_24=>
           some b_24))),
        (f10 N a0).bind fun r_87=>
        (f8 N a0 r_87 r_58 ([]:List Yh)).bind fun r_88=>
        cond (!(decide (r_2.1=r_88.1.2.2.1)))
         (some false)
         ((f11 N a0 r_2.2.1).bind fun r_89=>
         cond (!r_89)
          (some false)
          (cond (decide (200 < (len r_2.2.2.1)))
           (some false)
           ((f12 N a0 r_2.2.1).bind fun r_90=>
           (f9 N a0).bind fun r_91=>
           (f13 N r_90.1 r_91).bind fun r_92=>
           (cond r_92
             (some (decide (r_90.2=r_2.1)))
             (some false)).bind fun b_25=>
           (cond b_25
             ((f14 N a0 r_2.2.2.1 r_2.1).bind fun r_93=>
             some (decide (r_93=0)))
             (some false)).bind fun b_26=>
           some b_26)))]],
      z17 [z17 [(f9 N a0).bind fun r_94=>
        z17 [(f10 N a0).bind fun r_95=>
         (f8 N a0 r_95 r_94 ([]:List Yh)).bind fun r_96=>
         cond (!(decide (r_2.1=r_96.1.2.2.1)))
          (some false)
          ((f11 N a0 r_2.2.1).bind fun r_97=>
          cond (!r_97)
           (some false)
           (cond (decide (200 < (len r_2.2.2.1)))
            (some false)
            ((f12 N a0 r_2.2.1).bind fun r_98=>
            (f9 N a0).bind fun r_99=>
            (f13 N r_98.1 r_99).bind fun r_100=>
            (cond r_100
              (some (decide (r_98.2=r_2.1)))
              (some false)).bind fun b_27=>
            (cond b_27
              ((f14 N a0 r_2.2.2.1 r_2.1).bind fun r_101=>
              some (decide (r_101=0)))
              (some false)).bind fun b_28=>
            some b_28))),
         (f10 N a0).bind fun r_102=>
         (f8 N a0 r_102 r_94 ([]:List Yh)).bind fun r_103=>
         cond (!(decide (r_2.1=r_103.1.2.2.1)))
          (some false)
          ((f11 N a0 r_2.2.1).bind fun r_104=>
          cond (!r_104)
           (some false)
           (cond (decide (200 < (len r_2.2.2.1)))
            (some false)
            ((f12 N a0 r_2.2.1).bind fun r_105=>
            (f9 N a0).bind fun r_106=>
            (f13 N r_105.1 r_106).bind fun r_107=>
            (cond r_107
              (some (decide (r_105.2=r_2.1)))
              (some false)).bind fun b_29=>
            (cond b_29
              ((f14 N a0 r_2.2.2.1 r_2.1).bind fun r_108=>
              some (decide (r_108=0)))
              (some false)).bind fun b_30=>
            some b_30)))],
        (f9 N a0).bind fun r_109=>
        (f10 N a0).bind fun r_110=>
        (f8 N a0 r_110 r_109 ([]:List Yh)).bind fun r_111=>
        cond (!(decide (r_2.1=r_111.1.2.2.1)))
         (some false)
         ((f11 N a0 r_2.2.1).bind fun r_112=>
         cond (!r_112)
          (some false)
          (cond (decide (200 < (len r_2.2.2.1)))
           (some false)
           ((f12 N a0 r_2.2.1).bind fun r_113=>
           (f9 N a0).bind fun r_114=>
           (f13 N r_113.1 r_114).bind fun r_115=>
           (cond r_115
             (some (decide (r_113.2=r_2.1)))
             (some false)).bind fun b_31=>
           (cond b_31
             ((f14 N a0 r_2.2.2.1 r_2.1).bind fun r_116=>
             some (decide (r_116=0)))
             (some false)).bind fun b_32=>
           some b_32)))],
       (f9 N a0).bind fun r_117=>
       z17 [z17 [(f10 N a0).bind fun r_118=>
         (f8 N a0 r_118 r_117 ([]:List Yh)).bind fun r_119=>
         cond (!(decide (r_2.1=r_119.1.2.2.1)))
          (some false)
          ((f11 N a0 r_2.2.1).bind fun r_120=>
          cond (!r_120)
           (some false)
           (cond (decide (200 < (len r_2.2.2.1)))
            (some false)
            ((f12 N a0 r_2.2.1).bind fun r_121=>
            (f9 N a0).bind fun r_122=>
            (f13 N r_121.1 r_122).bind fun r_123=>
            (cond r_123
              (some (decide (r_121.2=r_2.1)))
              (some false)).bind fun b_33=>
            (cond b_33
              ((f14 N a0 r_2.2.2.1 r_2.1).bind fun r_124=>
              some (decide (r_124=0)))
              (some false)).bind fun b_34=>
            some b_34))),
         (f10 N a0).bind fun r_125=>
         (f8 N a0 r_125 r_117 ([]:List Yh)).bind fun r_126=>
         cond (!(decide (r_2.1=r_126.1.2.2.1)))
          (some false)
          ((f11 N a0 r_2.2.1).bind fun r_127=>
          cond (!r_127)
           (some false)
           (cond (decide (200 < (len r_2.2.2.1)))
            (some false)
            ((f12 N a0 r_2.2.1).bind fun r_128=>
            (f9 N a0).bind fun r_129=>
            (f13 N r_128.1 r_129).bind fun r_130=>
            (cond r_130
              (some (decide (r_128.2=r_2.1)))
              (some false)).bind fun b_35=>
            (cond b_35
              ((f14 N a0 r_2.2.2.1 r_2.1).bind fun r_131=>
              some (decide (r_131=0)))
              (some false)).bind fun b_36=>
            some b_36)))],
        (f10 N a0).bind fun r_132=>
        (f8 N a0 r_132 r_117 ([]:List Yh)).bind fun r_133=>
        cond (!(decide (r_2.1=r_133.1.2.2.1)))
         (some false)
         ((f11 N a0 r_2.2.1).bind fun r_134=>
         cond (!r_134)
          (some false)
          (cond (decide (200 < (len r_2.2.2.1)))
           (some false)
           ((f12 N a0 r_2.2.1).bind fun r_135=>
           (f9 N a0).bind fun r_136=>
           (f13 N r_135.1 r_136).bind fun r_137=>
           (cond r_137
             (some (decide (r_135.2=r_2.1)))
             (some false)).bind fun b_37=>
           (cond b_37
             ((f14 N a0 r_2.2.2.1 r_2.1).bind fun r_138=>
             some (decide (r_138=0)))
             (some false)).bind fun b_38=>
           some b_38))),
        z17 [(f10 N a0).bind fun r_139=>
         (f8 N a0 r_139 r_117 ([]:List Yh)).bind fun r_140=>
         cond (!(decide (r_2.1=r_140.1.2.2.1)))
          (some false)
          ((f11 N a0 r_2.2.1).bind fun r_141=>
          cond (!r_141)
           (some false)
           (cond (decide (200 < (len r_2.2.2.1)))
            (some false)
            ((f12 N a0 r_2.2.1).bind fun r_142=>
            (f9 N a0).bind fun r_143=>
            (f13 N r_142.1 r_143).bind fun r_144=>
            (cond r_144
              (some (decide (r_142.2=r_2.1)))
              (some false)).bind fun b_39=>
            (cond b_39
              ((f14 N a0 r_2.2.2.1 r_2.1).bind fun r_145=>
              some (decide (r_145=0)))
              (some false)).bind fun b_40=>
            some b_40))),
         (f10 N a0).bind fun r_146=>
         (f8 N a0 r_146 r_117 ([]:List Yh)).bind fun r_147=>
         cond (!(decide (r_2.1=r_147.1.2.2.1)))
          (some false)
          ((f11 N a0 r_2.2.1).bind fun r_148=>
          cond (!r_148)
           (some false)
           (cond (decide (200 < (len r_2.2.2.1)))
            (some false)
            ((f12 N a0 r_2.2.1).bind fun r_149=>
            (f9 N a0).bind fun r_150=>
            (f13 N r_149.1 r_150).bind fun r_151=>
            (cond r_151
              (some (decide (r_149.2=r_2.1)))
              (some false)).bind fun b_41=>
            (cond b_41
              ((f14 N a0 r_2.2.2.1 r_2.1).bind fun r_152=>
              some (decide (r_152=0)))
              (some false)).bind fun b_42=>
            some b_42)))]],
       z17 [(f9 N a0).bind fun r_153=>
        (f10 N a0).bind fun r_154=>
        (f8 N a0 r_154 r_153 ([]:List Yh)).bind fun r_155=>
        cond (!(decide (r_2.1=r_155.1.2.2.1)))
         (some false)
         ((f11 N a0 r_2.2.1).bind fun r_156=>
         cond (!r_156)
          (some false)
          (cond (decide (200 < (len r_2.2.2.1)))
           (some false)
           ((f12 N a0 r_2.2.1).bind fun r_157=>
           (f9 N a0).bind fun r_158=>
           (f13 N r_157.1 r_158).bind fun r_159=>
           (cond r_159
             (some (decide (r_157.2=r_2.1)))
             (some false)).bind fun b_43=>
           (cond b_43
             ((f14 N a0 r_2.2.2.1 r_2.1).bind fun r_160=>
             some (decide (r_160=0)))
             (some false)).bind fun b_44=>
           some b_44))),
        (f9 N a0).bind fun r_161=>
        z17 [(f10 N a0).bind fun r_162=>
         (f8 N a0 r_162 r_161 ([]:List Yh)).bind fun r_163=>
         cond (!(decide (r_2.1=r_163.1.2.2.1)))
          (some false)
          ((f11 N a0 r_2.2.1).bind fun r_164=>
          cond (!r_164)
           (some false)
           (cond (decide (200 < (len r_2.2.2.1)))
            (some false)
            ((f12 N a0 r_2.2.1).bind fun r_165=>
            (f9 N a0).bind fun r_166=>
            (f13 N r_165.1 r_166).bind fun r_167=>
            (cond r_167
              (some (decide (r_165.2=r_2.1)))
              (some false)).bind fun b_45=>
            (cond b_45
              ((f14 N a0 r_2.2.2.1 r_2.1).bind fun r_168=>
              some (decide (r_168=0)))
              (some false)).bind fun b_46=>
            some b_46))),
         (f10 N a0).bind fun r_169=>
         (f8 N a0 r_169 r_161 ([]:List Yh)).bind fun r_170=>
         cond (!(decide (r_2.1=r_170.1.2.2.1)))
          (some false)
          ((f11 N a0 r_2.2.1).bind fun r_171=>
          cond (!r_171)
           (some false)
           (cond (decide (200 < (len r_2.2.2.1)))
            (some false)
            ((f12 N a0 r_2.2.1).bind fun r_172=>
            (f9 N a0).bind fun r_173=>
            (f13 N r_172.1 r_173).bind fun r_174=>
            (cond r_174
              (some (decide (r_172.2=r_2.1)))
              (some false)).bind fun b_47=>
            (cond b_47
              ((f14 N a0 r_2.2.2.1 r_2.1).bind fun r_175=>
              some (decide (r_175=0)))
              (some false)).bind fun b_48=>
            some b_48)))]]],
      z17 [z17 [(f9 N a0).bind fun r_176=>
        (f10 N a0).bind fun r_177=>
        (f8 N a0 r_177 r_176 ([]:List Yh)).bind fun r_178=>
        cond (!(decide (r_2.1=r_178.1.2.2.1)))
         (some false)
         ((f11 N a0 r_2.2.1).bind fun r_179=>
         cond (!r_179)
          (some false)
          (cond (decide (200 < (len r_2.2.2.1)))
           (some false)
           ((f12 N a0 r_2.2.1).bind fun r_180=>
           (f9 N a0).bind fun r_181=>
           (f13 N r_180.1 r_181).bind fun r_182=>
           (cond r_182
             (some (decide (r_180.2=r_2.1)))
             (some false)).bind fun b_49=>
           (cond b_49
             ((f14 N a0 r_2.2.2.1 r_2.1).bind fun r_183=>
             some (decide (r_183=0)))
             (some false)).bind fun b_50=>
           some b_50))),
        (f9 N a0).bind fun r_184=>
        (f10 N a0).bind fun r_185=>
        (f8 N a0 r_185 r_184 ([]:List Yh)).bind fun r_186=>
        cond (!(decide (r_2.1=r_186.1.2.2.1)))
         (some false)
         ((f11 N a0 r_2.2.1).bind fun r_187=>
         cond (!r_187)
          (some false)
          (cond (decide (200 < (len r_2.2.2.1)))
           (some false)
           ((f12 N a0 r_2.2.1).bind fun r_188=>
           (f9 N a0).bind fun r_189=>
           (f13 N r_188.1 r_189).bind fun r_190=>
           (cond r_190
             (some (decide (r_188.2=r_2.1)))
             (some false)).bind fun b_51=>
           (cond b_51
             ((f14 N a0 r_2.2.2.1 r_2.1).bind fun r_191=>
             some (decide (r_191=0)))
             (some false)).bind fun b_52=>
           some b_52)))],
       (f9 N a0).bind fun r_192=>
       z17 [(f10 N a0).bind fun r_193=>
        (f8 N a0 r_193 r_192 ([]:List Yh)).bind fun r_194=>
        cond (!(decide (r_2.1=r_194.1.2.2.1)))
         (some false)
         ((f11 N a0 r_2.2.1).bind fun r_195=>
         cond (!r_195)
          (some false)
          (cond (decide (200 < (len r_2.2.2.1)))
           (some false)
           ((f12 N a0 r_2.2.1).bind fun r_196=>
           (f9 N a0).bind fun r_197=>
           (f13 N r_196.1 r_197).bind fun r_198=>
           (cond r_198
             (some (decide (r_196.2=r_2.1)))
             (some false)).bind fun b_53=>
           (cond b_53
             ((f14 N a0 r_2.2.2.1 r_2.1).bind fun r_199=>
             some (decide (r_199=0)))
             (some false)).bind fun b_54=>
           some b_54))),
        (f10 N a0).bind fun r_200=>
        (f8 N a0 r_200 r_192 ([]:List Yh)).bind fun r_201=>
        cond (!(decide (r_2.1=r_201.1.2.2.1)))
         (some false)
         ((f11 N a0 r_2.2.1).bind fun r_202=>
         cond (!r_202)
          (some false)
          (cond (decide (200 < (len r_2.2.2.1)))
           (some false)
           ((f12 N a0 r_2.2.1).bind fun r_203=>
           (f9 N a0).bind fun r_204=>
           (f13 N r_203.1 r_204).bind fun r_205=>
           (cond r_205
             (some (decide (r_203.2=r_2.1)))
             (some false)).bind fun b_55=>
           (cond b_55
             ((f14 N a0 r_2.2.2.1 r_2.1).bind fun r_206=>
             some (decide (r_206=0)))
             (some false)).bind fun b_56=>
           some b_56)))],
       z17 [(f9 N a0).bind fun r_207=>
        (f10 N a0).bind fun r_208=>
        (f8 N a0 r_208 r_207 ([]:List Yh)).bind fun r_209=>
        cond (!(decide (r_2.1=r_209.1.2.2.1)))
         (some false)
         ((f11 N a0 r_2.2.1).bind fun r_210=>
         cond (!r_210)
          (some false)
          (cond (decide (200 < (len r_2.2.2.1)))
           (some false)
           ((f12 N a0 r_2.2.1).bind fun r_211=>
           (f9 N a0).bind fun r_212=>
           (f13 N r_211.1 r_212).bind fun r_213=>
           (cond r_213
             (some (decide (r_211.2=r_2.1)))
             (some false)).bind fun b_57=>
           (cond b_57
             ((f14 N a0 r_2.2.2.1 r_2.1).bind fun r_214=>
             some (decide (r_214=0)))
             (some false)).bind fun b_58=>
           some b_58))),
        (f9 N a0).bind fun r_215=>
        z17 [(f10 N a0).bind fun r_216=>
         (f8 N a0 r_216 r_215 ([]:List Yh)).bind fun r_217=>
         cond (!(decide (r_2.1=r_217.1.2.2.1)))
          (some false)
          ((f11 N a0 r_2.2.1).bind fun r_218=>
          cond (!r_218)
           (some false)
           (cond (decide (200 < (len r_2.2.2.1)))
            (some false)
            ((f12 N a0 r_2.2.1).bind fun r_219=>
            (f9 N a0).bind fun r_220=>
            (f13 N r_219.1 r_220).bind fun r_221=>
            (cond r_221
              (some (decide (r_219.2=r_2.1)))
              (some false)).bind fun b_59=>
            (cond b_59
              ((f14 N a0 r_2.2.2.1 r_2.1).bind fun r_222=>
              some (decide (r_222=0)))
              (some false)).bind fun b_60=>
            some b_60))),
         (f10 N a0).bind fun r_223=>
         (f8 N a0 r_223 r_215 ([]:List Yh)).bind fun r_224=>
         cond (!(decide (r_2.1=r_224.1.2.2.1)))
          (some false)
          ((f11 N a0 r_2.2.1).bind fun r_225=>
          cond (!r_225)
           (some false)
           (cond (decide (200 < (len r_2.2.2.1)))
            (some false)
            ((f12 N a0 r_2.2.1).bind fun r_226=>
            (f9 N a0).bind fun r_227=>
            (f13 N r_226.1 r_227).bind fun r_228=>
            (cond r_228
              (some (decide (r_226.2=r_2.1)))
              (some false)).bind fun b_61=>
            (cond b_61
              ((f14 N a0 r_2.2.2.1 r_2.1).bind fun r_229=>
              some (decide (r_229=0)))
              (some false)).bind fun b_62=>
            some b_62)))]]]]))))
def c3 (N:Nat):Callee:=.pure (.pr (.val .yf) .un) [.bool] fun d=>f3 N d.1
def lp3 (N:Nat):Nat->Option z0h:=fun r=>none
def x3 (N:Nat):Ctx:=(mkX N 86 [(4,[c4 N]),(5,[c5 N]),(6,[c6 N]),(7,[c7 N]),(9,[c9 N]),(10,[c10 N]),(8,[c8 N]),(11,[c11 N]),(12,[c12 N]),(13,[c13 N]),(14,[c14 N])] [] [] ⟨[2],[]⟩ (fun _=>none) (lp3 N))
noncomputable def b3:Code:=((Go.Proofs.Tryz.f3).body).getD .skip
theorem e3 (N:Nat) (a0:Yd):z1g (x3 N) [.bool] [.tmp 2] b3 (entry (.pr (.val .yf) .un) (a0,()))=f3 N a0:=by kernel_rfl
theorem k3 (N:Nat):z04 Go.Proofs.Tryz.prog 3 (c3 N):=
 z1h (fn:=Go.Proofs.Tryz.f3) (body:=b3) (c:=x3 N) Go.Proofs.Tryz.func3 (by kernel_rfl) (by kernel_rfl) ⟨ttL_ok,z0k,z0m,z0n,z0l,z02 (z01 (k4 N)) (z02 (z01 (k5 N)) (z02 (z01 (k6 N)) (z02 (z01 (k7 N)) (z02 (z01 (k9 N)) (z02 (z01 (k10 N)) (z02 (z01 (k8 N)) (z02 (z01 (k11 N)) (z02 (z01 (k12 N)) (z02 (z01 (k13 N)) (z02 (z01 (k14 N)) (z09)))))))))))⟩ mixed (by kernel_rfl) (zL (by kernel_rfl)) (by kernel_rfl) (by decide)
  (z06 (by kernel_rfl:z00 b3=[]) .nil) fun d=>e3 N d.1
end
end Go.Kz
