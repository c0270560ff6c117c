/-
  The functions of the program as plain functions on lists and numbers, and the proofs that the program computes them. Printed by a program.
-/
import Derived.Test.YtnjfafnflbackaaKzP43c
set_option linter.unusedSimpArgs false
set_option maxRecDepth 100000
set_option linter.unusedVariables false
namespace Go.Kz
open Go.Proofs
noncomputable section
def zjv {R:Type} (N:Nat) (t1_1:List Yk) (t5:Int) (t44:List Int) (t12_1:List Yk) (t13_1:Int) (t14_1:Int) (t45:Int) (o0_1:Ye) (kb:Int->Option R) (kret:Bool->Option R) (kx2:Unit->Option R):Int->Option R:=
 fun t46=>
  cond (decide (t46 < t45))
   ((idx t44 t46).bind fun x_2=>
   (cond (!(decide (x_2=(-1))))
     ((cond (decide (x_2≤t5))
       (some true)
       (some (decide ((len t1_1)≤x_2)))).bind fun b_2=>
     some b_2)
     (some false)).bind fun b_3=>
   cond b_3
    (kret false)
    (kb (z0i (t46+1))))
   (kx2 ())
def zjw {R:Type} (N:Nat) (t1:List Yk) (t12:List Yk) (t13:Int) (o0:Ye) (kb:Int->Option R) (kret:Bool->Option R) (kx0:Unit->Option R):Int->Option R:=
 fun t14=>
  cond (decide (t14 < t13))
   ((idx t12 t14).bind fun x=>
   (cond (decide (x.1 < 0))
     (some true)
     (some (decide ((len o0.2.1)≤x.1)))).bind fun b=>
   (cond b
     (some true)
     ((idx o0.2.1 x.1).bind fun x_1=>
     (f44 N x_1).bind fun r=>
     some (!(decide ((len x.2.1)=r))))).bind fun b_1=>
   cond b_1
    (kret false)
    (iter (fun w=>zjv N t1 t14 x.2.1 t12 t13 t14 (len x.2.1) o0 w
     (fun t4=>
      kret t4)
     (fun (_:Unit)=>
      kb (z0i (t14+1)))) N 0))
   (kx0 ())
def f16 (N:Nat) (a0:Ye) (a1:List Yk):Option (Bool):=
 cond (decide (256 < (len a1)))
  (some false)
  (iter (fun w=>zjw N a1 a1 (len a1) a0 w
   (fun t4_1=>
    some t4_1)
   (fun (_:Unit)=>
    some true)) N 0)
def c16 (N:Nat):Callee:=.pure (.pr (.val .yg) (.pr (.val .yk) .un)) [.bool] fun d=>f16 N d.1 d.2.1
def F16_9:SForm:=⟨[(46,(.val .ya)),(1,(.val .yk)),(5,(.val .ya)),(44,(.val .yb)),(2,(.bptr 0 [])),(12,(.val .yk)),(13,(.val .ya)),(14,(.val .ya)),(45,(.val .ya))],[.cell (.val .yg)]⟩
def G16_9 (N:Nat):(R:Type)->F16_9.den->(AExit->St->Option R)->Option R:=fun R d k=>iter (fun kb=>zjv N d.1.2.1 d.1.2.2.1 d.1.2.2.2.1 d.1.2.2.2.2.2.1 d.1.2.2.2.2.2.2.1 d.1.2.2.2.2.2.2.2.1 d.1.2.2.2.2.2.2.2.2.1 d.2.1 kb
  (fun y0=>k .ret (St.of [(4,(.data .bool y0))] []))
  (fun _=>k (.exit 2) (St.of [(1,(.data .yk d.1.2.1)),(2,(.bptr 0 [])),(12,(.data .yk d.1.2.2.2.2.2.1)),(13,(.data .ya d.1.2.2.2.2.2.2.1)),(14,(.data .ya d.1.2.2.2.2.2.2.2.1))] [.cell (.data .yg d.2.1)]))) N d.1.1
def F16_4:SForm:=⟨[(1,(.val .yk)),(14,(.val .ya)),(2,(.bptr 0 [])),(12,(.val .yk)),(13,(.val .ya))],[.cell (.val .yg)]⟩
def G16_4 (N:Nat):(R:Type)->F16_4.den->(AExit->St->Option R)->Option R:=fun R d k=>iter (fun kb=>zjw N d.1.1 d.1.2.2.2.1 d.1.2.2.2.2.1 d.2.1 kb
  (fun y0=>k .ret (St.of [(4,(.data .bool y0))] []))
  (fun _=>k (.exit 0) (St.of [] []))) N d.1.2.1
def lp16 (N:Nat):Nat->Option z0o:=fun r=>cond (Nat.beq r 9) (some fun R sl os k=>F16_9.take sl os fun d=>G16_9 N R d k) (cond (Nat.beq r 4) (some fun R sl os k=>F16_4.take sl os fun d=>G16_4 N R d k) (none))
def x16 (N:Nat):Ctx:=(mkX N 65 [(44,[c44 N])] [(4,⟨[1,14,2,12,13],[]⟩),(9,⟨[46,1,5,44,2,12,13,14,45],[]⟩)] [(4,[(0,⟨[],[]⟩)]),(9,[(2,⟨[1,2,12,13,14],[]⟩)])] ⟨[4],[]⟩ (fun _=>none) (lp16 N))
noncomputable def b16:Code:=((Go.Proofs.Try.f16).body).getD .skip
theorem s16_9 (N:Nat) {R:Type} (k:AExit->St->Option R) (t1_1:List Yk) (t5:Int) (t44:List Int) (t12_1:List Yk) (t13_1:Int) (t14_1:Int) (t45:Int) (o0_1:Ye) (kb:List Yl->List Obj->Option R) (x:Int):z0w (x16 N) (z02 9 (z00 b16)) (St.of [(46,(.data .ya x)),(1,(.data .yk t1_1)),(5,(.data .ya t5)),(44,(.data .yb t44)),(2,(.bptr 0 [])),(12,(.data .yk t12_1)),(13,(.data .ya t13_1)),(14,(.data .ya t14_1)),(45,(.data .ya t45))] [.cell (.data .yg o0_1)]) (z1m (x16 N) 9 ⟨[46,1,5,44,2,12,13,14,45],[]⟩ kb k)=zjv N t1_1 t5 t44 t12_1 t13_1 t14_1 t45 o0_1 (fun y=>kb [(46,(.data .ya y)),(1,(.data .yk t1_1)),(5,(.data .ya t5)),(44,(.data .yb t44)),(2,(.bptr 0 [])),(12,(.data .yk t12_1)),(13,(.data .ya t13_1)),(14,(.data .ya t14_1)),(45,(.data .ya t45))] [.cell (.data .yg o0_1)])
  (fun y0=>k .ret (St.of [(4,(.data .bool y0))] []))
  (fun _=>k (.exit 2) (St.of [(1,(.data .yk t1_1)),(2,(.bptr 0 [])),(12,(.data .yk t12_1)),(13,(.data .ya t13_1)),(14,(.data .ya t14_1))] [.cell (.data .yg o0_1)])) x:=by kernel_rfl
theorem l16_9 (N:Nat):z0n (x16 N) (z02 9 (z00 b16)):=
 z0h (G16_9 N) (by kernel_rfl) (by kernel_rfl) (by kernel_rfl) fun R k d=>
  z0g (st:=fun (x:Int)=>([(46,(.data .ya x)),(1,(.data .yk d.1.2.1)),(5,(.data .ya d.1.2.2.1)),(44,(.data .yb d.1.2.2.2.1)),(2,(.bptr 0 [])),(12,(.data .yk d.1.2.2.2.2.2.1)),(13,(.data .ya d.1.2.2.2.2.2.2.1)),(14,(.data .ya d.1.2.2.2.2.2.2.2.1)),(45,(.data .ya d.1.2.2.2.2.2.2.2.2.1))],[.cell (.data .yg d.2.1)])) (s16_9 N k d.1.2.1 d.1.2.2.1 d.1.2.2.2.1 d.1.2.2.2.2.2.1 d.1.2.2.2.2.2.2.1 d.1.2.2.2.2.2.2.2.1 d.1.2.2.2.2.2.2.2.2.1 d.2.1) N d.1.1
theorem s16_4 (N:Nat) {R:Type} (k:AExit->St->Option R) (t1:List Yk) (t12:List Yk) (t13:Int) (o0:Ye) (kb:List Yl->List Obj->Option R) (x:Int):z0w (x16 N) (z02 4 (z00 b16)) (St.of [(1,(.data .yk t1)),(14,(.data .ya x)),(2,(.bptr 0 [])),(12,(.data .yk t12)),(13,(.data .ya t13))] [.cell (.data .yg o0)]) (z1m (x16 N) 4 ⟨[1,14,2,12,13],[]⟩ kb k)=zjw N t1 t12 t13 o0 (fun y=>kb [(1,(.data .yk t1)),(14,(.data .ya y)),(2,(.bptr 0 [])),(12,(.data .yk t12)),(13,(.data .ya t13))] [.cell (.data .yg o0)])
  (fun y0=>k .ret (St.of [(4,(.data .bool y0))] []))
  (fun _=>k (.exit 0) (St.of [] [])) x:=by kernel_rfl
theorem l16_4 (N:Nat):z0n (x16 N) (z02 4 (z00 b16)):=
 z0h (G16_4 N) (by kernel_rfl) (by kernel_rfl) (by kernel_rfl) fun R k d=>
  z0g (st:=fun (x:Int)=>([(1,(.data .yk d.1.1)),(14,(.data .ya x)),(2,(.bptr 0 [])),(12,(.data .yk d.1.2.2.2.1)),(13,(.data .ya d.1.2.2.2.2.1))],[.cell (.data .yg d.2.1)])) (s16_4 N k d.1.1 d.1.2.2.2.1 d.1.2.2.2.2.1 d.2.1) N d.1.2.1
theorem e16 (N:Nat) (a0:Ye) (a1:List Yk):z24 (x16 N) [.bool] [.tmp 4] b16 (entry (.pr (.val .yg) (.pr (.val .yk) .un)) (a0,(a1,())))=f16 N a0 a1:=by kernel_rfl
theorem k16 (N:Nat):z04 Go.Proofs.Try.prog 16 (c16 N):=
 z29 (fn:=Go.Proofs.Try.f16) (body:=b16) (c:=x16 N) Go.Proofs.Try.func16 (by kernel_rfl) (by kernel_rfl) ⟨ttL_ok,z0p,z0r,z0s,z0q,z03 (z01 (k44 N)) (z0e)⟩ mixed (by kernel_rfl) (zL (by kernel_rfl)) (by kernel_rfl) (by decide)
  (z0a (by kernel_rfl:z00 b16=[z02 4 (z00 b16),z02 9 (z00 b16)]) (.cons (l16_4 N) (.cons (l16_9 N) .nil))) fun d=>e16 N d.1 d.2.1
def zjs {R:Type} (N:Nat) (t2:Int) (t1:List Yk) (o1:Ye) (kb:Int×Yao->Option R) (kx0:Yao->Option R):Int×Yao->Option R:=
 fun (t8,o0)=>
  cond (!(decide (t8=(-1))))
   ((idx t1 t8).bind fun x=>
   (idx o1.2.1 x.1).bind fun x_1=>
   (idx x_1 t2).bind fun x_2=>
   chk (decide ((Nat.succ (List.length o0))≤z38)) <|
   (idx x.2.1 x_2).bind fun x_3=>
   kb (x_3,(o0++((x.1,(x_2,())) :: ([]:List Yd)))))
   (kx0 o0)
def f45 (N:Nat) (a0:Ye) (a1:List Yk) (a2:Int):Option Yao:=
 cond (decide ((len a1)=0))
  (iter (fun w=>zjs N a2 a1 a0 w
   (fun o0_1=>
    some o0_1)) N ((-1),([]:List Yd)))
  (iter (fun w=>zjs N a2 a1 a0 w
   (fun o0_2=>
    some o0_2)) N (0,([]:List Yd)))
def c45 (N:Nat):Callee:=.pure (.pr (.val .yg) (.pr (.val .yk) (.pr (.val .ya) .un))) [.yn] fun d=>f45 N d.1 d.2.1 d.2.2.1
def F45_5:SForm:=⟨[(7,(.ref 0)),(2,(.val .ya)),(3,(.bptr 1 [])),(8,(.val .ya)),(1,(.val .yk))],[.row .ye,.cell (.val .yg)]⟩
def G45_5 (N:Nat):(R:Type)->F45_5.den->(AExit->St->Option R)->Option R:=fun R d k=>iter (fun kb=>zjs N d.1.2.1 d.1.2.2.2.2.1 d.2.2.1 kb
  (fun y0=>k (.exit 0) (St.of [(7,(.ref 0 [] 0))] [.row .ye y0 0]))) N (d.1.2.2.2.1,d.2.1)
def lp45 (N:Nat):Nat->Option z0o:=fun r=>cond (Nat.beq r 5) (some fun R sl os k=>F45_5.take sl os fun d=>G45_5 N R d k) (none)
def x45 (N:Nat):Ctx:=(mkX N 43 [] [(5,⟨[7,2,3,8,1],[]⟩)] [(5,[(0,⟨[7],[]⟩)])] ⟨[6],[]⟩ (fun _=>none) (lp45 N))
noncomputable def b45:Code:=((Go.Proofs.Try.f45).body).getD .skip
theorem s45_5 (N:Nat) {R:Type} (k:AExit->St->Option R) (t2:Int) (t1:List Yk) (o1:Ye) (kb:List Yl->List Obj->Option R) (x:Int×Yao):z0w (x45 N) (z02 5 (z00 b45)) (St.of [(7,(.ref 0 [] 0)),(2,(.data .ya t2)),(3,(.bptr 1 [])),(8,(.data .ya x.1)),(1,(.data .yk t1))] [.row .ye x.2 0,.cell (.data .yg o1)]) (z1m (x45 N) 5 ⟨[7,2,3,8,1],[]⟩ kb k)=zjs N t2 t1 o1 (fun y=>kb [(7,(.ref 0 [] 0)),(2,(.data .ya t2)),(3,(.bptr 1 [])),(8,(.data .ya y.1)),(1,(.data .yk t1))] [.row .ye y.2 0,.cell (.data .yg o1)])
  (fun y0=>k (.exit 0) (St.of [(7,(.ref 0 [] 0))] [.row .ye y0 0])) x:=by kernel_rfl
theorem l45_5 (N:Nat):z0n (x45 N) (z02 5 (z00 b45)):=
 z0h (G45_5 N) (by kernel_rfl) (by kernel_rfl) (by kernel_rfl) fun R k d=>
  z0g (st:=fun (x:Int×Yao)=>([(7,(.ref 0 [] 0)),(2,(.data .ya d.1.2.1)),(3,(.bptr 1 [])),(8,(.data .ya x.1)),(1,(.data .yk d.1.2.2.2.2.1))],[.row .ye x.2 0,.cell (.data .yg d.2.2.1)])) (s45_5 N k d.1.2.1 d.1.2.2.2.2.1 d.2.2.1) N (d.1.2.2.2.1,d.2.1)
theorem e45 (N:Nat) (a0:Ye) (a1:List Yk) (a2:Int):z24 (x45 N) [.yn] [.tmp 6] b45 (entry (.pr (.val .yg) (.pr (.val .yk) (.pr (.val .ya) .un))) (a0,(a1,(a2,()))))=f45 N a0 a1 a2:=by kernel_rfl
theorem k45 (N:Nat):z04 Go.Proofs.Try.prog 45 (c45 N):=
 z29 (fn:=Go.Proofs.Try.f45) (body:=b45) (c:=x45 N) Go.Proofs.Try.func45 (by kernel_rfl) (by kernel_rfl) ⟨ttL_ok,z0p,z0r,z0s,z0q,z0e⟩ mixed (by kernel_rfl) (zL (by kernel_rfl)) (by kernel_rfl) (by decide)
  (z0a (by kernel_rfl:z00 b45=[z02 5 (z00 b45)]) (.cons (l45_5 N) .nil)) fun d=>e45 N d.1 d.2.1 d.2.2.1
def zop {R:Type} (N:Nat) (t1:List Yd) (t0:List Yd) (t12:Int) (kb:Int->Option R) (kret:Bool->Option R) (kx0:Unit->Option R):Int->Option R:=
 fun t13=>
  cond (decide (t13 < t12))
   ((idx t0 t13).bind fun x=>
   (idx t1 t13).bind fun x_1=>
   cond (!(eqD .ye x x_1))
    (kret false)
    (kb (z0i (t13+1))))
   (kx0 ())
def f46 (N:Nat) (a0:List Yd) (a1:List Yd):Option (Bool):=
 cond (!(decide ((len a0)=(len a1))))
  (some false)
  (iter (fun w=>zop N a1 a0 (len a0) w
   (fun t4=>
    some t4)
   (fun (_:Unit)=>
    some true)) N 0)
def c46 (N:Nat):Callee:=.pure (.pr (.val .yn) (.pr (.val .yn) .un)) [.bool] fun d=>f46 N d.1 d.2.1
def F46_4:SForm:=⟨[(13,(.val .ya)),(1,(.val .yn)),(0,(.val .yn)),(12,(.val .ya))],[]⟩
def G46_4 (N:Nat):(R:Type)->F46_4.den->(AExit->St->Option R)->Option R:=fun R d k=>iter (fun kb=>zop N d.1.2.1 d.1.2.2.1 d.1.2.2.2.1 kb
  (fun y0=>k .ret (St.of [(4,(.data .bool y0))] []))
  (fun _=>k (.exit 0) (St.of [] []))) N d.1.1
def lp46 (N:Nat):Nat->Option z0o:=fun r=>cond (Nat.beq r 4) (some fun R sl os k=>F46_4.take sl os fun d=>G46_4 N R d k) (none)
def x46 (N:Nat):Ctx:=(mkX N 26 [] [(4,⟨[13,1,0,12],[]⟩)] [(4,[(0,⟨[],[]⟩)])] ⟨[4],[]⟩ (fun _=>none) (lp46 N))
noncomputable def b46:Code:=((Go.Proofs.Try.f46).body).getD .skip
theorem s46_4 (N:Nat) {R:Type} (k:AExit->St->Option R) (t1:List Yd) (t0:List Yd) (t12:Int) (kb:List Yl->List Obj->Option R) (x:Int):z0w (x46 N) (z02 4 (z00 b46)) (St.of [(13,(.data .ya x)),(1,(.data .yn t1)),(0,(.data .yn t0)),(12,(.data .ya t12))] []) (z1m (x46 N) 4 ⟨[13,1,0,12],[]⟩ kb k)=zop N t1 t0 t12 (fun y=>kb [(13,(.data .ya y)),(1,(.data .yn t1)),(0,(.data .yn t0)),(12,(.data .ya t12))] [])
  (fun y0=>k .ret (St.of [(4,(.data .bool y0))] []))
  (fun _=>k (.exit 0) (St.of [] [])) x:=by kernel_rfl
theorem l46_4 (N:Nat):z0n (x46 N) (z02 4 (z00 b46)):=
 z0h (G46_4 N) (by kernel_rfl) (by kernel_rfl) (by kernel_rfl) fun R k d=>
  z0g (st:=fun (x:Int)=>([(13,(.data .ya x)),(1,(.data .yn d.1.2.1)),(0,(.data .yn d.1.2.2.1)),(12,(.data .ya d.1.2.2.2.1))],[])) (s46_4 N k d.1.2.1 d.1.2.2.1 d.1.2.2.2.1) N d.1.1
theorem e46 (N:Nat) (a0:List Yd) (a1:List Yd):z24 (x46 N) [.bool] [.tmp 4] b46 (entry (.pr (.val .yn) (.pr (.val .yn) .un)) (a0,(a1,())))=f46 N a0 a1:=by kernel_rfl
theorem k46 (N:Nat):z04 Go.Proofs.Try.prog 46 (c46 N):=
 z29 (fn:=Go.Proofs.Try.f46) (body:=b46) (c:=x46 N) Go.Proofs.Try.func46 (by kernel_rfl) (by kernel_rfl) ⟨ttL_ok,z0p,z0r,z0s,z0q,z0e⟩ mixed (by kernel_rfl) (zL (by kernel_rfl)) (by kernel_rfl) (by decide)
  (z0a (by kernel_rfl:z00 b46=[z02 4 (z00 b46)]) (.cons (l46_4 N) .nil)) fun d=>e46 N d.1 d.2.1
def ztk {R:Type} (N:Nat) (t5_1:Int) (t0_1:List Int) (t4_1:Int) (o0_1:List Int) (kb:Int×Int->Option R) (kx2:Int->Option R):Int×Int->Option R:=
 fun (t7,t6)=>
  cond (decide (t7 < t5_1))
   ((idx t0_1 t7).bind fun x=>
   (idx t0_1 t5_1).bind fun x_1=>
   cond (decide (x=x_1))
    (chk (inb o0_1 t7) <|
    (idx o0_1 t7).bind fun x_2=>
    kb ((z0i (t7+1)),x_2))
    (kb ((z0i (t7+1)),t6)))
   (kx2 t6)
def ztl {R:Type} (N:Nat) (t0:List Int) (kb:Int×Int×List Int->Option R) (kx0:Ya->Option R):Int×Int×List Int->Option R:=
 fun (t5,t4,o0)=>
  cond (decide (t5 < (len t0)))
   (iter (fun w=>ztk N t5 t0 t4 o0 w
    (fun t6_1=>
     cond (decide (t6_1=t4))
      (chk (decide ((Nat.succ (List.length o0))≤z38)) <|
      kb ((z0i (t5+1)),(z0i (t4+1)),(o0++(t6_1 :: ([]:List Int)))))
      (chk (decide ((Nat.succ (List.length o0))≤z38)) <|
      kb ((z0i (t5+1)),t4,(o0++(t6_1 :: ([]:List Int))))))) N (0,t4))
   (kx0 o0)
def f47 (N:Nat) (a0:List Int):Option Ya:=
 iter (fun w=>ztl N a0 w
  (fun o0_2=>
   some o0_2)) N (0,0,([]:List Int))
def c47 (N:Nat):Callee:=.pure (.pr (.val .yb) .un) [.ym] fun d=>f47 N d.1
def F47_8:SForm:=⟨[(7,(.val .ya)),(3,(.ref 0)),(5,(.val .ya)),(0,(.val .yb)),(6,(.val .ya)),(4,(.val .ya))],[.row .ya]⟩
def G47_8 (N:Nat):(R:Type)->F47_8.den->(AExit->St->Option R)->Option R:=fun R d k=>iter (fun kb=>ztk N d.1.2.2.1 d.1.2.2.2.1 d.1.2.2.2.2.2.1 d.2.1 kb
  (fun y2=>k (.exit 2) (St.of [(0,(.data .yb d.1.2.2.2.1)),(5,(.data .ya d.1.2.2.1)),(6,(.data .ya y2)),(3,(.ref 0 [] 0)),(4,(.data .ya d.1.2.2.2.2.2.1))] [.row .ya d.2.1 0]))) N (d.1.1,d.1.2.2.2.2.1)
def F47_4:SForm:=⟨[(3,(.ref 0)),(5,(.val .ya)),(0,(.val .yb)),(4,(.val .ya))],[.row .ya]⟩
def G47_4 (N:Nat):(R:Type)->F47_4.den->(AExit->St->Option R)->Option R:=fun R d k=>iter (fun kb=>ztl N d.1.2.2.1 kb
  (fun y0=>k (.exit 0) (St.of [(3,(.ref 0 [] 0))] [.row .ya y0 0]))) N (d.1.2.1,d.1.2.2.2.1,d.2.1)
def lp47 (N:Nat):Nat->Option z0o:=fun r=>cond (Nat.beq r 8) (some fun R sl os k=>F47_8.take sl os fun d=>G47_8 N R d k) (cond (Nat.beq r 4) (some fun R sl os k=>F47_4.take sl os fun d=>G47_4 N R d k) (none))
def x47 (N:Nat):Ctx:=(mkX N 43 [] [(4,⟨[3,5,0,4],[(3,none,.row .ya)]⟩),(8,⟨[7,3,5,0,6,4],[]⟩)] [(4,[(0,⟨[3],[]⟩)]),(8,[(2,⟨[0,5,6,3,4],[]⟩)])] ⟨[2],[]⟩ (fun _=>none) (lp47 N))
noncomputable def b47:Code:=((Go.Proofs.Try.f47).body).getD .skip
theorem s47_8 (N:Nat) {R:Type} (k:AExit->St->Option R) (t5_1:Int) (t0_1:List Int) (t4_1:Int) (o0_1:List Int) (kb:List Yl->List Obj->Option R) (x:Int×Int):z0w (x47 N) (z02 8 (z00 b47)) (St.of [(7,(.data .ya x.1)),(3,(.ref 0 [] 0)),(5,(.data .ya t5_1)),(0,(.data .yb t0_1)),(6,(.data .ya x.2)),(4,(.data .ya t4_1))] [.row .ya o0_1 0]) (z1m (x47 N) 8 ⟨[7,3,5,0,6,4],[]⟩ kb k)=ztk N t5_1 t0_1 t4_1 o0_1 (fun y=>kb [(7,(.data .ya y.1)),(3,(.ref 0 [] 0)),(5,(.data .ya t5_1)),(0,(.data .yb t0_1)),(6,(.data .ya y.2)),(4,(.data .ya t4_1))] [.row .ya o0_1 0])
  (fun y2=>k (.exit 2) (St.of [(0,(.data .yb t0_1)),(5,(.data .ya t5_1)),(6,(.data .ya y2)),(3,(.ref 0 [] 0)),(4,(.data .ya t4_1))] [.row .ya o0_1 0])) x:=by kernel_rfl
theorem l47_8 (N:Nat):z0n (x47 N) (z02 8 (z00 b47)):=
 z0h (G47_8 N) (by kernel_rfl) (by kernel_rfl) (by kernel_rfl) fun R k d=>
  z0g (st:=fun (x:Int×Int)=>([(7,(.data .ya x.1)),(3,(.ref 0 [] 0)),(5,(.data .ya d.1.2.2.1)),(0,(.data .yb d.1.2.2.2.1)),(6,(.data .ya x.2)),(4,(.data .ya d.1.2.2.2.2.2.1))],[.row .ya d.2.1 0])) (s47_8 N k d.1.2.2.1 d.1.2.2.2.1 d.1.2.2.2.2.2.1 d.2.1) N (d.1.1,d.1.2.2.2.2.1)
theorem s47_4 (N:Nat) {R:Type} (k:AExit->St->Option R) (t0:List Int) (kb:List Yl->List Obj->Option R) (x:Int×Int×List Int):z0w (x47 N) (z02 4 (z00 b47)) (St.of [(3,(.ref 0 [] 0)),(5,(.data .ya x.1)),(0,(.data .yb t0)),(4,(.data .ya x.2.1))] [.row .ya x.2.2 0]) (z1m (x47 N) 4 ⟨[3,5,0,4],[(3,none,.row .ya)]⟩ kb k)=ztl N t0 (fun y=>kb [(3,(.ref 0 [] 0)),(5,(.data .ya y.1)),(0,(.data .yb t0)),(4,(.data .ya y.2.1))] [.row .ya y.2.2 0])
  (fun y0=>k (.exit 0) (St.of [(3,(.ref 0 [] 0))] [.row .ya y0 0])) x:=by kernel_rfl
theorem l47_4 (N:Nat):z0n (x47 N) (z02 4 (z00 b47)):=
 z0h (G47_4 N) (by kernel_rfl) (by kernel_rfl) (by kernel_rfl) fun R k d=>
  z0g (st:=fun (x:Int×Int×List Int)=>([(3,(.ref 0 [] 0)),(5,(.data .ya x.1)),(0,(.data .yb d.1.2.2.1)),(4,(.data .ya x.2.1))],[.row .ya x.2.2 0])) (s47_4 N k d.1.2.2.1) N (d.1.2.1,d.1.2.2.2.1,d.2.1)
theorem e47 (N:Nat) (a0:List Int):z24 (x47 N) [.ym] [.tmp 2] b47 (entry (.pr (.val .yb) .un) (a0,()))=f47 N a0:=by kernel_rfl
theorem k47 (N:Nat):z04 Go.Proofs.Try.prog 47 (c47 N):=
 z29 (fn:=Go.Proofs.Try.f47) (body:=b47) (c:=x47 N) Go.Proofs.Try.func47 (by kernel_rfl) (by kernel_rfl) ⟨ttL_ok,z0p,z0r,z0s,z0q,z0e⟩ mixed (by kernel_rfl) (zL (by kernel_rfl)) (by kernel_rfl) (by decide)
  (z0a (by kernel_rfl:z00 b47=[z02 4 (z00 b47),z02 8 (z00 b47)]) (.cons (l47_4 N) (.cons (l47_8 N) .nil))) fun d=>e47 N d.1
def zhc {R:Type} (N:Nat) (t10:List Yd) (t8_1:Int) (t1_1:List Yk) (t16_1:Int) (t17_1:Int) (t33:Int) (o0_1:List Int) (o1_1:List Yao) (o2_1:Ye) (kb:Int×Int->Option R) (kx2:Int->Option R):Int×Int->Option R:=
 fun (t34,t11)=>
  cond (decide (t34 < t33))
   (chk (inb o1_1 t34) <|
   (idx o1_1 t34).bind fun x=>
   (f46 N x t10).bind fun r_1=>
   cond r_1
    (chk (inb o0_1 t34) <|
    (idx o0_1 t34).bind fun x_1=>
    kb ((z0i (t34+1)),x_1))
    (kb ((z0i (t34+1)),t11)))
   (kx2 t11)
def zoy {R:Type} (N:Nat) (t1:List Yk) (t16:Int) (o2:Ye) (kb:Int×Int×List Int×(List Yao)->Option R) (kx0:Int->Ya->Option R):Int×Int×List Int×(List Yao)->Option R:=
 fun (t17,t8,o0,o1)=>
  cond (decide (t17 < t16))
   ((f45 N o2 t1 t17).bind fun r=>
   chk (decide ((Nat.succ (List.length o1))≤z38)) <|
   iter (fun w=>zhc N r (zqu t8 (len r)) t1 t16 t17 t17 o0 (o1++(r :: ([]:List Yao))) o2 w
    (fun t11_1=>
     chk (decide ((Nat.succ (List.length o0))≤z38)) <|
     kb ((z0i (t17+1)),(zqu t8 (len r)),(o0++(t11_1 :: ([]:List Int))),(o1++(r :: ([]:List Yao)))))) N (0,t17))
   (kx0 t8 o0)
def f17 (N:Nat) (a0:Ye) (a1:List Yk):Option (List Int×Int):=
 iter (fun w=>zoy N a1 a0.1 a0 w
  (fun t8_2 o0_2=>
   (f47 N o0_2).bind fun r_2=>
   some (r_2,t8_2))) N (0,0,([]:List Int),([]:List Yao))
def c17 (N:Nat):Callee:=.pure (.pr (.val .yg) (.pr (.val .yk) .un)) [.ym,.ya] fun d=>f17 N d.1 d.2.1
def F17_12:SForm:=⟨[(34,(.val .ya)),(6,(.ref 0)),(10,(.val .yn)),(7,(.ref 1)),(8,(.val .ya)),(1,(.val .yk)),(2,(.bptr 2 [])),(16,(.val .ya)),(17,(.val .ya)),(11,(.val .ya)),(33,(.val .ya))],[.row .ya,.row .yn,.cell (.val .yg)]⟩
def G17_12 (N:Nat):(R:Type)->F17_12.den->(AExit->St->Option R)->Option R:=fun R d k=>iter (fun kb=>zhc N d.1.2.2.1 d.1.2.2.2.2.1 d.1.2.2.2.2.2.1 d.1.2.2.2.2.2.2.2.1 d.1.2.2.2.2.2.2.2.2.1 d.1.2.2.2.2.2.2.2.2.2.2.1 d.2.1 d.2.2.1 d.2.2.2.1 kb
  (fun y4=>k (.exit 2) (St.of [(8,(.data .ya d.1.2.2.2.2.1)),(7,(.ref 0 [] 0)),(1,(.data .yk d.1.2.2.2.2.2.1)),(2,(.bptr 1 [])),(16,(.data .ya d.1.2.2.2.2.2.2.2.1)),(17,(.data .ya d.1.2.2.2.2.2.2.2.2.1)),(11,(.data .ya y4)),(6,(.ref 2 [] 0))] [.row .yn d.2.2.1 0,.cell (.data .yg d.2.2.2.1),.row .ya d.2.1 0]))) N (d.1.1,d.1.2.2.2.2.2.2.2.2.2.1)
def F17_5:SForm:=⟨[(6,(.ref 0)),(17,(.val .ya)),(8,(.val .ya)),(7,(.ref 1)),(1,(.val .yk)),(2,(.bptr 2 [])),(16,(.val .ya))],[.row .ya,.row .yn,.cell (.val .yg)]⟩
def G17_5 (N:Nat):(R:Type)->F17_5.den->(AExit->St->Option R)->Option R:=fun R d k=>iter (fun kb=>zoy N d.1.2.2.2.2.1 d.1.2.2.2.2.2.2.1 d.2.2.2.1 kb
  (fun y0 y1=>k (.exit 0) (St.of [(8,(.data .ya y0)),(6,(.ref 0 [] 0))] [.row .ya y1 0]))) N (d.1.2.1,d.1.2.2.1,d.2.1,d.2.2.1)
def lp17 (N:Nat):Nat->Option z0o:=fun r=>cond (Nat.beq r 12) (some fun R sl os k=>F17_12.take sl os fun d=>G17_12 N R d k) (cond (Nat.beq r 5) (some fun R sl os k=>F17_5.take sl os fun d=>G17_5 N R d k) (none))
def x17 (N:Nat):Ctx:=(mkX N 56 [(45,[c45 N]),(46,[c46 N]),(47,[c47 N])] [(5,⟨[6,17,8,7,1,2,16],[]⟩),(12,⟨[34,6,10,7,8,1,2,16,17,11,33],[]⟩)] [(5,[(0,⟨[8,6],[]⟩)]),(12,[(2,⟨[8,7,1,2,16,17,11,6],[]⟩)])] ⟨[4,5],[]⟩ (fun _=>none) (lp17 N))
noncomputable def b17:Code:=((Go.Proofs.Try.f17).body).getD .skip
theorem s17_12 (N:Nat) {R:Type} (k:AExit->St->Option R) (t10:List Yd) (t8_1:Int) (t1_1:List Yk) (t16_1:Int) (t17_1:Int) (t33:Int) (o0_1:List Int) (o1_1:List Yao) (o2_1:Ye) (kb:List Yl->List Obj->Option R) (x:Int×Int):z0w (x17 N) (z02 12 (z00 b17)) (St.of [(34,(.data .ya x.1)),(6,(.ref 0 [] 0)),(10,(.data .yn t10)),(7,(.ref 1 [] 0)),(8,(.data .ya t8_1)),(1,(.data .yk t1_1)),(2,(.bptr 2 [])),(16,(.data .ya t16_1)),(17,(.data .ya t17_1)),(11,(.data .ya x.2)),(33,(.data .ya t33))] [.row .ya o0_1 0,.row .yn o1_1 0,.cell (.data .yg o2_1)]) (z1m (x17 N) 12 ⟨[34,6,10,7,8,1,2,16,17,11,33],[]⟩ kb k)=zhc N t10 t8_1 t1_1 t16_1 t17_1 t33 o0_1 o1_1 o2_1 (fun y=>kb [(34,(.data .ya y.1)),(6,(.ref 0 [] 0)),(10,(.data .yn t10)),(7,(.ref 1 [] 0)),(8,(.data .ya t8_1)),(1,(.data .yk t1_1)),(2,(.bptr 2 [])),(16,(.data .ya t16_1)),(17,(.data .ya t17_1)),(11,(.data .ya y.2)),(33,(.data .ya t33))] [.row .ya o0_1 0,.row .yn o1_1 0,.cell (.data .yg o2_1)])
  (fun y4=>k (.exit 2) (St.of [(8,(.data .ya t8_1)),(7,(.ref 0 [] 0)),(1,(.data .yk t1_1)),(2,(.bptr 1 [])),(16,(.data .ya t16_1)),(17,(.data .ya t17_1)),(11,(.data .ya y4)),(6,(.ref 2 [] 0))] [.row .yn o1_1 0,.cell (.data .yg o2_1),.row .ya o0_1 0])) x:=by kernel_rfl
theorem l17_12 (N:Nat):z0n (x17 N) (z02 12 (z00 b17)):=
 z0h (G17_12 N) (by kernel_rfl) (by kernel_rfl) (by kernel_rfl) fun R k d=>
  z0g (st:=fun (x:Int×Int)=>([(34,(.data .ya x.1)),(6,(.ref 0 [] 0)),(10,(.data .yn d.1.2.2.1)),(7,(.ref 1 [] 0)),(8,(.data .ya d.1.2.2.2.2.1)),(1,(.data .yk d.1.2.2.2.2.2.1)),(2,(.bptr 2 [])),(16,(.data .ya d.1.2.2.2.2.2.2.2.1)),(17,(.data .ya d.1.2.2.2.2.2.2.2.2.1)),(11,(.data .ya x.2)),(33,(.data .ya d.1.2.2.2.2.2.2.2.2.2.2.1))],[.row .ya d.2.1 0,.row .yn d.2.2.1 0,.cell (.data .yg d.2.2.2.1)])) (s17_12 N k d.1.2.2.1 d.1.2.2.2.2.1 d.1.2.2.2.2.2.1 d.1.2.2.2.2.2.2.2.1 d.1.2.2.2.2.2.2.2.2.1 d.1.2.2.2.2.2.2.2.2.2.2.1 d.2.1 d.2.2.1 d.2.2.2.1) N (d.1.1,d.1.2.2.2.2.2.2.2.2.2.1)
theorem s17_5 (N:Nat) {R:Type} (k:AExit->St->Option R) (t1:List Yk) (t16:Int) (o2:Ye) (kb:List Yl->List Obj->Option R) (x:Int×Int×List Int×(List Yao)):z0w (x17 N) (z02 5 (z00 b17)) (St.of [(6,(.ref 0 [] 0)),(17,(.data .ya x.1)),(8,(.data .ya x.2.1)),(7,(.ref 1 [] 0)),(1,(.data .yk t1)),(2,(.bptr 2 [])),(16,(.data .ya t16))] [.row .ya x.2.2.1 0,.row .yn x.2.2.2 0,.cell (.data .yg o2)]) (z1m (x17 N) 5 ⟨[6,17,8,7,1,2,16],[]⟩ kb k)=zoy N t1 t16 o2 (fun y=>kb [(6,(.ref 0 [] 0)),(17,(.data .ya y.1)),(8,(.data .ya y.2.1)),(7,(.ref 1 [] 0)),(1,(.data .yk t1)),(2,(.bptr 2 [])),(16,(.data .ya t16))] [.row .ya y.2.2.1 0,.row .yn y.2.2.2 0,.cell (.data .yg o2)])
  (fun y0 y1=>k (.exit 0) (St.of [(8,(.data .ya y0)),(6,(.ref 0 [] 0))] [.row .ya y1 0])) x:=by kernel_rfl
theorem l17_5 (N:Nat):z0n (x17 N) (z02 5 (z00 b17)):=
 z0h (G17_5 N) (by kernel_rfl) (by kernel_rfl) (by kernel_rfl) fun R k d=>
  z0g (st:=fun (x:Int×Int×List Int×(List Yao))=>([(6,(.ref 0 [] 0)),(17,(.data .ya x.1)),(8,(.data .ya x.2.1)),(7,(.ref 1 [] 0)),(1,(.data .yk d.1.2.2.2.2.1)),(2,(.bptr 2 [])),(16,(.data .ya d.1.2.2.2.2.2.2.1))],[.row .ya x.2.2.1 0,.row .yn x.2.2.2 0,.cell (.data .yg d.2.2.2.1)])) (s17_5 N k d.1.2.2.2.2.1 d.1.2.2.2.2.2.2.1 d.2.2.2.1) N (d.1.2.1,d.1.2.2.1,d.2.1,d.2.2.1)
theorem e17 (N:Nat) (a0:Ye) (a1:List Yk):z24 (x17 N) [.ym,.ya] [.tmp 4,.tmp 5] b17 (entry (.pr (.val .yg) (.pr (.val .yk) .un)) (a0,(a1,())))=f17 N a0 a1:=by kernel_rfl
theorem k17 (N:Nat):z04 Go.Proofs.Try.prog 17 (c17 N):=
 z29 (fn:=Go.Proofs.Try.f17) (body:=b17) (c:=x17 N) Go.Proofs.Try.func17 (by kernel_rfl) (by kernel_rfl) ⟨ttL_ok,z0p,z0r,z0s,z0q,z03 (z01 (k45 N)) (z03 (z01 (k46 N)) (z03 (z01 (k47 N)) (z0e)))⟩ mixed (by kernel_rfl) (zL (by kernel_rfl)) (by kernel_rfl) (by decide)
  (z0a (by kernel_rfl:z00 b17=[z02 5 (z00 b17),z02 12 (z00 b17)]) (.cons (l17_5 N) (.cons (l17_12 N) .nil))) fun d=>e17 N d.1 d.2.1
def f99 (N:Nat) (a0:List Int) (a1:List Int):Option (Int):=
 (f67 N a0).bind fun r=>
 (cond (!r)
   (some true)
   ((f67 N a1).bind fun r_1=>
   some (!r_1))).bind fun b=>
 cond b
  (some 1)
  (cond (!(decide ((len a0)=(len a1))))
   (some 2)
   (some 0))
def c99 (N:Nat):Callee:=.pure (.pr (.val .yb) (.pr (.val .yb) .un)) [.ya] fun d=>f99 N d.1 d.2.1
def lp99 (N:Nat):Nat->Option z0o:=fun r=>none
def x99 (N:Nat):Ctx:=(mkX N 18 [(67,[c67 N])] [] [] ⟨[4],[]⟩ (fun _=>none) (lp99 N))
noncomputable def b99:Code:=((Go.Proofs.Try.f99).body).getD .skip
theorem e99 (N:Nat) (a0:List Int) (a1:List Int):z24 (x99 N) [.ya] [.tmp 4] b99 (entry (.pr (.val .yb) (.pr (.val .yb) .un)) (a0,(a1,())))=f99 N a0 a1:=by kernel_rfl
theorem k99 (N:Nat):z04 Go.Proofs.Try.prog 99 (c99 N):=
 z29 (fn:=Go.Proofs.Try.f99) (body:=b99) (c:=x99 N) Go.Proofs.Try.func99 (by kernel_rfl) (by kernel_rfl) ⟨ttL_ok,z0p,z0r,z0s,z0q,z03 (z01 (k67 N)) (z0e)⟩ mixed (by kernel_rfl) (zL (by kernel_rfl)) (by kernel_rfl) (by decide)
  (z0a (by kernel_rfl:z00 b99=[]) .nil) fun d=>e99 N d.1 d.2.1
def zlq {R:Type} (N:Nat) (t8_1:Int) (t1_1:List Int) (t0_1:List Int) (kb:Int×List Int->Option R) (kx2:Ya->Option R):Int×List Int->Option R:=
 fun (t9,o0_1)=>
  cond (decide (0≤t9))
   ((idx t0_1 t9).bind fun x_2=>
   (idx t0_1 t8_1).bind fun x_3=>
   (cond (decide (x_2=x_3))
     ((idx t1_1 t9).bind fun x_4=>
     (idx t1_1 t8_1).bind fun x_5=>
     some (decide (x_4=x_5)))
     (some false)).bind fun b=>
   cond b
    (chk (inb o0_1 t8_1) <|
    (idx o0_1 t8_1).bind fun x_6=>
    (idx o0_1 t8_1).bind fun x_7=>
    kb ((z0i (t9-1)),(zeq o0_1 t8_1 t9)))
    (kb ((z0i (t9-1)),o0_1)))
   (kx2 o0_1)
def zoa {R:Type} (N:Nat) (t1:List Int) (t0:List Int) (kb:Int×List Int->Option R) (kx0:Ya->Option R):Int×List Int->Option R:=
 fun (t8,o0)=>
  cond (decide (t8 < (len t0)))
   (chk (inb o0 t8) <|
   (idx o0 t8).bind fun x=>
   (idx o0 t8).bind fun x_1=>
   iter (fun w=>zlq N t8 t1 t0 w
    (fun o0_2=>
     kb ((z0i (t8+1)),o0_2))) N ((z0i (t8-1)),(zeq o0 t8 t8)))
   (kx0 o0)
def f84 (N:Nat) (a0:List Int) (a1:List Int):Option (List Int×Int):=
 (f99 N a0 a1).bind fun r=>
 cond (!(decide (r=0)))
  (some (([]:List Int),r))
  (chk (((decide (0≤(len a0))) && (decide ((len a0)≤(len a0)))) && (decide ((len a0)≤((z38:Nat):Int)))) <|
  iter (fun w=>zoa N a1 a0 w
   (fun o0_3=>
    (f47 N o0_3).bind fun r_1=>
    some (r_1,0))) N (0,(List.replicate (Int.toNat (len a0)) 0:List Int)))
def c84 (N:Nat):Callee:=.pure (.pr (.val .yb) (.pr (.val .yb) .un)) [.ym,.ya] fun d=>f84 N d.1 d.2.1
def F84_10:SForm:=⟨[(9,(.val .ya)),(8,(.val .ya)),(7,(.ref 0)),(1,(.val .yb)),(0,(.val .yb))],[.row .ya]⟩
def G84_10 (N:Nat):(R:Type)->F84_10.den->(AExit->St->Option R)->Option R:=fun R d k=>iter (fun kb=>zlq N d.1.2.1 d.1.2.2.2.1 d.1.2.2.2.2.1 kb
  (fun y3=>k (.exit 2) (St.of [(7,(.ref 0 [] 0)),(1,(.data .yb d.1.2.2.2.1)),(0,(.data .yb d.1.2.2.2.2.1)),(8,(.data .ya d.1.2.1))] [.row .ya y3 0]))) N (d.1.1,d.2.1)
def F84_6:SForm:=⟨[(8,(.val .ya)),(7,(.ref 0)),(1,(.val .yb)),(0,(.val .yb))],[.row .ya]⟩
def G84_6 (N:Nat):(R:Type)->F84_6.den->(AExit->St->Option R)->Option R:=fun R d k=>iter (fun kb=>zoa N d.1.2.2.1 d.1.2.2.2.1 kb
  (fun y0=>k (.exit 0) (St.of [(7,(.ref 0 [] 0))] [.row .ya y0 0]))) N (d.1.1,d.2.1)
def lp84 (N:Nat):Nat->Option z0o:=fun r=>cond (Nat.beq r 10) (some fun R sl os k=>F84_10.take sl os fun d=>G84_10 N R d k) (cond (Nat.beq r 6) (some fun R sl os k=>F84_6.take sl os fun d=>G84_6 N R d k) (none))
def x84 (N:Nat):Ctx:=(mkX N 61 [(99,[c99 N]),(47,[c47 N])] [(6,⟨[8,7,1,0],[]⟩),(10,⟨[9,8,7,1,0],[]⟩)] [(6,[(0,⟨[7],[]⟩)]),(10,[(2,⟨[7,1,0,8],[]⟩)])] ⟨[4,5],[]⟩ (fun _=>none) (lp84 N))
noncomputable def b84:Code:=((Go.Proofs.Try.f84).body).getD .skip
theorem s84_10 (N:Nat) {R:Type} (k:AExit->St->Option R) (t8_1:Int) (t1_1:List Int) (t0_1:List Int) (kb:List Yl->List Obj->Option R) (x:Int×List Int):z0w (x84 N) (z02 10 (z00 b84)) (St.of [(9,(.data .ya x.1)),(8,(.data .ya t8_1)),(7,(.ref 0 [] 0)),(1,(.data .yb t1_1)),(0,(.data .yb t0_1))] [.row .ya x.2 0]) (z1m (x84 N) 10 ⟨[9,8,7,1,0],[]⟩ kb k)=zlq N t8_1 t1_1 t0_1 (fun y=>kb [(9,(.data .ya y.1)),(8,(.data .ya t8_1)),(7,(.ref 0 [] 0)),(1,(.data .yb t1_1)),(0,(.data .yb t0_1))] [.row .ya y.2 0])
  (fun y3=>k (.exit 2) (St.of [(7,(.ref 0 [] 0)),(1,(.data .yb t1_1)),(0,(.data .yb t0_1)),(8,(.data .ya t8_1))] [.row .ya y3 0])) x:=by kernel_rfl
theorem l84_10 (N:Nat):z0n (x84 N) (z02 10 (z00 b84)):=
 z0h (G84_10 N) (by kernel_rfl) (by kernel_rfl) (by kernel_rfl) fun R k d=>
  z0g (st:=fun (x:Int×List Int)=>([(9,(.data .ya x.1)),(8,(.data .ya d.1.2.1)),(7,(.ref 0 [] 0)),(1,(.data .yb d.1.2.2.2.1)),(0,(.data .yb d.1.2.2.2.2.1))],[.row .ya x.2 0])) (s84_10 N k d.1.2.1 d.1.2.2.2.1 d.1.2.2.2.2.1) N (d.1.1,d.2.1)
theorem s84_6 (N:Nat) {R:Type} (k:AExit->St->Option R) (t1:List Int) (t0:List Int) (kb:List Yl->List Obj->Option R) (x:Int×List Int):z0w (x84 N) (z02 6 (z00 b84)) (St.of [(8,(.data .ya x.1)),(7,(.ref 0 [] 0)),(1,(.data .yb t1)),(0,(.data .yb t0))] [.row .ya x.2 0]) (z1m (x84 N) 6 ⟨[8,7,1,0],[]⟩ kb k)=zoa N t1 t0 (fun y=>kb [(8,(.data .ya y.1)),(7,(.ref 0 [] 0)),(1,(.data .yb t1)),(0,(.data .yb t0))] [.row .ya y.2 0])
  (fun y0=>k (.exit 0) (St.of [(7,(.ref 0 [] 0))] [.row .ya y0 0])) x:=by kernel_rfl
theorem l84_6 (N:Nat):z0n (x84 N) (z02 6 (z00 b84)):=
 z0h (G84_6 N) (by kernel_rfl) (by kernel_rfl) (by kernel_rfl) fun R k d=>
  z0g (st:=fun (x:Int×List Int)=>([(8,(.data .ya x.1)),(7,(.ref 0 [] 0)),(1,(.data .yb d.1.2.2.1)),(0,(.data .yb d.1.2.2.2.1))],[.row .ya x.2 0])) (s84_6 N k d.1.2.2.1 d.1.2.2.2.1) N (d.1.1,d.2.1)
theorem e84 (N:Nat) (a0:List Int) (a1:List Int):z24 (x84 N) [.ym,.ya] [.tmp 4,.tmp 5] b84 (entry (.pr (.val .yb) (.pr (.val .yb) .un)) (a0,(a1,())))=f84 N a0 a1:=by kernel_rfl
theorem k84 (N:Nat):z04 Go.Proofs.Try.prog 84 (c84 N):=
 z29 (fn:=Go.Proofs.Try.f84) (body:=b84) (c:=x84 N) Go.Proofs.Try.func84 (by kernel_rfl) (by kernel_rfl) ⟨ttL_ok,z0p,z0r,z0s,z0q,z03 (z01 (k99 N)) (z03 (z01 (k47 N)) (z0e))⟩ mixed (by kernel_rfl) (zL (by kernel_rfl)) (by kernel_rfl) (by decide)
  (z0a (by kernel_rfl:z00 b84=[z02 6 (z00 b84),z02 10 (z00 b84)]) (.cons (l84_6 N) (.cons (l84_10 N) .nil))) fun d=>e84 N d.1 d.2.1
def zog {R:Type} (N:Nat) (t11:List Int) (t12:Int) (o0:Ye) (kb:Int×List Int->Option R) (kx0:Ya->Option R):Int×List Int->Option R:=
 fun (t13,o1)=>
  cond (decide (t13 < t12))
   ((idx t11 t13).bind fun x=>
   (idx o0.2.1 x).bind fun x_1=>
   (f84 N o1 x_1).bind fun r=>
   kb ((z0i (t13+1)),r.1))
   (kx0 o1)
def f57 (N:Nat) (a0:Ye) (a1:List Int):Option Ya:=
 chk (((decide (0≤a0.1)) && (decide (a0.1≤a0.1))) && (decide (a0.1≤((z38:Nat):Int)))) <|
 iter (fun w=>zog N a1 (len a1) a0 w
  (fun o0_1=>
   some o0_1)) N (0,(List.replicate (Int.toNat a0.1) 0:List Int))
def c57 (N:Nat):Callee:=.pure (.pr (.val .yg) (.pr (.val .yb) .un)) [.ym] fun d=>f57 N d.1 d.2.1
def F57_3:SForm:=⟨[(13,(.val .ya)),(2,(.bptr 0 [])),(5,(.ref 1)),(11,(.val .yb)),(12,(.val .ya))],[.cell (.val .yg),.row .ya]⟩
def G57_3 (N:Nat):(R:Type)->F57_3.den->(AExit->St->Option R)->Option R:=fun R d k=>iter (fun kb=>zog N d.1.2.2.2.1 d.1.2.2.2.2.1 d.2.1 kb
  (fun y0=>k (.exit 0) (St.of [(5,(.ref 0 [] 0))] [.row .ya y0 0]))) N (d.1.1,d.2.2.1)
def lp57 (N:Nat):Nat->Option z0o:=fun r=>cond (Nat.beq r 3) (some fun R sl os k=>F57_3.take sl os fun d=>G57_3 N R d k) (none)
def x57 (N:Nat):Ctx:=(mkX N 29 [(84,[c84 N])] [(3,⟨[13,2,5,11,12],[]⟩)] [(3,[(0,⟨[5],[]⟩)])] ⟨[4],[]⟩ (fun _=>none) (lp57 N))
noncomputable def b57:Code:=((Go.Proofs.Try.f57).body).getD .skip
theorem s57_3 (N:Nat) {R:Type} (k:AExit->St->Option R) (t11:List Int) (t12:Int) (o0:Ye) (kb:List Yl->List Obj->Option R) (x:Int×List Int):z0w (x57 N) (z02 3 (z00 b57)) (St.of [(13,(.data .ya x.1)),(2,(.bptr 0 [])),(5,(.ref 1 [] 0)),(11,(.data .yb t11)),(12,(.data .ya t12))] [.cell (.data .yg o0),.row .ya x.2 0]) (z1m (x57 N) 3 ⟨[13,2,5,11,12],[]⟩ kb k)=zog N t11 t12 o0 (fun y=>kb [(13,(.data .ya y.1)),(2,(.bptr 0 [])),(5,(.ref 1 [] 0)),(11,(.data .yb t11)),(12,(.data .ya t12))] [.cell (.data .yg o0),.row .ya y.2 0])
  (fun y0=>k (.exit 0) (St.of [(5,(.ref 0 [] 0))] [.row .ya y0 0])) x:=by kernel_rfl
theorem l57_3 (N:Nat):z0n (x57 N) (z02 3 (z00 b57)):=
 z0h (G57_3 N) (by kernel_rfl) (by kernel_rfl) (by kernel_rfl) fun R k d=>
  z0g (st:=fun (x:Int×List Int)=>([(13,(.data .ya x.1)),(2,(.bptr 0 [])),(5,(.ref 1 [] 0)),(11,(.data .yb d.1.2.2.2.1)),(12,(.data .ya d.1.2.2.2.2.1))],[.cell (.data .yg d.2.1),.row .ya x.2 0])) (s57_3 N k d.1.2.2.2.1 d.1.2.2.2.2.1 d.2.1) N (d.1.1,d.2.2.1)
theorem e57 (N:Nat) (a0:Ye) (a1:List Int):z24 (x57 N) [.ym] [.tmp 4] b57 (entry (.pr (.val .yg) (.pr (.val .yb) .un)) (a0,(a1,())))=f57 N a0 a1:=by kernel_rfl
theorem k57 (N:Nat):z04 Go.Proofs.Try.prog 57 (c57 N):=
 z29 (fn:=Go.Proofs.Try.f57) (body:=b57) (c:=x57 N) Go.Proofs.Try.func57 (by kernel_rfl) (by kernel_rfl) ⟨ttL_ok,z0p,z0r,z0s,z0q,z03 (z01 (k84 N)) (z0e)⟩ mixed (by kernel_rfl) (zL (by kernel_rfl)) (by kernel_rfl) (by decide)
  (z0a (by kernel_rfl:z00 b57=[z02 3 (z00 b57)]) (.cons (l57_3 N) .nil)) fun d=>e57 N d.1 d.2.1
def zow {R:Type} (N:Nat) (t8:Int) (o1:Ye) (kb:Int×List Int->Option R) (kx0:Ya->Option R):Int×List Int->Option R:=
 fun (t9,o0)=>
  cond (decide (t9 < t8))
   (chk (decide ((Nat.succ (List.length o0))≤z38)) <|
   kb ((z0i (t9+1)),(o0++(t9 :: ([]:List Int)))))
   (kx0 o0)
def f21 (N:Nat) (a0:Ye):Option Ya:=
 iter (fun w=>zow N (len a0.2.1) a0 w
  (fun o0_1=>
   (f57 N a0 o0_1).bind fun r=>
   some r)) N (0,([]:List Int))
def c21 (N:Nat):Callee:=.pure (.pr (.val .yg) .un) [.ym] fun d=>f21 N d.1
def F21_3:SForm:=⟨[(9,(.val .ya)),(3,(.ref 0)),(1,(.bptr 1 [])),(8,(.val .ya))],[.row .ya,.cell (.val .yg)]⟩
def G21_3 (N:Nat):(R:Type)->F21_3.den->(AExit->St->Option R)->Option R:=fun R d k=>iter (fun kb=>zow N d.1.2.2.2.1 d.2.2.1 kb
  (fun y0=>k (.exit 0) (St.of [(3,(.ref 0 [] 0)),(1,(.bptr 1 []))] [.row .ya y0 0,.cell (.data .yg d.2.2.1)]))) N (d.1.1,d.2.1)
def lp21 (N:Nat):Nat->Option z0o:=fun r=>cond (Nat.beq r 3) (some fun R sl os k=>F21_3.take sl os fun d=>G21_3 N R d k) (none)
def x21 (N:Nat):Ctx:=(mkX N 20 [(57,[c57 N])] [(3,⟨[9,3,1,8],[]⟩)] [(3,[(0,⟨[3,1],[]⟩)])] ⟨[2],[]⟩ (fun _=>none) (lp21 N))
noncomputable def b21:Code:=((Go.Proofs.Try.f21).body).getD .skip
theorem s21_3 (N:Nat) {R:Type} (k:AExit->St->Option R) (t8:Int) (o1:Ye) (kb:List Yl->List Obj->Option R) (x:Int×List Int):z0w (x21 N) (z02 3 (z00 b21)) (St.of [(9,(.data .ya x.1)),(3,(.ref 0 [] 0)),(1,(.bptr 1 [])),(8,(.data .ya t8))] [.row .ya x.2 0,.cell (.data .yg o1)]) (z1m (x21 N) 3 ⟨[9,3,1,8],[]⟩ kb k)=zow N t8 o1 (fun y=>kb [(9,(.data .ya y.1)),(3,(.ref 0 [] 0)),(1,(.bptr 1 [])),(8,(.data .ya t8))] [.row .ya y.2 0,.cell (.data .yg o1)])
  (fun y0=>k (.exit 0) (St.of [(3,(.ref 0 [] 0)),(1,(.bptr 1 []))] [.row .ya y0 0,.cell (.data .yg o1)])) x:=by kernel_rfl
theorem l21_3 (N:Nat):z0n (x21 N) (z02 3 (z00 b21)):=
 z0h (G21_3 N) (by kernel_rfl) (by kernel_rfl) (by kernel_rfl) fun R k d=>
  z0g (st:=fun (x:Int×List Int)=>([(9,(.data .ya x.1)),(3,(.ref 0 [] 0)),(1,(.bptr 1 [])),(8,(.data .ya d.1.2.2.2.1))],[.row .ya x.2 0,.cell (.data .yg d.2.2.1)])) (s21_3 N k d.1.2.2.2.1 d.2.2.1) N (d.1.1,d.2.1)
theorem e21 (N:Nat) (a0:Ye):z24 (x21 N) [.ym] [.tmp 2] b21 (entry (.pr (.val .yg) .un) (a0,()))=f21 N a0:=by kernel_rfl
theorem k21 (N:Nat):z04 Go.Proofs.Try.prog 21 (c21 N):=
 z29 (fn:=Go.Proofs.Try.f21) (body:=b21) (c:=x21 N) Go.Proofs.Try.func21 (by kernel_rfl) (by kernel_rfl) ⟨ttL_ok,z0p,z0r,z0s,z0q,z03 (z01 (k57 N)) (z0e)⟩ mixed (by kernel_rfl) (zL (by kernel_rfl)) (by kernel_rfl) (by decide)
  (z0a (by kernel_rfl:z00 b21=[z02 3 (z00 b21)]) (.cons (l21_3 N) .nil)) fun d=>e21 N d.1
end
end Go.Kz
