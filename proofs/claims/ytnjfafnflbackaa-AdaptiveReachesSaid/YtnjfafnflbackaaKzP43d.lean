/-
  The functions of the program as plain functions on lists and numbers, and the proofs that the program computes them. Printed by a program.
-/
import Derived.Test.YtnjfafnflbackaaKzP43c
set_option linter.unusedSimpArgs false
set_option maxRecDepth 100000
set_option linter.unusedVariables false
namespace Go.Kz
open Go.Proofs
noncomputable section
def zjt {R:Type} (N:Nat) (t1_1:List Yk) (t5:Int) (t44:List Int) (t12_1:List Yk) (t13_1:Int) (t14_1:Int) (t45:Int) (o0_1:Ye) (kb:Int->Option R) (kret:Bool->Option R) (kx2:Unit->Option R):Int->Option R:=
 fun t46=>
  cond (decide (t46 < t45))
   ((idx t44 t46).bind fun x_2=>
   (cond (!(decide (x_2=(-1))))
     ((cond (decide (x_2≤t5))
       (some true)
       (some (decide ((len t1_1)≤x_2)))).bind fun b_2=>
     some b_2)
     (some false)).bind fun b_3=>
   cond b_3
    (kret false)
    (kb (z0k (t46+1))))
   (kx2 ())
def zju {R:Type} (N:Nat) (t1:List Yk) (t12:List Yk) (t13:Int) (o0:Ye) (kb:Int->Option R) (kret:Bool->Option R) (kx0:Unit->Option R):Int->Option R:=
 fun t14=>
  cond (decide (t14 < t13))
   ((idx t12 t14).bind fun x=>
   (cond (decide (x.1 < 0))
     (some true)
     (some (decide ((len o0.2.1)≤x.1)))).bind fun b=>
   (cond b
     (some true)
     ((idx o0.2.1 x.1).bind fun x_1=>
     (f44 N x_1).bind fun r=>
     some (!(decide ((len x.2.1)=r))))).bind fun b_1=>
   cond b_1
    (kret false)
    (iter (fun w=>zjt N t1 t14 x.2.1 t12 t13 t14 (len x.2.1) o0 w
     (fun t4=>
      kret t4)
     (fun (_:Unit)=>
      kb (z0k (t14+1)))) N 0))
   (kx0 ())
def f16 (N:Nat) (a0:Ye) (a1:List Yk):Option (Bool):=
 cond (decide (256 < (len a1)))
  (some false)
  (iter (fun w=>zju N a1 a1 (len a1) a0 w
   (fun t4_1=>
    some t4_1)
   (fun (_:Unit)=>
    some true)) N 0)
def c16 (N:Nat):Callee:=.pure (.pr (.val .yg) (.pr (.val .yk) .un)) [.bool] fun d=>f16 N d.1 d.2.1
def F16_9:SForm:=⟨[(46,(.val .ya)),(1,(.val .yk)),(5,(.val .ya)),(44,(.val .yb)),(2,(.bptr 0 [])),(12,(.val .yk)),(13,(.val .ya)),(14,(.val .ya)),(45,(.val .ya))],[.cell (.val .yg)]⟩
def G16_9 (N:Nat):(R:Type)->F16_9.den->(AExit->St->Option R)->Option R:=fun R d k=>iter (fun kb=>zjt N d.1.2.1 d.1.2.2.1 d.1.2.2.2.1 d.1.2.2.2.2.2.1 d.1.2.2.2.2.2.2.1 d.1.2.2.2.2.2.2.2.1 d.1.2.2.2.2.2.2.2.2.1 d.2.1 kb
  (fun y0=>k .ret (St.of [(4,(.data .bool y0))] []))
  (fun _=>k (.exit 2) (St.of [(1,(.data .yk d.1.2.1)),(2,(.bptr 0 [])),(12,(.data .yk d.1.2.2.2.2.2.1)),(13,(.data .ya d.1.2.2.2.2.2.2.1)),(14,(.data .ya d.1.2.2.2.2.2.2.2.1))] [.cell (.data .yg d.2.1)]))) N d.1.1
def F16_4:SForm:=⟨[(1,(.val .yk)),(14,(.val .ya)),(2,(.bptr 0 [])),(12,(.val .yk)),(13,(.val .ya))],[.cell (.val .yg)]⟩
def G16_4 (N:Nat):(R:Type)->F16_4.den->(AExit->St->Option R)->Option R:=fun R d k=>iter (fun kb=>zju N d.1.1 d.1.2.2.2.1 d.1.2.2.2.2.1 d.2.1 kb
  (fun y0=>k .ret (St.of [(4,(.data .bool y0))] []))
  (fun _=>k (.exit 0) (St.of [] []))) N d.1.2.1
def lp16 (N:Nat):Nat->Option z0n:=fun r=>cond (Nat.beq r 9) (some fun R sl os k=>F16_9.take sl os fun d=>G16_9 N R d k) (cond (Nat.beq r 4) (some fun R sl os k=>F16_4.take sl os fun d=>G16_4 N R d k) (none))
def x16 (N:Nat):Ctx:=(mkX N 65 [(44,[c44 N])] [(4,⟨[1,14,2,12,13],[]⟩),(9,⟨[46,1,5,44,2,12,13,14,45],[]⟩)] [(4,[(0,⟨[],[]⟩)]),(9,[(2,⟨[1,2,12,13,14],[]⟩)])] ⟨[4],[]⟩ (fun _=>none) (lp16 N))
noncomputable def b16:Code:=((Go.Proofs.Try.f16).body).getD .skip
theorem s16_9 (N:Nat) {R:Type} (k:AExit->St->Option R) (t1_1:List Yk) (t5:Int) (t44:List Int) (t12_1:List Yk) (t13_1:Int) (t14_1:Int) (t45:Int) (o0_1:Ye) (kb:List Yl->List Obj->Option R) (x:Int):z0v (x16 N) (z02 9 (z00 b16)) (St.of [(46,(.data .ya x)),(1,(.data .yk t1_1)),(5,(.data .ya t5)),(44,(.data .yb t44)),(2,(.bptr 0 [])),(12,(.data .yk t12_1)),(13,(.data .ya t13_1)),(14,(.data .ya t14_1)),(45,(.data .ya t45))] [.cell (.data .yg o0_1)]) (z1j (x16 N) 9 ⟨[46,1,5,44,2,12,13,14,45],[]⟩ kb k)=zjt N t1_1 t5 t44 t12_1 t13_1 t14_1 t45 o0_1 (fun y=>kb [(46,(.data .ya y)),(1,(.data .yk t1_1)),(5,(.data .ya t5)),(44,(.data .yb t44)),(2,(.bptr 0 [])),(12,(.data .yk t12_1)),(13,(.data .ya t13_1)),(14,(.data .ya t14_1)),(45,(.data .ya t45))] [.cell (.data .yg o0_1)])
  (fun y0=>k .ret (St.of [(4,(.data .bool y0))] []))
  (fun _=>k (.exit 2) (St.of [(1,(.data .yk t1_1)),(2,(.bptr 0 [])),(12,(.data .yk t12_1)),(13,(.data .ya t13_1)),(14,(.data .ya t14_1))] [.cell (.data .yg o0_1)])) x:=by kernel_rfl
theorem l16_9 (N:Nat):z0l (x16 N) (z02 9 (z00 b16)):=
 z0h (G16_9 N) (by kernel_rfl) (by kernel_rfl) (by kernel_rfl) fun R k d=>
  z0g (st:=fun (x:Int)=>([(46,(.data .ya x)),(1,(.data .yk d.1.2.1)),(5,(.data .ya d.1.2.2.1)),(44,(.data .yb d.1.2.2.2.1)),(2,(.bptr 0 [])),(12,(.data .yk d.1.2.2.2.2.2.1)),(13,(.data .ya d.1.2.2.2.2.2.2.1)),(14,(.data .ya d.1.2.2.2.2.2.2.2.1)),(45,(.data .ya d.1.2.2.2.2.2.2.2.2.1))],[.cell (.data .yg d.2.1)])) (s16_9 N k d.1.2.1 d.1.2.2.1 d.1.2.2.2.1 d.1.2.2.2.2.2.1 d.1.2.2.2.2.2.2.1 d.1.2.2.2.2.2.2.2.1 d.1.2.2.2.2.2.2.2.2.1 d.2.1) N d.1.1
theorem s16_4 (N:Nat) {R:Type} (k:AExit->St->Option R) (t1:List Yk) (t12:List Yk) (t13:Int) (o0:Ye) (kb:List Yl->List Obj->Option R) (x:Int):z0v (x16 N) (z02 4 (z00 b16)) (St.of [(1,(.data .yk t1)),(14,(.data .ya x)),(2,(.bptr 0 [])),(12,(.data .yk t12)),(13,(.data .ya t13))] [.cell (.data .yg o0)]) (z1j (x16 N) 4 ⟨[1,14,2,12,13],[]⟩ kb k)=zju N t1 t12 t13 o0 (fun y=>kb [(1,(.data .yk t1)),(14,(.data .ya y)),(2,(.bptr 0 [])),(12,(.data .yk t12)),(13,(.data .ya t13))] [.cell (.data .yg o0)])
  (fun y0=>k .ret (St.of [(4,(.data .bool y0))] []))
  (fun _=>k (.exit 0) (St.of [] [])) x:=by kernel_rfl
theorem l16_4 (N:Nat):z0l (x16 N) (z02 4 (z00 b16)):=
 z0h (G16_4 N) (by kernel_rfl) (by kernel_rfl) (by kernel_rfl) fun R k d=>
  z0g (st:=fun (x:Int)=>([(1,(.data .yk d.1.1)),(14,(.data .ya x)),(2,(.bptr 0 [])),(12,(.data .yk d.1.2.2.2.1)),(13,(.data .ya d.1.2.2.2.2.1))],[.cell (.data .yg d.2.1)])) (s16_4 N k d.1.1 d.1.2.2.2.1 d.1.2.2.2.2.1 d.2.1) N d.1.2.1
theorem e16 (N:Nat) (a0:Ye) (a1:List Yk):z1u (x16 N) [.bool] [.tmp 4] b16 (entry (.pr (.val .yg) (.pr (.val .yk) .un)) (a0,(a1,())))=f16 N a0 a1:=by kernel_rfl
theorem k16 (N:Nat):z04 Go.Proofs.Try.prog 16 (c16 N):=
 z1w (fn:=Go.Proofs.Try.f16) (body:=b16) (c:=x16 N) Go.Proofs.Try.func16 (by kernel_rfl) (by kernel_rfl) ⟨ttL_ok,z0o,z0q,z0r,z0p,z03 (z01 (k44 N)) (z0e)⟩ mixed (by kernel_rfl) (zL (by kernel_rfl)) (by kernel_rfl) (by decide)
  (z0a (by kernel_rfl:z00 b16=[z02 4 (z00 b16),z02 9 (z00 b16)]) (.cons (l16_4 N) (.cons (l16_9 N) .nil))) fun d=>e16 N d.1 d.2.1
def zjr {R:Type} (N:Nat) (t2:Int) (t1:List Yk) (o1:Ye) (kb:Int×Yw->Option R) (kx0:Yw->Option R):Int×Yw->Option R:=
 fun (t8,o0)=>
  cond (!(decide (t8=(-1))))
   ((idx t1 t8).bind fun x=>
   (idx o1.2.1 x.1).bind fun x_1=>
   (idx x_1 t2).bind fun x_2=>
   chk (decide ((Nat.succ (List.length o0))≤z3k)) <|
   (idx x.2.1 x_2).bind fun x_3=>
   kb (x_3,(o0++((x.1,(x_2,())) :: ([]:List Yd)))))
   (kx0 o0)
def f45 (N:Nat) (a0:Ye) (a1:List Yk) (a2:Int):Option Yw:=
 cond (decide ((len a1)=0))
  (iter (fun w=>zjr N a2 a1 a0 w
   (fun o0_1=>
    some o0_1)) N ((-1),([]:List Yd)))
  (iter (fun w=>zjr N a2 a1 a0 w
   (fun o0_2=>
    some o0_2)) N (0,([]:List Yd)))
def c45 (N:Nat):Callee:=.pure (.pr (.val .yg) (.pr (.val .yk) (.pr (.val .ya) .un))) [.yn] fun d=>f45 N d.1 d.2.1 d.2.2.1
def F45_5:SForm:=⟨[(7,(.ref 0)),(2,(.val .ya)),(3,(.bptr 1 [])),(8,(.val .ya)),(1,(.val .yk))],[.row .yf,.cell (.val .yg)]⟩
def G45_5 (N:Nat):(R:Type)->F45_5.den->(AExit->St->Option R)->Option R:=fun R d k=>iter (fun kb=>zjr N d.1.2.1 d.1.2.2.2.2.1 d.2.2.1 kb
  (fun y0=>k (.exit 0) (St.of [(7,(.ref 0 [] 0))] [.row .yf y0 0]))) N (d.1.2.2.2.1,d.2.1)
def lp45 (N:Nat):Nat->Option z0n:=fun r=>cond (Nat.beq r 5) (some fun R sl os k=>F45_5.take sl os fun d=>G45_5 N R d k) (none)
def x45 (N:Nat):Ctx:=(mkX N 43 [] [(5,⟨[7,2,3,8,1],[]⟩)] [(5,[(0,⟨[7],[]⟩)])] ⟨[6],[]⟩ (fun _=>none) (lp45 N))
noncomputable def b45:Code:=((Go.Proofs.Try.f45).body).getD .skip
theorem s45_5 (N:Nat) {R:Type} (k:AExit->St->Option R) (t2:Int) (t1:List Yk) (o1:Ye) (kb:List Yl->List Obj->Option R) (x:Int×Yw):z0v (x45 N) (z02 5 (z00 b45)) (St.of [(7,(.ref 0 [] 0)),(2,(.data .ya t2)),(3,(.bptr 1 [])),(8,(.data .ya x.1)),(1,(.data .yk t1))] [.row .yf x.2 0,.cell (.data .yg o1)]) (z1j (x45 N) 5 ⟨[7,2,3,8,1],[]⟩ kb k)=zjr N t2 t1 o1 (fun y=>kb [(7,(.ref 0 [] 0)),(2,(.data .ya t2)),(3,(.bptr 1 [])),(8,(.data .ya y.1)),(1,(.data .yk t1))] [.row .yf y.2 0,.cell (.data .yg o1)])
  (fun y0=>k (.exit 0) (St.of [(7,(.ref 0 [] 0))] [.row .yf y0 0])) x:=by kernel_rfl
theorem l45_5 (N:Nat):z0l (x45 N) (z02 5 (z00 b45)):=
 z0h (G45_5 N) (by kernel_rfl) (by kernel_rfl) (by kernel_rfl) fun R k d=>
  z0g (st:=fun (x:Int×Yw)=>([(7,(.ref 0 [] 0)),(2,(.data .ya d.1.2.1)),(3,(.bptr 1 [])),(8,(.data .ya x.1)),(1,(.data .yk d.1.2.2.2.2.1))],[.row .yf x.2 0,.cell (.data .yg d.2.2.1)])) (s45_5 N k d.1.2.1 d.1.2.2.2.2.1 d.2.2.1) N (d.1.2.2.2.1,d.2.1)
theorem e45 (N:Nat) (a0:Ye) (a1:List Yk) (a2:Int):z1u (x45 N) [.yn] [.tmp 6] b45 (entry (.pr (.val .yg) (.pr (.val .yk) (.pr (.val .ya) .un))) (a0,(a1,(a2,()))))=f45 N a0 a1 a2:=by kernel_rfl
theorem k45 (N:Nat):z04 Go.Proofs.Try.prog 45 (c45 N):=
 z1w (fn:=Go.Proofs.Try.f45) (body:=b45) (c:=x45 N) Go.Proofs.Try.func45 (by kernel_rfl) (by kernel_rfl) ⟨ttL_ok,z0o,z0q,z0r,z0p,z0e⟩ mixed (by kernel_rfl) (zL (by kernel_rfl)) (by kernel_rfl) (by decide)
  (z0a (by kernel_rfl:z00 b45=[z02 5 (z00 b45)]) (.cons (l45_5 N) .nil)) fun d=>e45 N d.1 d.2.1 d.2.2.1
def zob {R:Type} (N:Nat) (t1:List Yd) (t0:List Yd) (t12:Int) (kb:Int->Option R) (kret:Bool->Option R) (kx0:Unit->Option R):Int->Option R:=
 fun t13=>
  cond (decide (t13 < t12))
   ((idx t0 t13).bind fun x=>
   (idx t1 t13).bind fun x_1=>
   cond (!(eqD .yf x x_1))
    (kret false)
    (kb (z0k (t13+1))))
   (kx0 ())
def f46 (N:Nat) (a0:List Yd) (a1:List Yd):Option (Bool):=
 cond (!(decide ((len a0)=(len a1))))
  (some false)
  (iter (fun w=>zob N a1 a0 (len a0) w
   (fun t4=>
    some t4)
   (fun (_:Unit)=>
    some true)) N 0)
def c46 (N:Nat):Callee:=.pure (.pr (.val .yn) (.pr (.val .yn) .un)) [.bool] fun d=>f46 N d.1 d.2.1
def F46_4:SForm:=⟨[(13,(.val .ya)),(1,(.val .yn)),(0,(.val .yn)),(12,(.val .ya))],[]⟩
def G46_4 (N:Nat):(R:Type)->F46_4.den->(AExit->St->Option R)->Option R:=fun R d k=>iter (fun kb=>zob N d.1.2.1 d.1.2.2.1 d.1.2.2.2.1 kb
  (fun y0=>k .ret (St.of [(4,(.data .bool y0))] []))
  (fun _=>k (.exit 0) (St.of [] []))) N d.1.1
def lp46 (N:Nat):Nat->Option z0n:=fun r=>cond (Nat.beq r 4) (some fun R sl os k=>F46_4.take sl os fun d=>G46_4 N R d k) (none)
def x46 (N:Nat):Ctx:=(mkX N 26 [] [(4,⟨[13,1,0,12],[]⟩)] [(4,[(0,⟨[],[]⟩)])] ⟨[4],[]⟩ (fun _=>none) (lp46 N))
noncomputable def b46:Code:=((Go.Proofs.Try.f46).body).getD .skip
theorem s46_4 (N:Nat) {R:Type} (k:AExit->St->Option R) (t1:List Yd) (t0:List Yd) (t12:Int) (kb:List Yl->List Obj->Option R) (x:Int):z0v (x46 N) (z02 4 (z00 b46)) (St.of [(13,(.data .ya x)),(1,(.data .yn t1)),(0,(.data .yn t0)),(12,(.data .ya t12))] []) (z1j (x46 N) 4 ⟨[13,1,0,12],[]⟩ kb k)=zob N t1 t0 t12 (fun y=>kb [(13,(.data .ya y)),(1,(.data .yn t1)),(0,(.data .yn t0)),(12,(.data .ya t12))] [])
  (fun y0=>k .ret (St.of [(4,(.data .bool y0))] []))
  (fun _=>k (.exit 0) (St.of [] [])) x:=by kernel_rfl
theorem l46_4 (N:Nat):z0l (x46 N) (z02 4 (z00 b46)):=
 z0h (G46_4 N) (by kernel_rfl) (by kernel_rfl) (by kernel_rfl) fun R k d=>
  z0g (st:=fun (x:Int)=>([(13,(.data .ya x)),(1,(.data .yn d.1.2.1)),(0,(.data .yn d.1.2.2.1)),(12,(.data .ya d.1.2.2.2.1))],[])) (s46_4 N k d.1.2.1 d.1.2.2.1 d.1.2.2.2.1) N d.1.1
theorem e46 (N:Nat) (a0:List Yd) (a1:List Yd):z1u (x46 N) [.bool] [.tmp 4] b46 (entry (.pr (.val .yn) (.pr (.val .yn) .un)) (a0,(a1,())))=f46 N a0 a1:=by kernel_rfl
theorem k46 (N:Nat):z04 Go.Proofs.Try.prog 46 (c46 N):=
 z1w (fn:=Go.Proofs.Try.f46) (body:=b46) (c:=x46 N) Go.Proofs.Try.func46 (by kernel_rfl) (by kernel_rfl) ⟨ttL_ok,z0o,z0q,z0r,z0p,z0e⟩ mixed (by kernel_rfl) (zL (by kernel_rfl)) (by kernel_rfl) (by decide)
  (z0a (by kernel_rfl:z00 b46=[z02 4 (z00 b46)]) (.cons (l46_4 N) .nil)) fun d=>e46 N d.1 d.2.1
def zt3 {R:Type} (N:Nat) (t5_1:Int) (t0_1:List Int) (t4_1:Int) (o0_1:List Int) (kb:Int×Int->Option R) (kx2:Int->Option R):Int×Int->Option R:=
 fun (t7,t6)=>
  cond (decide (t7 < t5_1))
   ((idx t0_1 t7).bind fun x=>
   (idx t0_1 t5_1).bind fun x_1=>
   cond (decide (x=x_1))
    (chk (inb o0_1 t7) <|
    (idx o0_1 t7).bind fun x_2=>
    kb ((z0k (t7+1)),x_2))
    (kb ((z0k (t7+1)),t6)))
   (kx2 t6)
def zt4 {R:Type} (N:Nat) (t0:List Int) (kb:Int×Int×List Int->Option R) (kx0:Ya->Option R):Int×Int×List Int->Option R:=
 fun (t5,t4,o0)=>
  cond (decide (t5 < (len t0)))
   (iter (fun w=>zt3 N t5 t0 t4 o0 w
    (fun t6_1=>
     cond (decide (t6_1=t4))
      (chk (decide ((Nat.succ (List.length o0))≤z3k)) <|
      kb ((z0k (t5+1)),(z0k (t4+1)),(o0++(t6_1 :: ([]:List Int)))))
      (chk (decide ((Nat.succ (List.length o0))≤z3k)) <|
      kb ((z0k (t5+1)),t4,(o0++(t6_1 :: ([]:List Int))))))) N (0,t4))
   (kx0 o0)
def f47 (N:Nat) (a0:List Int):Option Ya:=
 iter (fun w=>zt4 N a0 w
  (fun o0_2=>
   some o0_2)) N (0,0,([]:List Int))
def c47 (N:Nat):Callee:=.pure (.pr (.val .yb) .un) [.ym] fun d=>f47 N d.1
def F47_8:SForm:=⟨[(7,(.val .ya)),(3,(.ref 0)),(5,(.val .ya)),(0,(.val .yb)),(6,(.val .ya)),(4,(.val .ya))],[.row .ya]⟩
def G47_8 (N:Nat):(R:Type)->F47_8.den->(AExit->St->Option R)->Option R:=fun R d k=>iter (fun kb=>zt3 N d.1.2.2.1 d.1.2.2.2.1 d.1.2.2.2.2.2.1 d.2.1 kb
  (fun y2=>k (.exit 2) (St.of [(0,(.data .yb d.1.2.2.2.1)),(5,(.data .ya d.1.2.2.1)),(6,(.data .ya y2)),(3,(.ref 0 [] 0)),(4,(.data .ya d.1.2.2.2.2.2.1))] [.row .ya d.2.1 0]))) N (d.1.1,d.1.2.2.2.2.1)
def F47_4:SForm:=⟨[(3,(.ref 0)),(5,(.val .ya)),(0,(.val .yb)),(4,(.val .ya))],[.row .ya]⟩
def G47_4 (N:Nat):(R:Type)->F47_4.den->(AExit->St->Option R)->Option R:=fun R d k=>iter (fun kb=>zt4 N d.1.2.2.1 kb
  (fun y0=>k (.exit 0) (St.of [(3,(.ref 0 [] 0))] [.row .ya y0 0]))) N (d.1.2.1,d.1.2.2.2.1,d.2.1)
def lp47 (N:Nat):Nat->Option z0n:=fun r=>cond (Nat.beq r 8) (some fun R sl os k=>F47_8.take sl os fun d=>G47_8 N R d k) (cond (Nat.beq r 4) (some fun R sl os k=>F47_4.take sl os fun d=>G47_4 N R d k) (none))
def x47 (N:Nat):Ctx:=(mkX N 43 [] [(4,⟨[3,5,0,4],[(3,none,.row .ya)]⟩),(8,⟨[7,3,5,0,6,4],[]⟩)] [(4,[(0,⟨[3],[]⟩)]),(8,[(2,⟨[0,5,6,3,4],[]⟩)])] ⟨[2],[]⟩ (fun _=>none) (lp47 N))
noncomputable def b47:Code:=((Go.Proofs.Try.f47).body).getD .skip
theorem s47_8 (N:Nat) {R:Type} (k:AExit->St->Option R) (t5_1:Int) (t0_1:List Int) (t4_1:Int) (o0_1:List Int) (kb:List Yl->List Obj->Option R) (x:Int×Int):z0v (x47 N) (z02 8 (z00 b47)) (St.of [(7,(.data .ya x.1)),(3,(.ref 0 [] 0)),(5,(.data .ya t5_1)),(0,(.data .yb t0_1)),(6,(.data .ya x.2)),(4,(.data .ya t4_1))] [.row .ya o0_1 0]) (z1j (x47 N) 8 ⟨[7,3,5,0,6,4],[]⟩ kb k)=zt3 N t5_1 t0_1 t4_1 o0_1 (fun y=>kb [(7,(.data .ya y.1)),(3,(.ref 0 [] 0)),(5,(.data .ya t5_1)),(0,(.data .yb t0_1)),(6,(.data .ya y.2)),(4,(.data .ya t4_1))] [.row .ya o0_1 0])
  (fun y2=>k (.exit 2) (St.of [(0,(.data .yb t0_1)),(5,(.data .ya t5_1)),(6,(.data .ya y2)),(3,(.ref 0 [] 0)),(4,(.data .ya t4_1))] [.row .ya o0_1 0])) x:=by kernel_rfl
theorem l47_8 (N:Nat):z0l (x47 N) (z02 8 (z00 b47)):=
 z0h (G47_8 N) (by kernel_rfl) (by kernel_rfl) (by kernel_rfl) fun R k d=>
  z0g (st:=fun (x:Int×Int)=>([(7,(.data .ya x.1)),(3,(.ref 0 [] 0)),(5,(.data .ya d.1.2.2.1)),(0,(.data .yb d.1.2.2.2.1)),(6,(.data .ya x.2)),(4,(.data .ya d.1.2.2.2.2.2.1))],[.row .ya d.2.1 0])) (s47_8 N k d.1.2.2.1 d.1.2.2.2.1 d.1.2.2.2.2.2.1 d.2.1) N (d.1.1,d.1.2.2.2.2.1)
theorem s47_4 (N:Nat) {R:Type} (k:AExit->St->Option R) (t0:List Int) (kb:List Yl->List Obj->Option R) (x:Int×Int×List Int):z0v (x47 N) (z02 4 (z00 b47)) (St.of [(3,(.ref 0 [] 0)),(5,(.data .ya x.1)),(0,(.data .yb t0)),(4,(.data .ya x.2.1))] [.row .ya x.2.2 0]) (z1j (x47 N) 4 ⟨[3,5,0,4],[(3,none,.row .ya)]⟩ kb k)=zt4 N t0 (fun y=>kb [(3,(.ref 0 [] 0)),(5,(.data .ya y.1)),(0,(.data .yb t0)),(4,(.data .ya y.2.1))] [.row .ya y.2.2 0])
  (fun y0=>k (.exit 0) (St.of [(3,(.ref 0 [] 0))] [.row .ya y0 0])) x:=by kernel_rfl
theorem l47_4 (N:Nat):z0l (x47 N) (z02 4 (z00 b47)):=
 z0h (G47_4 N) (by kernel_rfl) (by kernel_rfl) (by kernel_rfl) fun R k d=>
  z0g (st:=fun (x:Int×Int×List Int)=>([(3,(.ref 0 [] 0)),(5,(.data .ya x.1)),(0,(.data .yb d.1.2.2.1)),(4,(.data .ya x.2.1))],[.row .ya x.2.2 0])) (s47_4 N k d.1.2.2.1) N (d.1.2.1,d.1.2.2.2.1,d.2.1)
theorem e47 (N:Nat) (a0:List Int):z1u (x47 N) [.ym] [.tmp 2] b47 (entry (.pr (.val .yb) .un) (a0,()))=f47 N a0:=by kernel_rfl
theorem k47 (N:Nat):z04 Go.Proofs.Try.prog 47 (c47 N):=
 z1w (fn:=Go.Proofs.Try.f47) (body:=b47) (c:=x47 N) Go.Proofs.Try.func47 (by kernel_rfl) (by kernel_rfl) ⟨ttL_ok,z0o,z0q,z0r,z0p,z0e⟩ mixed (by kernel_rfl) (zL (by kernel_rfl)) (by kernel_rfl) (by decide)
  (z0a (by kernel_rfl:z00 b47=[z02 4 (z00 b47),z02 8 (z00 b47)]) (.cons (l47_4 N) (.cons (l47_8 N) .nil))) fun d=>e47 N d.1
def zh9 {R:Type} (N:Nat) (t10:List Yd) (t8_1:Int) (t1_1:List Yk) (t16_1:Int) (t17_1:Int) (t33:Int) (o0_1:List Int) (o1_1:List Yw) (o2_1:Ye) (kb:Int×Int->Option R) (kx2:Int->Option R):Int×Int->Option R:=
 fun (t34,t11)=>
  cond (decide (t34 < t33))
   (chk (inb o1_1 t34) <|
   (idx o1_1 t34).bind fun x=>
   (f46 N x t10).bind fun r_1=>
   cond r_1
    (chk (inb o0_1 t34) <|
    (idx o0_1 t34).bind fun x_1=>
    kb ((z0k (t34+1)),x_1))
    (kb ((z0k (t34+1)),t11)))
   (kx2 t11)
def zoo {R:Type} (N:Nat) (t1:List Yk) (t16:Int) (o2:Ye) (kb:Int×Int×List Int×(List Yw)->Option R) (kx0:Int->Ya->Option R):Int×Int×List Int×(List Yw)->Option R:=
 fun (t17,t8,o0,o1)=>
  cond (decide (t17 < t16))
   ((f45 N o2 t1 t17).bind fun r=>
   chk (decide ((Nat.succ (List.length o1))≤z3k)) <|
   iter (fun w=>zh9 N r (zps t8 (len r)) t1 t16 t17 t17 o0 (o1++(r :: ([]:List Yw))) o2 w
    (fun t11_1=>
     chk (decide ((Nat.succ (List.length o0))≤z3k)) <|
     kb ((z0k (t17+1)),(zps t8 (len r)),(o0++(t11_1 :: ([]:List Int))),(o1++(r :: ([]:List Yw)))))) N (0,t17))
   (kx0 t8 o0)
def f17 (N:Nat) (a0:Ye) (a1:List Yk):Option (List Int×Int):=
 iter (fun w=>zoo N a1 a0.1 a0 w
  (fun t8_2 o0_2=>
   (f47 N o0_2).bind fun r_2=>
   some (r_2,t8_2))) N (0,0,([]:List Int),([]:List Yw))
def c17 (N:Nat):Callee:=.pure (.pr (.val .yg) (.pr (.val .yk) .un)) [.ym,.ya] fun d=>f17 N d.1 d.2.1
def F17_12:SForm:=⟨[(34,(.val .ya)),(6,(.ref 0)),(10,(.val .yn)),(7,(.ref 1)),(8,(.val .ya)),(1,(.val .yk)),(2,(.bptr 2 [])),(16,(.val .ya)),(17,(.val .ya)),(11,(.val .ya)),(33,(.val .ya))],[.row .ya,.row .yn,.cell (.val .yg)]⟩
def G17_12 (N:Nat):(R:Type)->F17_12.den->(AExit->St->Option R)->Option R:=fun R d k=>iter (fun kb=>zh9 N d.1.2.2.1 d.1.2.2.2.2.1 d.1.2.2.2.2.2.1 d.1.2.2.2.2.2.2.2.1 d.1.2.2.2.2.2.2.2.2.1 d.1.2.2.2.2.2.2.2.2.2.2.1 d.2.1 d.2.2.1 d.2.2.2.1 kb
  (fun y4=>k (.exit 2) (St.of [(8,(.data .ya d.1.2.2.2.2.1)),(7,(.ref 0 [] 0)),(1,(.data .yk d.1.2.2.2.2.2.1)),(2,(.bptr 1 [])),(16,(.data .ya d.1.2.2.2.2.2.2.2.1)),(17,(.data .ya d.1.2.2.2.2.2.2.2.2.1)),(11,(.data .ya y4)),(6,(.ref 2 [] 0))] [.row .yn d.2.2.1 0,.cell (.data .yg d.2.2.2.1),.row .ya d.2.1 0]))) N (d.1.1,d.1.2.2.2.2.2.2.2.2.2.1)
def F17_5:SForm:=⟨[(6,(.ref 0)),(17,(.val .ya)),(8,(.val .ya)),(7,(.ref 1)),(1,(.val .yk)),(2,(.bptr 2 [])),(16,(.val .ya))],[.row .ya,.row .yn,.cell (.val .yg)]⟩
def G17_5 (N:Nat):(R:Type)->F17_5.den->(AExit->St->Option R)->Option R:=fun R d k=>iter (fun kb=>zoo N d.1.2.2.2.2.1 d.1.2.2.2.2.2.2.1 d.2.2.2.1 kb
  (fun y0 y1=>k (.exit 0) (St.of [(8,(.data .ya y0)),(6,(.ref 0 [] 0))] [.row .ya y1 0]))) N (d.1.2.1,d.1.2.2.1,d.2.1,d.2.2.1)
def lp17 (N:Nat):Nat->Option z0n:=fun r=>cond (Nat.beq r 12) (some fun R sl os k=>F17_12.take sl os fun d=>G17_12 N R d k) (cond (Nat.beq r 5) (some fun R sl os k=>F17_5.take sl os fun d=>G17_5 N R d k) (none))
def x17 (N:Nat):Ctx:=(mkX N 56 [(45,[c45 N]),(46,[c46 N]),(47,[c47 N])] [(5,⟨[6,17,8,7,1,2,16],[]⟩),(12,⟨[34,6,10,7,8,1,2,16,17,11,33],[]⟩)] [(5,[(0,⟨[8,6],[]⟩)]),(12,[(2,⟨[8,7,1,2,16,17,11,6],[]⟩)])] ⟨[4,5],[]⟩ (fun _=>none) (lp17 N))
noncomputable def b17:Code:=((Go.Proofs.Try.f17).body).getD .skip
theorem s17_12 (N:Nat) {R:Type} (k:AExit->St->Option R) (t10:List Yd) (t8_1:Int) (t1_1:List Yk) (t16_1:Int) (t17_1:Int) (t33:Int) (o0_1:List Int) (o1_1:List Yw) (o2_1:Ye) (kb:List Yl->List Obj->Option R) (x:Int×Int):z0v (x17 N) (z02 12 (z00 b17)) (St.of [(34,(.data .ya x.1)),(6,(.ref 0 [] 0)),(10,(.data .yn t10)),(7,(.ref 1 [] 0)),(8,(.data .ya t8_1)),(1,(.data .yk t1_1)),(2,(.bptr 2 [])),(16,(.data .ya t16_1)),(17,(.data .ya t17_1)),(11,(.data .ya x.2)),(33,(.data .ya t33))] [.row .ya o0_1 0,.row .yn o1_1 0,.cell (.data .yg o2_1)]) (z1j (x17 N) 12 ⟨[34,6,10,7,8,1,2,16,17,11,33],[]⟩ kb k)=zh9 N t10 t8_1 t1_1 t16_1 t17_1 t33 o0_1 o1_1 o2_1 (fun y=>kb [(34,(.data .ya y.1)),(6,(.ref 0 [] 0)),(10,(.data .yn t10)),(7,(.ref 1 [] 0)),(8,(.data .ya t8_1)),(1,(.data .yk t1_1)),(2,(.bptr 2 [])),(16,(.data .ya t16_1)),(17,(.data .ya t17_1)),(11,(.data .ya y.2)),(33,(.data .ya t33))] [.row .ya o0_1 0,.row .yn o1_1 0,.cell (.data .yg o2_1)])
  (fun y4=>k (.exit 2) (St.of [(8,(.data .ya t8_1)),(7,(.ref 0 [] 0)),(1,(.data .yk t1_1)),(2,(.bptr 1 [])),(16,(.data .ya t16_1)),(17,(.data .ya t17_1)),(11,(.data .ya y4)),(6,(.ref 2 [] 0))] [.row .yn o1_1 0,.cell (.data .yg o2_1),.row .ya o0_1 0])) x:=by kernel_rfl
theorem l17_12 (N:Nat):z0l (x17 N) (z02 12 (z00 b17)):=
 z0h (G17_12 N) (by kernel_rfl) (by kernel_rfl) (by kernel_rfl) fun R k d=>
  z0g (st:=fun (x:Int×Int)=>([(34,(.data .ya x.1)),(6,(.ref 0 [] 0)),(10,(.data .yn d.1.2.2.1)),(7,(.ref 1 [] 0)),(8,(.data .ya d.1.2.2.2.2.1)),(1,(.data .yk d.1.2.2.2.2.2.1)),(2,(.bptr 2 [])),(16,(.data .ya d.1.2.2.2.2.2.2.2.1)),(17,(.data .ya d.1.2.2.2.2.2.2.2.2.1)),(11,(.data .ya x.2)),(33,(.data .ya d.1.2.2.2.2.2.2.2.2.2.2.1))],[.row .ya d.2.1 0,.row .yn d.2.2.1 0,.cell (.data .yg d.2.2.2.1)])) (s17_12 N k d.1.2.2.1 d.1.2.2.2.2.1 d.1.2.2.2.2.2.1 d.1.2.2.2.2.2.2.2.1 d.1.2.2.2.2.2.2.2.2.1 d.1.2.2.2.2.2.2.2.2.2.2.1 d.2.1 d.2.2.1 d.2.2.2.1) N (d.1.1,d.1.2.2.2.2.2.2.2.2.2.1)
theorem s17_5 (N:Nat) {R:Type} (k:AExit->St->Option R) (t1:List Yk) (t16:Int) (o2:Ye) (kb:List Yl->List Obj->Option R) (x:Int×Int×List Int×(List Yw)):z0v (x17 N) (z02 5 (z00 b17)) (St.of [(6,(.ref 0 [] 0)),(17,(.data .ya x.1)),(8,(.data .ya x.2.1)),(7,(.ref 1 [] 0)),(1,(.data .yk t1)),(2,(.bptr 2 [])),(16,(.data .ya t16))] [.row .ya x.2.2.1 0,.row .yn x.2.2.2 0,.cell (.data .yg o2)]) (z1j (x17 N) 5 ⟨[6,17,8,7,1,2,16],[]⟩ kb k)=zoo N t1 t16 o2 (fun y=>kb [(6,(.ref 0 [] 0)),(17,(.data .ya y.1)),(8,(.data .ya y.2.1)),(7,(.ref 1 [] 0)),(1,(.data .yk t1)),(2,(.bptr 2 [])),(16,(.data .ya t16))] [.row .ya y.2.2.1 0,.row .yn y.2.2.2 0,.cell (.data .yg o2)])
  (fun y0 y1=>k (.exit 0) (St.of [(8,(.data .ya y0)),(6,(.ref 0 [] 0))] [.row .ya y1 0])) x:=by kernel_rfl
theorem l17_5 (N:Nat):z0l (x17 N) (z02 5 (z00 b17)):=
 z0h (G17_5 N) (by kernel_rfl) (by kernel_rfl) (by kernel_rfl) fun R k d=>
  z0g (st:=fun (x:Int×Int×List Int×(List Yw))=>([(6,(.ref 0 [] 0)),(17,(.data .ya x.1)),(8,(.data .ya x.2.1)),(7,(.ref 1 [] 0)),(1,(.data .yk d.1.2.2.2.2.1)),(2,(.bptr 2 [])),(16,(.data .ya d.1.2.2.2.2.2.2.1))],[.row .ya x.2.2.1 0,.row .yn x.2.2.2 0,.cell (.data .yg d.2.2.2.1)])) (s17_5 N k d.1.2.2.2.2.1 d.1.2.2.2.2.2.2.1 d.2.2.2.1) N (d.1.2.1,d.1.2.2.1,d.2.1,d.2.2.1)
theorem e17 (N:Nat) (a0:Ye) (a1:List Yk):z1u (x17 N) [.ym,.ya] [.tmp 4,.tmp 5] b17 (entry (.pr (.val .yg) (.pr (.val .yk) .un)) (a0,(a1,())))=f17 N a0 a1:=by kernel_rfl
theorem k17 (N:Nat):z04 Go.Proofs.Try.prog 17 (c17 N):=
 z1w (fn:=Go.Proofs.Try.f17) (body:=b17) (c:=x17 N) Go.Proofs.Try.func17 (by kernel_rfl) (by kernel_rfl) ⟨ttL_ok,z0o,z0q,z0r,z0p,z03 (z01 (k45 N)) (z03 (z01 (k46 N)) (z03 (z01 (k47 N)) (z0e)))⟩ mixed (by kernel_rfl) (zL (by kernel_rfl)) (by kernel_rfl) (by decide)
  (z0a (by kernel_rfl:z00 b17=[z02 5 (z00 b17),z02 12 (z00 b17)]) (.cons (l17_5 N) (.cons (l17_12 N) .nil))) fun d=>e17 N d.1 d.2.1
def zom {R:Type} (N:Nat) (t8:Int) (t2_1:List Int) (t1_1:List Ya) (t12_1:Int) (t13_1:Int) (t7_1:Int) (t17:Int) (o0_1:Ye) (kb:Int×Int->Option R) (kx2:Int->Option R):Int×Int->Option R:=
 fun (t18,t9)=>
  cond (decide (t18 < t17))
   ((idx t2_1 t18).bind fun x=>
   cond (decide (x=t8))
    (cond (decide (t18 < 0))
     (none)
     (kb ((z0k (t18+1)),(z0k (t9+(z0k (1*(2 ^ (min (Int.toNat t18) 64)))))))))
    (kb ((z0k (t18+1)),t9)))
   (kx2 t9)
def zon {R:Type} (N:Nat) (t2:List Int) (t1:List Ya) (t12:Int) (o0:Ye) (kb:Int×Int->Option R) (kx0:Int->Option R):Int×Int->Option R:=
 fun (t13,t7)=>
  cond (decide (t13 < t12))
   (iter (fun w=>zom N t13 t2 t1 t12 t13 t7 o0.1 o0 w
    (fun t9_1=>
     (f40 N o0 t1 t9_1).bind fun r_1=>
     kb ((z0k (t13+1)),(z0k (t7+r_1))))) N (0,0))
   (kx0 t7)
def f18 (N:Nat) (a0:Ye) (a1:List Ya) (a2:List Int):Option (Int):=
 (f44 N a2).bind fun r=>
 iter (fun w=>zon N a2 a1 r a0 w
  (fun t7_2=>
   some t7_2)) N (0,0)
def c18 (N:Nat):Callee:=.pure (.pr (.val .yg) (.pr (.val .yc) (.pr (.val .yb) .un))) [.ya] fun d=>f18 N d.1 d.2.1 d.2.2.1
def F18_7:SForm:=⟨[(18,(.val .ya)),(9,(.val .ya)),(8,(.val .ya)),(2,(.val .yb)),(1,(.val .yc)),(3,(.bptr 0 [])),(12,(.val .ya)),(13,(.val .ya)),(7,(.val .ya)),(17,(.val .ya))],[.cell (.val .yg)]⟩
def G18_7 (N:Nat):(R:Type)->F18_7.den->(AExit->St->Option R)->Option R:=fun R d k=>iter (fun kb=>zom N d.1.2.2.1 d.1.2.2.2.1 d.1.2.2.2.2.1 d.1.2.2.2.2.2.2.1 d.1.2.2.2.2.2.2.2.1 d.1.2.2.2.2.2.2.2.2.1 d.1.2.2.2.2.2.2.2.2.2.1 d.2.1 kb
  (fun y4=>k (.exit 2) (St.of [(2,(.data .yb d.1.2.2.2.1)),(1,(.data .yc d.1.2.2.2.2.1)),(3,(.bptr 0 [])),(12,(.data .ya d.1.2.2.2.2.2.2.1)),(13,(.data .ya d.1.2.2.2.2.2.2.2.1)),(9,(.data .ya y4)),(7,(.data .ya d.1.2.2.2.2.2.2.2.2.1))] [.cell (.data .yg d.2.1)]))) N (d.1.1,d.1.2.1)
def F18_3:SForm:=⟨[(2,(.val .yb)),(13,(.val .ya)),(1,(.val .yc)),(3,(.bptr 0 [])),(7,(.val .ya)),(12,(.val .ya))],[.cell (.val .yg)]⟩
def G18_3 (N:Nat):(R:Type)->F18_3.den->(AExit->St->Option R)->Option R:=fun R d k=>iter (fun kb=>zon N d.1.1 d.1.2.2.1 d.1.2.2.2.2.2.1 d.2.1 kb
  (fun y0=>k (.exit 0) (St.of [(7,(.data .ya y0))] []))) N (d.1.2.1,d.1.2.2.2.2.1)
def lp18 (N:Nat):Nat->Option z0n:=fun r=>cond (Nat.beq r 7) (some fun R sl os k=>F18_7.take sl os fun d=>G18_7 N R d k) (cond (Nat.beq r 3) (some fun R sl os k=>F18_3.take sl os fun d=>G18_3 N R d k) (none))
def x18 (N:Nat):Ctx:=(mkX N 40 [(44,[c44 N]),(40,[c40 N])] [(3,⟨[2,13,1,3,7,12],[]⟩),(7,⟨[18,9,8,2,1,3,12,13,7,17],[]⟩)] [(3,[(0,⟨[7],[]⟩)]),(7,[(2,⟨[2,1,3,12,13,9,7],[]⟩)])] ⟨[6],[]⟩ (fun _=>none) (lp18 N))
noncomputable def b18:Code:=((Go.Proofs.Try.f18).body).getD .skip
theorem s18_7 (N:Nat) {R:Type} (k:AExit->St->Option R) (t8:Int) (t2_1:List Int) (t1_1:List Ya) (t12_1:Int) (t13_1:Int) (t7_1:Int) (t17:Int) (o0_1:Ye) (kb:List Yl->List Obj->Option R) (x:Int×Int):z0v (x18 N) (z02 7 (z00 b18)) (St.of [(18,(.data .ya x.1)),(9,(.data .ya x.2)),(8,(.data .ya t8)),(2,(.data .yb t2_1)),(1,(.data .yc t1_1)),(3,(.bptr 0 [])),(12,(.data .ya t12_1)),(13,(.data .ya t13_1)),(7,(.data .ya t7_1)),(17,(.data .ya t17))] [.cell (.data .yg o0_1)]) (z1j (x18 N) 7 ⟨[18,9,8,2,1,3,12,13,7,17],[]⟩ kb k)=zom N t8 t2_1 t1_1 t12_1 t13_1 t7_1 t17 o0_1 (fun y=>kb [(18,(.data .ya y.1)),(9,(.data .ya y.2)),(8,(.data .ya t8)),(2,(.data .yb t2_1)),(1,(.data .yc t1_1)),(3,(.bptr 0 [])),(12,(.data .ya t12_1)),(13,(.data .ya t13_1)),(7,(.data .ya t7_1)),(17,(.data .ya t17))] [.cell (.data .yg o0_1)])
  (fun y4=>k (.exit 2) (St.of [(2,(.data .yb t2_1)),(1,(.data .yc t1_1)),(3,(.bptr 0 [])),(12,(.data .ya t12_1)),(13,(.data .ya t13_1)),(9,(.data .ya y4)),(7,(.data .ya t7_1))] [.cell (.data .yg o0_1)])) x:=by kernel_rfl
theorem l18_7 (N:Nat):z0l (x18 N) (z02 7 (z00 b18)):=
 z0h (G18_7 N) (by kernel_rfl) (by kernel_rfl) (by kernel_rfl) fun R k d=>
  z0g (st:=fun (x:Int×Int)=>([(18,(.data .ya x.1)),(9,(.data .ya x.2)),(8,(.data .ya d.1.2.2.1)),(2,(.data .yb d.1.2.2.2.1)),(1,(.data .yc d.1.2.2.2.2.1)),(3,(.bptr 0 [])),(12,(.data .ya d.1.2.2.2.2.2.2.1)),(13,(.data .ya d.1.2.2.2.2.2.2.2.1)),(7,(.data .ya d.1.2.2.2.2.2.2.2.2.1)),(17,(.data .ya d.1.2.2.2.2.2.2.2.2.2.1))],[.cell (.data .yg d.2.1)])) (s18_7 N k d.1.2.2.1 d.1.2.2.2.1 d.1.2.2.2.2.1 d.1.2.2.2.2.2.2.1 d.1.2.2.2.2.2.2.2.1 d.1.2.2.2.2.2.2.2.2.1 d.1.2.2.2.2.2.2.2.2.2.1 d.2.1) N (d.1.1,d.1.2.1)
theorem s18_3 (N:Nat) {R:Type} (k:AExit->St->Option R) (t2:List Int) (t1:List Ya) (t12:Int) (o0:Ye) (kb:List Yl->List Obj->Option R) (x:Int×Int):z0v (x18 N) (z02 3 (z00 b18)) (St.of [(2,(.data .yb t2)),(13,(.data .ya x.1)),(1,(.data .yc t1)),(3,(.bptr 0 [])),(7,(.data .ya x.2)),(12,(.data .ya t12))] [.cell (.data .yg o0)]) (z1j (x18 N) 3 ⟨[2,13,1,3,7,12],[]⟩ kb k)=zon N t2 t1 t12 o0 (fun y=>kb [(2,(.data .yb t2)),(13,(.data .ya y.1)),(1,(.data .yc t1)),(3,(.bptr 0 [])),(7,(.data .ya y.2)),(12,(.data .ya t12))] [.cell (.data .yg o0)])
  (fun y0=>k (.exit 0) (St.of [(7,(.data .ya y0))] [])) x:=by kernel_rfl
theorem l18_3 (N:Nat):z0l (x18 N) (z02 3 (z00 b18)):=
 z0h (G18_3 N) (by kernel_rfl) (by kernel_rfl) (by kernel_rfl) fun R k d=>
  z0g (st:=fun (x:Int×Int)=>([(2,(.data .yb d.1.1)),(13,(.data .ya x.1)),(1,(.data .yc d.1.2.2.1)),(3,(.bptr 0 [])),(7,(.data .ya x.2)),(12,(.data .ya d.1.2.2.2.2.2.1))],[.cell (.data .yg d.2.1)])) (s18_3 N k d.1.1 d.1.2.2.1 d.1.2.2.2.2.2.1 d.2.1) N (d.1.2.1,d.1.2.2.2.2.1)
theorem e18 (N:Nat) (a0:Ye) (a1:List Ya) (a2:List Int):z1u (x18 N) [.ya] [.tmp 6] b18 (entry (.pr (.val .yg) (.pr (.val .yc) (.pr (.val .yb) .un))) (a0,(a1,(a2,()))))=f18 N a0 a1 a2:=by kernel_rfl
theorem k18 (N:Nat):z04 Go.Proofs.Try.prog 18 (c18 N):=
 z1w (fn:=Go.Proofs.Try.f18) (body:=b18) (c:=x18 N) Go.Proofs.Try.func18 (by kernel_rfl) (by kernel_rfl) ⟨ttL_ok,z0o,z0q,z0r,z0p,z03 (z01 (k44 N)) (z03 (z01 (k40 N)) (z0e))⟩ mixed (by kernel_rfl) (zL (by kernel_rfl)) (by kernel_rfl) (by decide)
  (z0a (by kernel_rfl:z00 b18=[z02 3 (z00 b18),z02 7 (z00 b18)]) (.cons (l18_3 N) (.cons (l18_7 N) .nil))) fun d=>e18 N d.1 d.2.1 d.2.2.1
end
end Go.Kz
