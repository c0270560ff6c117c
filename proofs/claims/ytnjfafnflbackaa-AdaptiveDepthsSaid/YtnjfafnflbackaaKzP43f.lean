/-
  The functions of the program as plain functions on lists and numbers, and the proofs that the program computes them. Printed by a program.
-/
import Derived.Test.YtnjfafnflbackaaKzP43e
set_option linter.unusedSimpArgs false
set_option maxRecDepth 100000
set_option linter.unusedVariables false
namespace Go.Kz
open Go.Proofs
noncomputable section
def zjt {R:Type} (N:Nat) (t1:List Yd) (t22:List Yd) (t2:Int) (t23:Int) (o1:Ye) (kb:Int×Yy->Option R) (kret:Int->Option R) (kx0:Yy->Option R):Int×Yy->Option R:=
 fun (t24,o0)=>
  cond (decide (t24 < t23))
   ((idx t22 t24).bind fun x=>
   (cond (decide (0 < t24))
     ((idx t1 (z0i (t24-1))).bind fun x_1=>
     some (decide (x.1≤x_1.1)))
     (some false)).bind fun b=>
   cond b
    (kret 10)
    (kb ((z0i (t24+1)),(zbb (z2y .ya) o0 x.1 x.2.1))))
   (kx0 o0)
def zdq {R:Type} (N:Nat) (t50:List Yd) (t2_1:Int) (t51:Int) (o1_1:Ye) (o2:List Int) (kb:Int×Yy->Option R) (kret:Int->Option R) (kx2:Yy->Option R):Int×Yy->Option R:=
 fun (t52,o0_2)=>
  cond (decide (t52 < t51))
   ((idx t50 t52).bind fun x_2=>
   cond (decide (x_2.1 < 1))
    (z54 [kret 13,
     kret 13])
    (z54 [(f35 N o1_1).bind fun r_2=>
     cond (decide (r_2 < x_2.1))
      (kret 13)
      (cond (decide (0 < x_2.2.1))
       ((f70 N o2 x_2.1).bind fun r_3=>
       cond r_3
        (kret 13)
        (cond (decide (1 < x_2.2.1))
         ((f71 N o1_1 x_2 o0_2).bind fun r_4=>
         cond (!r_4.1.2.1)
          (kret 13)
          (kb ((z0i (t52+1)),r_4.2.1)))
         (kb ((z0i (t52+1)),o0_2))))
       (cond (decide (1 < x_2.2.1))
        ((f71 N o1_1 x_2 o0_2).bind fun r_5=>
        cond (!r_5.1.2.1)
         (kret 13)
         (kb ((z0i (t52+1)),r_5.2.1)))
        (kb ((z0i (t52+1)),o0_2)))),
     (f35 N o1_1).bind fun r_6=>
     cond (decide (r_6 < x_2.1))
      (kret 13)
      (cond (decide (0 < x_2.2.1))
       ((f70 N o2 x_2.1).bind fun r_7=>
       cond r_7
        (kret 13)
        (cond (decide (1 < x_2.2.1))
         ((f71 N o1_1 x_2 o0_2).bind fun r_8=>
         cond (!r_8.1.2.1)
          (kret 13)
          (kb ((z0i (t52+1)),r_8.2.1)))
         (kb ((z0i (t52+1)),o0_2))))
       (cond (decide (1 < x_2.2.1))
        ((f71 N o1_1 x_2 o0_2).bind fun r_9=>
        cond (!r_9.1.2.1)
         (kret 13)
         (kb ((z0i (t52+1)),r_9.2.1)))
        (kb ((z0i (t52+1)),o0_2))))]))
   (kx2 o0_2)
def f29 (N:Nat) (a0:Ye) (a1:List Yd) (a2:Int):Option (Int):=
 (f68 N a0).bind fun r=>
 cond (!(decide (r=0)))
  (some 1)
  (cond (decide (4096 < (len a1)))
   (some 4)
   (iter (fun w=>zjt N a1 a1 a2 (len a1) a0 w
    (fun t6=>
     some t6)
    (fun o0_1=>
     (f69 N a0).bind fun r_1=>
     iter (fun w=>zdq N a1 a2 (len a1) a0 r_1 w
      (fun t6_1=>
       some t6_1)
      (fun o1_2=>
       (f35 N a0).bind fun r_10=>
       (cond (decide (0 < a2))
         ((cond (!(Option.isSome (z8i (z2y .ya) o1_2 r_10)))
           (some true)
           (some (decide ((Option.getD (z8i (z2y .ya) o1_2 r_10) 0) < a2)))).bind fun b_1=>
         some b_1)
         (some false)).bind fun b_2=>
       cond b_2
        (some 13)
        (some 0))) N (0,o0_1))) N (0,([]:List Yq))))
def c29 (N:Nat):Callee:=.pure (.pr (.val .yg) (.pr (.val .yj) (.pr (.val .ya) .un))) [.ya] fun d=>f29 N d.1 d.2.1 d.2.2.1
def F29_7:SForm:=⟨[(24,(.val .ya)),(7,(.mref 0)),(1,(.val .yj)),(22,(.val .yj)),(3,(.bptr 1 [])),(2,(.val .ya)),(23,(.val .ya))],[.map .ya .ya,.cell (.val .yg)]⟩
def G29_7 (N:Nat):(R:Type)->F29_7.den->(AExit->St->Option R)->Option R:=fun R d k=>iter (fun kb=>zjt N d.1.2.2.1 d.1.2.2.2.1 d.1.2.2.2.2.2.1 d.1.2.2.2.2.2.2.1 d.2.2.1 kb
  (fun y0=>k .ret (St.of [(6,(.data .ya y0))] []))
  (fun y2=>k (.exit 0) (St.of [(7,(.mref 0)),(3,(.bptr 1 [])),(2,(.data .ya d.1.2.2.2.2.2.1)),(1,(.data .yj d.1.2.2.1))] [.map .ya .ya y2,.cell (.data .yg d.2.2.1)]))) N (d.1.1,d.2.1)
def F29_15:SForm:=⟨[(52,(.val .ya)),(7,(.mref 0)),(3,(.bptr 1 [])),(10,(.ref 2)),(50,(.val .yj)),(2,(.val .ya)),(51,(.val .ya))],[.map .ya .ya,.cell (.val .yg),.row .ya]⟩
def G29_15 (N:Nat):(R:Type)->F29_15.den->(AExit->St->Option R)->Option R:=fun R d k=>iter (fun kb=>zdq N d.1.2.2.2.2.1 d.1.2.2.2.2.2.1 d.1.2.2.2.2.2.2.1 d.2.2.1 d.2.2.2.1 kb
  (fun y0=>k .ret (St.of [(6,(.data .ya y0))] []))
  (fun y2=>k (.exit 2) (St.of [(2,(.data .ya d.1.2.2.2.2.2.1)),(3,(.bptr 0 [])),(7,(.mref 1))] [.cell (.data .yg d.2.2.1),.map .ya .ya y2]))) N (d.1.1,d.2.1)
def lp29 (N:Nat):Nat->Option z0n:=fun r=>cond (Nat.beq r 7) (some fun R sl os k=>F29_7.take sl os fun d=>G29_7 N R d k) (cond (Nat.beq r 15) (some fun R sl os k=>F29_15.take sl os fun d=>G29_15 N R d k) (none))
def x29 (N:Nat):Ctx:=(mkX N 108 [(68,[c68 N]),(69,[c69 N]),(35,[c35 N]),(70,[c70 N]),(71,[c71 N])] [(7,⟨[24,7,1,22,3,2,23],[]⟩),(15,⟨[52,7,3,10,50,2,51],[]⟩)] [(7,[(0,⟨[7,3,2,1],[]⟩)]),(15,[(2,⟨[2,3,7],[]⟩)])] ⟨[6],[]⟩ (fun _=>none) (lp29 N))
noncomputable def b29:Code:=((Go.Proofs.Try.f29).body).getD .skip
theorem s29_7 (N:Nat) {R:Type} (k:AExit->St->Option R) (t1:List Yd) (t22:List Yd) (t2:Int) (t23:Int) (o1:Ye) (kb:List Yk->List Obj->Option R) (x:Int×Yy):z0w (x29 N) (z02 7 (z00 b29)) (St.of [(24,(.data .ya x.1)),(7,(.mref 0)),(1,(.data .yj t1)),(22,(.data .yj t22)),(3,(.bptr 1 [])),(2,(.data .ya t2)),(23,(.data .ya t23))] [.map .ya .ya x.2,.cell (.data .yg o1)]) (z1k (x29 N) 7 ⟨[24,7,1,22,3,2,23],[]⟩ kb k)=zjt N t1 t22 t2 t23 o1 (fun y=>kb [(24,(.data .ya y.1)),(7,(.mref 0)),(1,(.data .yj t1)),(22,(.data .yj t22)),(3,(.bptr 1 [])),(2,(.data .ya t2)),(23,(.data .ya t23))] [.map .ya .ya y.2,.cell (.data .yg o1)])
  (fun y0=>k .ret (St.of [(6,(.data .ya y0))] []))
  (fun y2=>k (.exit 0) (St.of [(7,(.mref 0)),(3,(.bptr 1 [])),(2,(.data .ya t2)),(1,(.data .yj t1))] [.map .ya .ya y2,.cell (.data .yg o1)])) x:=by kernel_rfl
theorem l29_7 (N:Nat):z0s (x29 N) (z02 7 (z00 b29)):=
 z0h (G29_7 N) (by kernel_rfl) (by kernel_rfl) (by kernel_rfl) fun R k d=>
  z0g (st:=fun (x:Int×Yy)=>([(24,(.data .ya x.1)),(7,(.mref 0)),(1,(.data .yj d.1.2.2.1)),(22,(.data .yj d.1.2.2.2.1)),(3,(.bptr 1 [])),(2,(.data .ya d.1.2.2.2.2.2.1)),(23,(.data .ya d.1.2.2.2.2.2.2.1))],[.map .ya .ya x.2,.cell (.data .yg d.2.2.1)])) (s29_7 N k d.1.2.2.1 d.1.2.2.2.1 d.1.2.2.2.2.2.1 d.1.2.2.2.2.2.2.1 d.2.2.1) N (d.1.1,d.2.1)
theorem s29_15 (N:Nat) {R:Type} (k:AExit->St->Option R) (t50:List Yd) (t2_1:Int) (t51:Int) (o1_1:Ye) (o2:List Int) (kb:List Yk->List Obj->Option R) (x:Int×Yy):z0w (x29 N) (z02 15 (z00 b29)) (St.of [(52,(.data .ya x.1)),(7,(.mref 0)),(3,(.bptr 1 [])),(10,(.ref 2 [] 0)),(50,(.data .yj t50)),(2,(.data .ya t2_1)),(51,(.data .ya t51))] [.map .ya .ya x.2,.cell (.data .yg o1_1),.row .ya o2 0]) (z1k (x29 N) 15 ⟨[52,7,3,10,50,2,51],[]⟩ kb k)=zdq N t50 t2_1 t51 o1_1 o2 (fun y=>kb [(52,(.data .ya y.1)),(7,(.mref 0)),(3,(.bptr 1 [])),(10,(.ref 2 [] 0)),(50,(.data .yj t50)),(2,(.data .ya t2_1)),(51,(.data .ya t51))] [.map .ya .ya y.2,.cell (.data .yg o1_1),.row .ya o2 0])
  (fun y0=>k .ret (St.of [(6,(.data .ya y0))] []))
  (fun y2=>k (.exit 2) (St.of [(2,(.data .ya t2_1)),(3,(.bptr 0 [])),(7,(.mref 1))] [.cell (.data .yg o1_1),.map .ya .ya y2])) x:=by kernel_rfl
theorem l29_15 (N:Nat):z0s (x29 N) (z02 15 (z00 b29)):=
 z0h (G29_15 N) (by kernel_rfl) (by kernel_rfl) (by kernel_rfl) fun R k d=>
  z0g (st:=fun (x:Int×Yy)=>([(52,(.data .ya x.1)),(7,(.mref 0)),(3,(.bptr 1 [])),(10,(.ref 2 [] 0)),(50,(.data .yj d.1.2.2.2.2.1)),(2,(.data .ya d.1.2.2.2.2.2.1)),(51,(.data .ya d.1.2.2.2.2.2.2.1))],[.map .ya .ya x.2,.cell (.data .yg d.2.2.1),.row .ya d.2.2.2.1 0])) (s29_15 N k d.1.2.2.2.2.1 d.1.2.2.2.2.2.1 d.1.2.2.2.2.2.2.1 d.2.2.1 d.2.2.2.1) N (d.1.1,d.2.1)
theorem e29 (N:Nat) (a0:Ye) (a1:List Yd) (a2:Int):z1u (x29 N) [.ya] [.tmp 6] b29 (entry (.pr (.val .yg) (.pr (.val .yj) (.pr (.val .ya) .un))) (a0,(a1,(a2,()))))=f29 N a0 a1 a2:=by kernel_rfl
theorem k29 (N:Nat):z04 Go.Proofs.Try.prog 29 (c29 N):=
 z1v (fn:=Go.Proofs.Try.f29) (body:=b29) (c:=x29 N) Go.Proofs.Try.func29 (by kernel_rfl) (by kernel_rfl) ⟨ttL_ok,z0o,z0q,z0r,z0p,z03 (z01 (k68 N)) (z03 (z01 (k69 N)) (z03 (z01 (k35 N)) (z03 (z01 (k70 N)) (z03 (z01 (k71 N)) (z0c)))))⟩ mixed (by kernel_rfl) (zL (by kernel_rfl)) (by kernel_rfl) (by decide)
  (z09 (by kernel_rfl:z00 b29=[z02 7 (z00 b29),z02 15 (z00 b29)]) (.cons (l29_7 N) (.cons (l29_15 N) .nil))) fun d=>e29 N d.1 d.2.1 d.2.2.1
def zo4 {R:Type} (N:Nat) (t1:List Int) (t2:Int) (t10:Int) (kb:Int×Int->Option R) (kret:Bool->Option R) (kx0:Unit->Option R):Int×Int->Option R:=
 fun (t11,t7)=>
  cond (decide (t11 < t10))
   ((f65 N t2 t11).bind fun r=>
   cond r
    ((cond (decide (0≤t7))
      ((idx t1 t11).bind fun x=>
      some (!(decide (t7=x))))
      (some false)).bind fun b=>
    cond b
     (kret false)
     ((idx t1 t11).bind fun x_1=>
     kb ((z0i (t11+1)),x_1)))
    (kb ((z0i (t11+1)),t7)))
   (kx0 ())
def f72 (N:Nat) (a0:Ye) (a1:List Int) (a2:Int):Option (Bool):=
 iter (fun w=>zo4 N a1 a2 a0.1 w
  (fun t6=>
   some t6)
  (fun (_:Unit)=>
   some true)) N (0,(-1))
def c72 (N:Nat):Callee:=.pure (.pr (.val .yg) (.pr (.val .yb) (.pr (.val .ya) .un))) [.bool] fun d=>f72 N d.1 d.2.1 d.2.2.1
def F72_3:SForm:=⟨[(11,(.val .ya)),(1,(.val .yb)),(7,(.val .ya)),(2,(.val .ya)),(10,(.val .ya))],[]⟩
def G72_3 (N:Nat):(R:Type)->F72_3.den->(AExit->St->Option R)->Option R:=fun R d k=>iter (fun kb=>zo4 N d.1.2.1 d.1.2.2.2.1 d.1.2.2.2.2.1 kb
  (fun y0=>k .ret (St.of [(6,(.data .bool y0))] []))
  (fun _=>k (.exit 0) (St.of [] []))) N (d.1.1,d.1.2.2.1)
def lp72 (N:Nat):Nat->Option z0n:=fun r=>cond (Nat.beq r 3) (some fun R sl os k=>F72_3.take sl os fun d=>G72_3 N R d k) (none)
def x72 (N:Nat):Ctx:=(mkX N 32 [(65,[c65 N])] [(3,⟨[11,1,7,2,10],[]⟩)] [(3,[(0,⟨[],[]⟩)])] ⟨[6],[]⟩ (fun _=>none) (lp72 N))
noncomputable def b72:Code:=((Go.Proofs.Try.f72).body).getD .skip
theorem s72_3 (N:Nat) {R:Type} (k:AExit->St->Option R) (t1:List Int) (t2:Int) (t10:Int) (kb:List Yk->List Obj->Option R) (x:Int×Int):z0w (x72 N) (z02 3 (z00 b72)) (St.of [(11,(.data .ya x.1)),(1,(.data .yb t1)),(7,(.data .ya x.2)),(2,(.data .ya t2)),(10,(.data .ya t10))] []) (z1k (x72 N) 3 ⟨[11,1,7,2,10],[]⟩ kb k)=zo4 N t1 t2 t10 (fun y=>kb [(11,(.data .ya y.1)),(1,(.data .yb t1)),(7,(.data .ya y.2)),(2,(.data .ya t2)),(10,(.data .ya t10))] [])
  (fun y0=>k .ret (St.of [(6,(.data .bool y0))] []))
  (fun _=>k (.exit 0) (St.of [] [])) x:=by kernel_rfl
theorem l72_3 (N:Nat):z0s (x72 N) (z02 3 (z00 b72)):=
 z0h (G72_3 N) (by kernel_rfl) (by kernel_rfl) (by kernel_rfl) fun R k d=>
  z0g (st:=fun (x:Int×Int)=>([(11,(.data .ya x.1)),(1,(.data .yb d.1.2.1)),(7,(.data .ya x.2)),(2,(.data .ya d.1.2.2.2.1)),(10,(.data .ya d.1.2.2.2.2.1))],[])) (s72_3 N k d.1.2.1 d.1.2.2.2.1 d.1.2.2.2.2.1) N (d.1.1,d.1.2.2.1)
theorem e72 (N:Nat) (a0:Ye) (a1:List Int) (a2:Int):z1u (x72 N) [.bool] [.tmp 6] b72 (entry (.pr (.val .yg) (.pr (.val .yb) (.pr (.val .ya) .un))) (a0,(a1,(a2,()))))=f72 N a0 a1 a2:=by kernel_rfl
theorem k72 (N:Nat):z04 Go.Proofs.Try.prog 72 (c72 N):=
 z1v (fn:=Go.Proofs.Try.f72) (body:=b72) (c:=x72 N) Go.Proofs.Try.func72 (by kernel_rfl) (by kernel_rfl) ⟨ttL_ok,z0o,z0q,z0r,z0p,z03 (z01 (k65 N)) (z0c)⟩ mixed (by kernel_rfl) (zL (by kernel_rfl)) (by kernel_rfl) (by decide)
  (z09 (by kernel_rfl:z00 b72=[z02 3 (z00 b72)]) (.cons (l72_3 N) .nil)) fun d=>e72 N d.1 d.2.1 d.2.2.1
def zds {R:Type} (N:Nat) (t0:List Int) (t1:Int) (t7:Int) (kb:Int->Option R) (kret:Int->Option R) (kx0:Unit->Option R):Int->Option R:=
 fun t8=>
  cond (decide (t8 < t7))
   ((idx t0 t8).bind fun x=>
   cond (decide (t1=x))
    (kret t8)
    (kb (z0i (t8+1))))
   (kx0 ())
def f111 (N:Nat) (a0:List Int) (a1:Int):Option (Int):=
 iter (fun w=>zds N a0 a1 (len a0) w
  (fun t4=>
   some t4)
  (fun (_:Unit)=>
   some (-1))) N 0
def c111 (N:Nat):Callee:=.pure (.pr (.val .yb) (.pr (.val .ya) .un)) [.ya] fun d=>f111 N d.1 d.2.1
def F111_2:SForm:=⟨[(8,(.val .ya)),(0,(.val .yb)),(1,(.val .ya)),(7,(.val .ya))],[]⟩
def G111_2 (N:Nat):(R:Type)->F111_2.den->(AExit->St->Option R)->Option R:=fun R d k=>iter (fun kb=>zds N d.1.2.1 d.1.2.2.1 d.1.2.2.2.1 kb
  (fun y0=>k .ret (St.of [(4,(.data .ya y0))] []))
  (fun _=>k (.exit 0) (St.of [] []))) N d.1.1
def lp111 (N:Nat):Nat->Option z0n:=fun r=>cond (Nat.beq r 2) (some fun R sl os k=>F111_2.take sl os fun d=>G111_2 N R d k) (none)
def x111 (N:Nat):Ctx:=(mkX N 19 [] [(2,⟨[8,0,1,7],[]⟩)] [(2,[(0,⟨[],[]⟩)])] ⟨[4],[]⟩ (fun _=>none) (lp111 N))
noncomputable def b111:Code:=((Go.Proofs.Try.f111).body).getD .skip
theorem s111_2 (N:Nat) {R:Type} (k:AExit->St->Option R) (t0:List Int) (t1:Int) (t7:Int) (kb:List Yk->List Obj->Option R) (x:Int):z0w (x111 N) (z02 2 (z00 b111)) (St.of [(8,(.data .ya x)),(0,(.data .yb t0)),(1,(.data .ya t1)),(7,(.data .ya t7))] []) (z1k (x111 N) 2 ⟨[8,0,1,7],[]⟩ kb k)=zds N t0 t1 t7 (fun y=>kb [(8,(.data .ya y)),(0,(.data .yb t0)),(1,(.data .ya t1)),(7,(.data .ya t7))] [])
  (fun y0=>k .ret (St.of [(4,(.data .ya y0))] []))
  (fun _=>k (.exit 0) (St.of [] [])) x:=by kernel_rfl
theorem l111_2 (N:Nat):z0s (x111 N) (z02 2 (z00 b111)):=
 z0h (G111_2 N) (by kernel_rfl) (by kernel_rfl) (by kernel_rfl) fun R k d=>
  z0g (st:=fun (x:Int)=>([(8,(.data .ya x)),(0,(.data .yb d.1.2.1)),(1,(.data .ya d.1.2.2.1)),(7,(.data .ya d.1.2.2.2.1))],[])) (s111_2 N k d.1.2.1 d.1.2.2.1 d.1.2.2.2.1) N d.1.1
theorem e111 (N:Nat) (a0:List Int) (a1:Int):z1u (x111 N) [.ya] [.tmp 4] b111 (entry (.pr (.val .yb) (.pr (.val .ya) .un)) (a0,(a1,())))=f111 N a0 a1:=by kernel_rfl
theorem k111 (N:Nat):z04 Go.Proofs.Try.prog 111 (c111 N):=
 z1v (fn:=Go.Proofs.Try.f111) (body:=b111) (c:=x111 N) Go.Proofs.Try.func111 (by kernel_rfl) (by kernel_rfl) ⟨ttL_ok,z0o,z0q,z0r,z0p,z0c⟩ mixed (by kernel_rfl) (zL (by kernel_rfl)) (by kernel_rfl) (by decide)
  (z09 (by kernel_rfl:z00 b111=[z02 2 (z00 b111)]) (.cons (l111_2 N) .nil)) fun d=>e111 N d.1 d.2.1
def f91 (N:Nat) (a0:List Int) (a1:Int):Option (Bool):=
 (f111 N a0 a1).bind fun r=>
 some (decide (0≤r))
def c91 (N:Nat):Callee:=.pure (.pr (.val .yb) (.pr (.val .ya) .un)) [.bool] fun d=>f91 N d.1 d.2.1
def lp91 (N:Nat):Nat->Option z0n:=fun r=>none
def x91 (N:Nat):Ctx:=(mkX N 9 [(111,[c111 N])] [] [] ⟨[4],[]⟩ (fun _=>none) (lp91 N))
noncomputable def b91:Code:=((Go.Proofs.Try.f91).body).getD .skip
theorem e91 (N:Nat) (a0:List Int) (a1:Int):z1u (x91 N) [.bool] [.tmp 4] b91 (entry (.pr (.val .yb) (.pr (.val .ya) .un)) (a0,(a1,())))=f91 N a0 a1:=by kernel_rfl
theorem k91 (N:Nat):z04 Go.Proofs.Try.prog 91 (c91 N):=
 z1v (fn:=Go.Proofs.Try.f91) (body:=b91) (c:=x91 N) Go.Proofs.Try.func91 (by kernel_rfl) (by kernel_rfl) ⟨ttL_ok,z0o,z0q,z0r,z0p,z03 (z01 (k111 N)) (z0c)⟩ mixed (by kernel_rfl) (zL (by kernel_rfl)) (by kernel_rfl) (by decide)
  (z09 (by kernel_rfl:z00 b91=[]) .nil) fun d=>e91 N d.1 d.2.1
def zeh {R:Type} (N:Nat) (t1:List Int) (t2:Int) (t9:List Yd) (t10:Int) (kb:Int->Option R) (kret:Bool->Option R) (kx0:Unit->Option R):Int->Option R:=
 fun t11=>
  cond (decide (t11 < t10))
   ((idx t9 t11).bind fun x=>
   (cond (decide (t2≤x.2.1))
     ((f91 N t1 x.1).bind fun r=>
     some r)
     (some false)).bind fun b=>
   cond b
    (kret true)
    (kb (z0i (t11+1))))
   (kx0 ())
def f73 (N:Nat) (a0:List Yd) (a1:List Int) (a2:Int):Option (Bool):=
 iter (fun w=>zeh N a1 a2 a0 (len a0) w
  (fun t6=>
   some t6)
  (fun (_:Unit)=>
   some false)) N 0
def c73 (N:Nat):Callee:=.pure (.pr (.val .yj) (.pr (.val .yb) (.pr (.val .ya) .un))) [.bool] fun d=>f73 N d.1 d.2.1 d.2.2.1
def F73_2:SForm:=⟨[(11,(.val .ya)),(1,(.val .yb)),(2,(.val .ya)),(9,(.val .yj)),(10,(.val .ya))],[]⟩
def G73_2 (N:Nat):(R:Type)->F73_2.den->(AExit->St->Option R)->Option R:=fun R d k=>iter (fun kb=>zeh N d.1.2.1 d.1.2.2.1 d.1.2.2.2.1 d.1.2.2.2.2.1 kb
  (fun y0=>k .ret (St.of [(6,(.data .bool y0))] []))
  (fun _=>k (.exit 0) (St.of [] []))) N d.1.1
def lp73 (N:Nat):Nat->Option z0n:=fun r=>cond (Nat.beq r 2) (some fun R sl os k=>F73_2.take sl os fun d=>G73_2 N R d k) (none)
def x73 (N:Nat):Ctx:=(mkX N 26 [(91,[c91 N])] [(2,⟨[11,1,2,9,10],[]⟩)] [(2,[(0,⟨[],[]⟩)])] ⟨[6],[]⟩ (fun _=>none) (lp73 N))
noncomputable def b73:Code:=((Go.Proofs.Try.f73).body).getD .skip
theorem s73_2 (N:Nat) {R:Type} (k:AExit->St->Option R) (t1:List Int) (t2:Int) (t9:List Yd) (t10:Int) (kb:List Yk->List Obj->Option R) (x:Int):z0w (x73 N) (z02 2 (z00 b73)) (St.of [(11,(.data .ya x)),(1,(.data .yb t1)),(2,(.data .ya t2)),(9,(.data .yj t9)),(10,(.data .ya t10))] []) (z1k (x73 N) 2 ⟨[11,1,2,9,10],[]⟩ kb k)=zeh N t1 t2 t9 t10 (fun y=>kb [(11,(.data .ya y)),(1,(.data .yb t1)),(2,(.data .ya t2)),(9,(.data .yj t9)),(10,(.data .ya t10))] [])
  (fun y0=>k .ret (St.of [(6,(.data .bool y0))] []))
  (fun _=>k (.exit 0) (St.of [] [])) x:=by kernel_rfl
theorem l73_2 (N:Nat):z0s (x73 N) (z02 2 (z00 b73)):=
 z0h (G73_2 N) (by kernel_rfl) (by kernel_rfl) (by kernel_rfl) fun R k d=>
  z0g (st:=fun (x:Int)=>([(11,(.data .ya x)),(1,(.data .yb d.1.2.1)),(2,(.data .ya d.1.2.2.1)),(9,(.data .yj d.1.2.2.2.1)),(10,(.data .ya d.1.2.2.2.2.1))],[])) (s73_2 N k d.1.2.1 d.1.2.2.1 d.1.2.2.2.1 d.1.2.2.2.2.1) N d.1.1
theorem e73 (N:Nat) (a0:List Yd) (a1:List Int) (a2:Int):z1u (x73 N) [.bool] [.tmp 6] b73 (entry (.pr (.val .yj) (.pr (.val .yb) (.pr (.val .ya) .un))) (a0,(a1,(a2,()))))=f73 N a0 a1 a2:=by kernel_rfl
theorem k73 (N:Nat):z04 Go.Proofs.Try.prog 73 (c73 N):=
 z1v (fn:=Go.Proofs.Try.f73) (body:=b73) (c:=x73 N) Go.Proofs.Try.func73 (by kernel_rfl) (by kernel_rfl) ⟨ttL_ok,z0o,z0q,z0r,z0p,z03 (z01 (k91 N)) (z0c)⟩ mixed (by kernel_rfl) (zL (by kernel_rfl)) (by kernel_rfl) (by decide)
  (z09 (by kernel_rfl:z00 b73=[z02 2 (z00 b73)]) (.cons (l73_2 N) .nil)) fun d=>e73 N d.1 d.2.1 d.2.2.1
def zjs {R:Type} (N:Nat) (t1:List Yd) (t2:Int) (t20:Int) (o0:Ye) (kb:Int->Option R) (kret:Int->Option R) (kx0:Unit->Option R):Int->Option R:=
 fun t21=>
  cond (decide (t21 < t20))
   ((cond (decide (0 < t21))
     ((idx t1 t21).bind fun x=>
     (idx t1 (z0i (t21-1))).bind fun x_1=>
     some (decide (x.1≤x_1.1)))
     (some false)).bind fun b=>
   cond b
    (kret 10)
    (kb (z0i (t21+1))))
   (kx0 ())
def zbn {R:Type} (N:Nat) (t1_2:List Yd) (t2_2:Int) (t45_1:List Yd) (t46_1:Int) (t47_1:Int) (t9_1:Bool) (t75:Int) (o0_2:Yd) (o1_1:Ye) (o2:List Int) (kb:Int->Option R) (kret:Int->Option R) (kx4:Unit->Option R):Int->Option R:=
 fun t76=>
  cond (decide (t76 < t75))
   ((cond (decide (1 < o0_2.2.1))
     ((f41 N o1_1 o0_2.1 t76).bind fun r_4=>
     (f73 N t1_2 r_4 (z0i (o0_2.2.1-1))).bind fun r_5=>
     some (!r_5))
     (some false)).bind fun b_4=>
   cond b_4
    (kret 13)
    (kb (z0i (t76+1))))
   (kx4 ())
def zdp {R:Type} (N:Nat) (t1_1:List Yd) (t2_1:Int) (t45:List Yd) (t46:Int) (o0_1:Ye) (o1:List Int) (kb:Int×Bool->Option R) (kret:Int->Option R) (kx2:Bool->Option R):Int×Bool->Option R:=
 fun (t47,t9)=>
  cond (decide (t47 < t46))
   ((idx t45 t47).bind fun x_2=>
   (cond (decide (x_2.1 < 1))
     (some true)
     ((f39 N o0_1).bind fun r_2=>
     some (decide (r_2 < x_2.1)))).bind fun b_1=>
   (cond b_1
     (some true)
     ((cond (decide (0 < x_2.2.1))
       ((f72 N o0_1 o1 x_2.1).bind fun r_3=>
       some r_3)
       (some false)).bind fun b_2=>
     some b_2)).bind fun b_3=>
   cond b_3
    (kret 13)
    (iter (fun w=>zbn N t1_1 t2_1 t45 t46 t47 t9 (len o0_1.2.1) x_2 o0_1 o1 w
     (fun t6_1=>
      kret t6_1)
     (fun (_:Unit)=>
      (cond t9
        (some true)
        ((f39 N o0_1).bind fun r_6=>
        (cond (decide (x_2.1=r_6))
          (some (decide (t2_1≤x_2.2.1)))
          (some false)).bind fun b_5=>
        some b_5)).bind fun b_6=>
      kb ((z0i (t47+1)),b_6))) N 0))
   (kx2 t9)
def f30 (N:Nat) (a0:Ye) (a1:List Yd) (a2:Int):Option (Int):=
 (f28 N a0).bind fun r=>
 cond (!r)
  (some 1)
  (cond (decide (4096 < (len a1)))
   (some 4)
   (iter (fun w=>zjs N a1 a2 (len a1) a0 w
    (fun t6=>
     some t6)
    (fun (_:Unit)=>
     (f21 N a0).bind fun r_1=>
     iter (fun w=>zdp N a1 a2 a1 (len a1) a0 r_1 w
      (fun t6_2=>
       some t6_2)
      (fun t9_2=>
       cond (!t9_2)
        (some 13)
        (some 0))) N (0,(decide (a2≤0))))) N 0))
def c30 (N:Nat):Callee:=.pure (.pr (.val .yg) (.pr (.val .yj) (.pr (.val .ya) .un))) [.ya] fun d=>f30 N d.1 d.2.1 d.2.2.1
def F30_6:SForm:=⟨[(21,(.val .ya)),(1,(.val .yj)),(3,(.bptr 0 [])),(2,(.val .ya)),(20,(.val .ya))],[.cell (.val .yg)]⟩
def G30_6 (N:Nat):(R:Type)->F30_6.den->(AExit->St->Option R)->Option R:=fun R d k=>iter (fun kb=>zjs N d.1.2.1 d.1.2.2.2.1 d.1.2.2.2.2.1 d.2.1 kb
  (fun y0=>k .ret (St.of [(6,(.data .ya y0))] []))
  (fun _=>k (.exit 0) (St.of [(3,(.bptr 0 [])),(1,(.data .yj d.1.2.1)),(2,(.data .ya d.1.2.2.2.1))] [.cell (.data .yg d.2.1)]))) N d.1.1
def F30_19:SForm:=⟨[(76,(.val .ya)),(11,(.bptr 0 [])),(3,(.bptr 1 [])),(1,(.val .yj)),(2,(.val .ya)),(8,(.ref 2)),(45,(.val .yj)),(46,(.val .ya)),(47,(.val .ya)),(9,(.val .bool)),(75,(.val .ya))],[.cell (.val .ye),.cell (.val .yg),.row .ya]⟩
def G30_19 (N:Nat):(R:Type)->F30_19.den->(AExit->St->Option R)->Option R:=fun R d k=>iter (fun kb=>zbn N d.1.2.2.2.1 d.1.2.2.2.2.1 d.1.2.2.2.2.2.2.1 d.1.2.2.2.2.2.2.2.1 d.1.2.2.2.2.2.2.2.2.1 d.1.2.2.2.2.2.2.2.2.2.1 d.1.2.2.2.2.2.2.2.2.2.2.1 d.2.1 d.2.2.1 d.2.2.2.1 kb
  (fun y0=>k .ret (St.of [(6,(.data .ya y0))] []))
  (fun _=>k (.exit 4) (St.of [(3,(.bptr 0 [])),(1,(.data .yj d.1.2.2.2.1)),(2,(.data .ya d.1.2.2.2.2.1)),(8,(.ref 1 [] 0)),(45,(.data .yj d.1.2.2.2.2.2.2.1)),(46,(.data .ya d.1.2.2.2.2.2.2.2.1)),(47,(.data .ya d.1.2.2.2.2.2.2.2.2.1)),(11,(.bptr 2 [])),(9,(.data .bool d.1.2.2.2.2.2.2.2.2.2.1))] [.cell (.data .yg d.2.2.1),.row .ya d.2.2.2.1 0,.cell (.data .ye d.2.1)]))) N d.1.1
def F30_14:SForm:=⟨[(3,(.bptr 0 [])),(1,(.val .yj)),(47,(.val .ya)),(2,(.val .ya)),(9,(.val .bool)),(8,(.ref 1)),(45,(.val .yj)),(46,(.val .ya))],[.cell (.val .yg),.row .ya]⟩
def G30_14 (N:Nat):(R:Type)->F30_14.den->(AExit->St->Option R)->Option R:=fun R d k=>iter (fun kb=>zdp N d.1.2.1 d.1.2.2.2.1 d.1.2.2.2.2.2.2.1 d.1.2.2.2.2.2.2.2.1 d.2.1 d.2.2.1 kb
  (fun y0=>k .ret (St.of [(6,(.data .ya y0))] []))
  (fun y0=>k (.exit 2) (St.of [(9,(.data .bool y0))] []))) N (d.1.2.2.1,d.1.2.2.2.2.1)
def lp30 (N:Nat):Nat->Option z0n:=fun r=>cond (Nat.beq r 6) (some fun R sl os k=>F30_6.take sl os fun d=>G30_6 N R d k) (cond (Nat.beq r 19) (some fun R sl os k=>F30_19.take sl os fun d=>G30_19 N R d k) (cond (Nat.beq r 14) (some fun R sl os k=>F30_14.take sl os fun d=>G30_14 N R d k) (none)))
def x30 (N:Nat):Ctx:=(mkX N 113 [(28,[c28 N]),(21,[c21 N]),(39,[c39 N]),(72,[c72 N]),(41,[c41 N]),(73,[c73 N])] [(6,⟨[21,1,3,2,20],[]⟩),(14,⟨[3,1,47,2,9,8,45,46],[]⟩),(19,⟨[76,11,3,1,2,8,45,46,47,9,75],[]⟩)] [(6,[(0,⟨[3,1,2],[]⟩)]),(14,[(2,⟨[9],[]⟩)]),(19,[(4,⟨[3,1,2,8,45,46,47,11,9],[]⟩)])] ⟨[6],[]⟩ (fun _=>none) (lp30 N))
noncomputable def b30:Code:=((Go.Proofs.Try.f30).body).getD .skip
theorem s30_6 (N:Nat) {R:Type} (k:AExit->St->Option R) (t1:List Yd) (t2:Int) (t20:Int) (o0:Ye) (kb:List Yk->List Obj->Option R) (x:Int):z0w (x30 N) (z02 6 (z00 b30)) (St.of [(21,(.data .ya x)),(1,(.data .yj t1)),(3,(.bptr 0 [])),(2,(.data .ya t2)),(20,(.data .ya t20))] [.cell (.data .yg o0)]) (z1k (x30 N) 6 ⟨[21,1,3,2,20],[]⟩ kb k)=zjs N t1 t2 t20 o0 (fun y=>kb [(21,(.data .ya y)),(1,(.data .yj t1)),(3,(.bptr 0 [])),(2,(.data .ya t2)),(20,(.data .ya t20))] [.cell (.data .yg o0)])
  (fun y0=>k .ret (St.of [(6,(.data .ya y0))] []))
  (fun _=>k (.exit 0) (St.of [(3,(.bptr 0 [])),(1,(.data .yj t1)),(2,(.data .ya t2))] [.cell (.data .yg o0)])) x:=by kernel_rfl
theorem l30_6 (N:Nat):z0s (x30 N) (z02 6 (z00 b30)):=
 z0h (G30_6 N) (by kernel_rfl) (by kernel_rfl) (by kernel_rfl) fun R k d=>
  z0g (st:=fun (x:Int)=>([(21,(.data .ya x)),(1,(.data .yj d.1.2.1)),(3,(.bptr 0 [])),(2,(.data .ya d.1.2.2.2.1)),(20,(.data .ya d.1.2.2.2.2.1))],[.cell (.data .yg d.2.1)])) (s30_6 N k d.1.2.1 d.1.2.2.2.1 d.1.2.2.2.2.1 d.2.1) N d.1.1
theorem s30_19 (N:Nat) {R:Type} (k:AExit->St->Option R) (t1_2:List Yd) (t2_2:Int) (t45_1:List Yd) (t46_1:Int) (t47_1:Int) (t9_1:Bool) (t75:Int) (o0_2:Yd) (o1_1:Ye) (o2:List Int) (kb:List Yk->List Obj->Option R) (x:Int):z0w (x30 N) (z02 19 (z00 b30)) (St.of [(76,(.data .ya x)),(11,(.bptr 0 [])),(3,(.bptr 1 [])),(1,(.data .yj t1_2)),(2,(.data .ya t2_2)),(8,(.ref 2 [] 0)),(45,(.data .yj t45_1)),(46,(.data .ya t46_1)),(47,(.data .ya t47_1)),(9,(.data .bool t9_1)),(75,(.data .ya t75))] [.cell (.data .ye o0_2),.cell (.data .yg o1_1),.row .ya o2 0]) (z1k (x30 N) 19 ⟨[76,11,3,1,2,8,45,46,47,9,75],[]⟩ kb k)=zbn N t1_2 t2_2 t45_1 t46_1 t47_1 t9_1 t75 o0_2 o1_1 o2 (fun y=>kb [(76,(.data .ya y)),(11,(.bptr 0 [])),(3,(.bptr 1 [])),(1,(.data .yj t1_2)),(2,(.data .ya t2_2)),(8,(.ref 2 [] 0)),(45,(.data .yj t45_1)),(46,(.data .ya t46_1)),(47,(.data .ya t47_1)),(9,(.data .bool t9_1)),(75,(.data .ya t75))] [.cell (.data .ye o0_2),.cell (.data .yg o1_1),.row .ya o2 0])
  (fun y0=>k .ret (St.of [(6,(.data .ya y0))] []))
  (fun _=>k (.exit 4) (St.of [(3,(.bptr 0 [])),(1,(.data .yj t1_2)),(2,(.data .ya t2_2)),(8,(.ref 1 [] 0)),(45,(.data .yj t45_1)),(46,(.data .ya t46_1)),(47,(.data .ya t47_1)),(11,(.bptr 2 [])),(9,(.data .bool t9_1))] [.cell (.data .yg o1_1),.row .ya o2 0,.cell (.data .ye o0_2)])) x:=by kernel_rfl
theorem l30_19 (N:Nat):z0s (x30 N) (z02 19 (z00 b30)):=
 z0h (G30_19 N) (by kernel_rfl) (by kernel_rfl) (by kernel_rfl) fun R k d=>
  z0g (st:=fun (x:Int)=>([(76,(.data .ya x)),(11,(.bptr 0 [])),(3,(.bptr 1 [])),(1,(.data .yj d.1.2.2.2.1)),(2,(.data .ya d.1.2.2.2.2.1)),(8,(.ref 2 [] 0)),(45,(.data .yj d.1.2.2.2.2.2.2.1)),(46,(.data .ya d.1.2.2.2.2.2.2.2.1)),(47,(.data .ya d.1.2.2.2.2.2.2.2.2.1)),(9,(.data .bool d.1.2.2.2.2.2.2.2.2.2.1)),(75,(.data .ya d.1.2.2.2.2.2.2.2.2.2.2.1))],[.cell (.data .ye d.2.1),.cell (.data .yg d.2.2.1),.row .ya d.2.2.2.1 0])) (s30_19 N k d.1.2.2.2.1 d.1.2.2.2.2.1 d.1.2.2.2.2.2.2.1 d.1.2.2.2.2.2.2.2.1 d.1.2.2.2.2.2.2.2.2.1 d.1.2.2.2.2.2.2.2.2.2.1 d.1.2.2.2.2.2.2.2.2.2.2.1 d.2.1 d.2.2.1 d.2.2.2.1) N d.1.1
theorem s30_14 (N:Nat) {R:Type} (k:AExit->St->Option R) (t1_1:List Yd) (t2_1:Int) (t45:List Yd) (t46:Int) (o0_1:Ye) (o1:List Int) (kb:List Yk->List Obj->Option R) (x:Int×Bool):z0w (x30 N) (z02 14 (z00 b30)) (St.of [(3,(.bptr 0 [])),(1,(.data .yj t1_1)),(47,(.data .ya x.1)),(2,(.data .ya t2_1)),(9,(.data .bool x.2)),(8,(.ref 1 [] 0)),(45,(.data .yj t45)),(46,(.data .ya t46))] [.cell (.data .yg o0_1),.row .ya o1 0]) (z1k (x30 N) 14 ⟨[3,1,47,2,9,8,45,46],[]⟩ kb k)=zdp N t1_1 t2_1 t45 t46 o0_1 o1 (fun y=>kb [(3,(.bptr 0 [])),(1,(.data .yj t1_1)),(47,(.data .ya y.1)),(2,(.data .ya t2_1)),(9,(.data .bool y.2)),(8,(.ref 1 [] 0)),(45,(.data .yj t45)),(46,(.data .ya t46))] [.cell (.data .yg o0_1),.row .ya o1 0])
  (fun y0=>k .ret (St.of [(6,(.data .ya y0))] []))
  (fun y0=>k (.exit 2) (St.of [(9,(.data .bool y0))] [])) x:=by kernel_rfl
theorem l30_14 (N:Nat):z0s (x30 N) (z02 14 (z00 b30)):=
 z0h (G30_14 N) (by kernel_rfl) (by kernel_rfl) (by kernel_rfl) fun R k d=>
  z0g (st:=fun (x:Int×Bool)=>([(3,(.bptr 0 [])),(1,(.data .yj d.1.2.1)),(47,(.data .ya x.1)),(2,(.data .ya d.1.2.2.2.1)),(9,(.data .bool x.2)),(8,(.ref 1 [] 0)),(45,(.data .yj d.1.2.2.2.2.2.2.1)),(46,(.data .ya d.1.2.2.2.2.2.2.2.1))],[.cell (.data .yg d.2.1),.row .ya d.2.2.1 0])) (s30_14 N k d.1.2.1 d.1.2.2.2.1 d.1.2.2.2.2.2.2.1 d.1.2.2.2.2.2.2.2.1 d.2.1 d.2.2.1) N (d.1.2.2.1,d.1.2.2.2.2.1)
theorem e30 (N:Nat) (a0:Ye) (a1:List Yd) (a2:Int):z1u (x30 N) [.ya] [.tmp 6] b30 (entry (.pr (.val .yg) (.pr (.val .yj) (.pr (.val .ya) .un))) (a0,(a1,(a2,()))))=f30 N a0 a1 a2:=by kernel_rfl
theorem k30 (N:Nat):z04 Go.Proofs.Try.prog 30 (c30 N):=
 z1v (fn:=Go.Proofs.Try.f30) (body:=b30) (c:=x30 N) Go.Proofs.Try.func30 (by kernel_rfl) (by kernel_rfl) ⟨ttL_ok,z0o,z0q,z0r,z0p,z03 (z01 (k28 N)) (z03 (z01 (k21 N)) (z03 (z01 (k39 N)) (z03 (z01 (k72 N)) (z03 (z01 (k41 N)) (z03 (z01 (k73 N)) (z0c))))))⟩ mixed (by kernel_rfl) (zL (by kernel_rfl)) (by kernel_rfl) (by decide)
  (z09 (by kernel_rfl:z00 b30=[z02 6 (z00 b30),z02 14 (z00 b30),z02 19 (z00 b30)]) (.cons (l30_6 N) (.cons (l30_14 N) (.cons (l30_19 N) .nil)))) fun d=>e30 N d.1 d.2.1 d.2.2.1
def f10 (N:Nat) (a0:Ye) (a1:List Yd) (a2:Int):Option (Bool):=
 (f11 N).bind fun r=>
 cond (!r)
  (some false)
  ((f12 N a0 ([]:List Ya) 8 4).bind fun r_1=>
  (cond (!r_1)
    (some true)
    (some (decide (80 < (len a1))))).bind fun b=>
  cond b
   (some true)
   ((f29 N a0 a1 a2).bind fun r_2=>
   (f30 N a0 a1 a2).bind fun r_3=>
   some (decide (r_2=r_3))))
def c10 (N:Nat):Callee:=.pure (.pr (.val .yg) (.pr (.val .yj) (.pr (.val .ya) .un))) [.bool] fun d=>f10 N d.1 d.2.1 d.2.2.1
def lp10 (N:Nat):Nat->Option z0n:=fun r=>none
def x10 (N:Nat):Ctx:=(mkX N 26 [(11,[c11 N]),(12,[c12 N]),(29,[c29 N]),(30,[c30 N])] [] [] ⟨[6],[]⟩ (fun _=>none) (lp10 N))
noncomputable def b10:Code:=((Go.Proofs.Try.f10).body).getD .skip
theorem e10 (N:Nat) (a0:Ye) (a1:List Yd) (a2:Int):z1u (x10 N) [.bool] [.tmp 6] b10 (entry (.pr (.val .yg) (.pr (.val .yj) (.pr (.val .ya) .un))) (a0,(a1,(a2,()))))=f10 N a0 a1 a2:=by kernel_rfl
theorem k10 (N:Nat):z04 Go.Proofs.Try.prog 10 (c10 N):=
 z1v (fn:=Go.Proofs.Try.f10) (body:=b10) (c:=x10 N) Go.Proofs.Try.func10 (by kernel_rfl) (by kernel_rfl) ⟨ttL_ok,z0o,z0q,z0r,z0p,z03 (z01 (k11 N)) (z03 (z01 (k12 N)) (z03 (z01 (k29 N)) (z03 (z01 (k30 N)) (z0c))))⟩ mixed (by kernel_rfl) (zL (by kernel_rfl)) (by kernel_rfl) (by decide)
  (z09 (by kernel_rfl:z00 b10=[]) .nil) fun d=>e10 N d.1 d.2.1 d.2.2.1
end
end Go.Kz
