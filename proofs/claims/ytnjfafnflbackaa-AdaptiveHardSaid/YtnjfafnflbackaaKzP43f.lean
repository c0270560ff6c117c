/-
  The functions of the program as plain functions on lists and numbers, and the proofs that the program computes them. Printed by a program.
-/
import Derived.Test.YtnjfafnflbackaaKzP43e
set_option linter.unusedSimpArgs false
set_option maxRecDepth 100000
set_option linter.unusedVariables false
namespace Go.Kz
open Go.Proofs
noncomputable section
def zju {R:Type} (N:Nat) (t1:List Yd) (t22:List Yd) (t2:Int) (t23:Int) (o1:Ye) (kb:Int×Yy->Option R) (kret:Int->Option R) (kx0:Yy->Option R):Int×Yy->Option R:=
 fun (t24,o0)=>
  cond (decide (t24 < t23))
   ((idx t22 t24).bind fun x=>
   (cond (decide (0 < t24))
     ((idx t1 (z0i (t24-1))).bind fun x_1=>
     some (decide (x.1≤x_1.1)))
     (some false)).bind fun b=>
   cond b
    (kret 10)
    (kb ((z0i (t24+1)),(zb7 (z2y .ya) o0 x.1 x.2.1))))
   (kx0 o0)
def zdo {R:Type} (N:Nat) (t50:List Yd) (t2_1:Int) (t51:Int) (o1_1:Ye) (o2:List Int) (kb:Int×Yy->Option R) (kret:Int->Option R) (kx2:Yy->Option R):Int×Yy->Option R:=
 fun (t52,o0_2)=>
  cond (decide (t52 < t51))
   ((idx t50 t52).bind fun x_2=>
   cond (decide (x_2.1 < 1))
    (z51 [kret 13,
     kret 13])
    (z51 [(f35 N o1_1).bind fun r_2=>
     cond (decide (r_2 < x_2.1))
      (kret 13)
      (cond (decide (0 < x_2.2.1))
       ((f70 N o2 x_2.1).bind fun r_3=>
       cond r_3
        (kret 13)
        (cond (decide (1 < x_2.2.1))
         ((f71 N o1_1 x_2 o0_2).bind fun r_4=>
         cond (!r_4.1.2.1)
          (kret 13)
          (kb ((z0i (t52+1)),r_4.2.1)))
         (kb ((z0i (t52+1)),o0_2))))
       (cond (decide (1 < x_2.2.1))
        ((f71 N o1_1 x_2 o0_2).bind fun r_5=>
        cond (!r_5.1.2.1)
         (kret 13)
         (kb ((z0i (t52+1)),r_5.2.1)))
        (kb ((z0i (t52+1)),o0_2)))),
     (f35 N o1_1).bind fun r_6=>
     cond (decide (r_6 < x_2.1))
      (kret 13)
      (cond (decide (0 < x_2.2.1))
       ((f70 N o2 x_2.1).bind fun r_7=>
       cond r_7
        (kret 13)
        (cond (decide (1 < x_2.2.1))
         ((f71 N o1_1 x_2 o0_2).bind fun r_8=>
         cond (!r_8.1.2.1)
          (kret 13)
          (kb ((z0i (t52+1)),r_8.2.1)))
         (kb ((z0i (t52+1)),o0_2))))
       (cond (decide (1 < x_2.2.1))
        ((f71 N o1_1 x_2 o0_2).bind fun r_9=>
        cond (!r_9.1.2.1)
         (kret 13)
         (kb ((z0i (t52+1)),r_9.2.1)))
        (kb ((z0i (t52+1)),o0_2))))]))
   (kx2 o0_2)
def f29 (N:Nat) (a0:Ye) (a1:List Yd) (a2:Int):Option (Int):=
 (f68 N a0).bind fun r=>
 cond (!(decide (r=0)))
  (some 1)
  (cond (decide (4096 < (len a1)))
   (some 4)
   (iter (fun w=>zju N a1 a1 a2 (len a1) a0 w
    (fun t6=>
     some t6)
    (fun o0_1=>
     (f69 N a0).bind fun r_1=>
     iter (fun w=>zdo N a1 a2 (len a1) a0 r_1 w
      (fun t6_1=>
       some t6_1)
      (fun o1_2=>
       (f35 N a0).bind fun r_10=>
       (cond (decide (0 < a2))
         ((cond (!(Option.isSome (z8f (z2y .ya) o1_2 r_10)))
           (some true)
           (some (decide ((Option.getD (z8f (z2y .ya) o1_2 r_10) 0) < a2)))).bind fun b_1=>
         some b_1)
         (some false)).bind fun b_2=>
       cond b_2
        (some 13)
        (some 0))) N (0,o0_1))) N (0,([]:List Yq))))
def c29 (N:Nat):Callee:=.pure (.pr (.val .yg) (.pr (.val .yn) (.pr (.val .ya) .un))) [.ya] fun d=>f29 N d.1 d.2.1 d.2.2.1
def F29_7:SForm:=⟨[(24,(.val .ya)),(7,(.mref 0)),(1,(.val .yn)),(22,(.val .yn)),(3,(.bptr 1 [])),(2,(.val .ya)),(23,(.val .ya))],[.map .ya .ya,.cell (.val .yg)]⟩
def G29_7 (N:Nat):(R:Type)->F29_7.den->(AExit->St->Option R)->Option R:=fun R d k=>iter (fun kb=>zju N d.1.2.2.1 d.1.2.2.2.1 d.1.2.2.2.2.2.1 d.1.2.2.2.2.2.2.1 d.2.2.1 kb
  (fun y0=>k .ret (St.of [(6,(.data .ya y0))] []))
  (fun y2=>k (.exit 0) (St.of [(7,(.mref 0)),(3,(.bptr 1 [])),(2,(.data .ya d.1.2.2.2.2.2.1)),(1,(.data .yn d.1.2.2.1))] [.map .ya .ya y2,.cell (.data .yg d.2.2.1)]))) N (d.1.1,d.2.1)
def F29_15:SForm:=⟨[(52,(.val .ya)),(7,(.mref 0)),(3,(.bptr 1 [])),(10,(.ref 2)),(50,(.val .yn)),(2,(.val .ya)),(51,(.val .ya))],[.map .ya .ya,.cell (.val .yg),.row .ya]⟩
def G29_15 (N:Nat):(R:Type)->F29_15.den->(AExit->St->Option R)->Option R:=fun R d k=>iter (fun kb=>zdo N d.1.2.2.2.2.1 d.1.2.2.2.2.2.1 d.1.2.2.2.2.2.2.1 d.2.2.1 d.2.2.2.1 kb
  (fun y0=>k .ret (St.of [(6,(.data .ya y0))] []))
  (fun y2=>k (.exit 2) (St.of [(2,(.data .ya d.1.2.2.2.2.2.1)),(3,(.bptr 0 [])),(7,(.mref 1))] [.cell (.data .yg d.2.2.1),.map .ya .ya y2]))) N (d.1.1,d.2.1)
def lp29 (N:Nat):Nat->Option z0o:=fun r=>cond (Nat.beq r 7) (some fun R sl os k=>F29_7.take sl os fun d=>G29_7 N R d k) (cond (Nat.beq r 15) (some fun R sl os k=>F29_15.take sl os fun d=>G29_15 N R d k) (none))
def x29 (N:Nat):Ctx:=(mkX N 108 [(68,[c68 N]),(69,[c69 N]),(35,[c35 N]),(70,[c70 N]),(71,[c71 N])] [(7,⟨[24,7,1,22,3,2,23],[]⟩),(15,⟨[52,7,3,10,50,2,51],[]⟩)] [(7,[(0,⟨[7,3,2,1],[]⟩)]),(15,[(2,⟨[2,3,7],[]⟩)])] ⟨[6],[]⟩ (fun _=>none) (lp29 N))
noncomputable def b29:Code:=((Go.Proofs.Try.f29).body).getD .skip
theorem s29_7 (N:Nat) {R:Type} (k:AExit->St->Option R) (t1:List Yd) (t22:List Yd) (t2:Int) (t23:Int) (o1:Ye) (kb:List Yl->List Obj->Option R) (x:Int×Yy):z0w (x29 N) (z02 7 (z00 b29)) (St.of [(24,(.data .ya x.1)),(7,(.mref 0)),(1,(.data .yn t1)),(22,(.data .yn t22)),(3,(.bptr 1 [])),(2,(.data .ya t2)),(23,(.data .ya t23))] [.map .ya .ya x.2,.cell (.data .yg o1)]) (z1m (x29 N) 7 ⟨[24,7,1,22,3,2,23],[]⟩ kb k)=zju N t1 t22 t2 t23 o1 (fun y=>kb [(24,(.data .ya y.1)),(7,(.mref 0)),(1,(.data .yn t1)),(22,(.data .yn t22)),(3,(.bptr 1 [])),(2,(.data .ya t2)),(23,(.data .ya t23))] [.map .ya .ya y.2,.cell (.data .yg o1)])
  (fun y0=>k .ret (St.of [(6,(.data .ya y0))] []))
  (fun y2=>k (.exit 0) (St.of [(7,(.mref 0)),(3,(.bptr 1 [])),(2,(.data .ya t2)),(1,(.data .yn t1))] [.map .ya .ya y2,.cell (.data .yg o1)])) x:=by kernel_rfl
theorem l29_7 (N:Nat):z0n (x29 N) (z02 7 (z00 b29)):=
 z0h (G29_7 N) (by kernel_rfl) (by kernel_rfl) (by kernel_rfl) fun R k d=>
  z0g (st:=fun (x:Int×Yy)=>([(24,(.data .ya x.1)),(7,(.mref 0)),(1,(.data .yn d.1.2.2.1)),(22,(.data .yn d.1.2.2.2.1)),(3,(.bptr 1 [])),(2,(.data .ya d.1.2.2.2.2.2.1)),(23,(.data .ya d.1.2.2.2.2.2.2.1))],[.map .ya .ya x.2,.cell (.data .yg d.2.2.1)])) (s29_7 N k d.1.2.2.1 d.1.2.2.2.1 d.1.2.2.2.2.2.1 d.1.2.2.2.2.2.2.1 d.2.2.1) N (d.1.1,d.2.1)
theorem s29_15 (N:Nat) {R:Type} (k:AExit->St->Option R) (t50:List Yd) (t2_1:Int) (t51:Int) (o1_1:Ye) (o2:List Int) (kb:List Yl->List Obj->Option R) (x:Int×Yy):z0w (x29 N) (z02 15 (z00 b29)) (St.of [(52,(.data .ya x.1)),(7,(.mref 0)),(3,(.bptr 1 [])),(10,(.ref 2 [] 0)),(50,(.data .yn t50)),(2,(.data .ya t2_1)),(51,(.data .ya t51))] [.map .ya .ya x.2,.cell (.data .yg o1_1),.row .ya o2 0]) (z1m (x29 N) 15 ⟨[52,7,3,10,50,2,51],[]⟩ kb k)=zdo N t50 t2_1 t51 o1_1 o2 (fun y=>kb [(52,(.data .ya y.1)),(7,(.mref 0)),(3,(.bptr 1 [])),(10,(.ref 2 [] 0)),(50,(.data .yn t50)),(2,(.data .ya t2_1)),(51,(.data .ya t51))] [.map .ya .ya y.2,.cell (.data .yg o1_1),.row .ya o2 0])
  (fun y0=>k .ret (St.of [(6,(.data .ya y0))] []))
  (fun y2=>k (.exit 2) (St.of [(2,(.data .ya t2_1)),(3,(.bptr 0 [])),(7,(.mref 1))] [.cell (.data .yg o1_1),.map .ya .ya y2])) x:=by kernel_rfl
theorem l29_15 (N:Nat):z0n (x29 N) (z02 15 (z00 b29)):=
 z0h (G29_15 N) (by kernel_rfl) (by kernel_rfl) (by kernel_rfl) fun R k d=>
  z0g (st:=fun (x:Int×Yy)=>([(52,(.data .ya x.1)),(7,(.mref 0)),(3,(.bptr 1 [])),(10,(.ref 2 [] 0)),(50,(.data .yn d.1.2.2.2.2.1)),(2,(.data .ya d.1.2.2.2.2.2.1)),(51,(.data .ya d.1.2.2.2.2.2.2.1))],[.map .ya .ya x.2,.cell (.data .yg d.2.2.1),.row .ya d.2.2.2.1 0])) (s29_15 N k d.1.2.2.2.2.1 d.1.2.2.2.2.2.1 d.1.2.2.2.2.2.2.1 d.2.2.1 d.2.2.2.1) N (d.1.1,d.2.1)
theorem e29 (N:Nat) (a0:Ye) (a1:List Yd) (a2:Int):z24 (x29 N) [.ya] [.tmp 6] b29 (entry (.pr (.val .yg) (.pr (.val .yn) (.pr (.val .ya) .un))) (a0,(a1,(a2,()))))=f29 N a0 a1 a2:=by kernel_rfl
theorem k29 (N:Nat):z04 Go.Proofs.Try.prog 29 (c29 N):=
 z29 (fn:=Go.Proofs.Try.f29) (body:=b29) (c:=x29 N) Go.Proofs.Try.func29 (by kernel_rfl) (by kernel_rfl) ⟨ttL_ok,z0p,z0r,z0s,z0q,z03 (z01 (k68 N)) (z03 (z01 (k69 N)) (z03 (z01 (k35 N)) (z03 (z01 (k70 N)) (z03 (z01 (k71 N)) (z0e)))))⟩ mixed (by kernel_rfl) (zL (by kernel_rfl)) (by kernel_rfl) (by decide)
  (z0a (by kernel_rfl:z00 b29=[z02 7 (z00 b29),z02 15 (z00 b29)]) (.cons (l29_7 N) (.cons (l29_15 N) .nil))) fun d=>e29 N d.1 d.2.1 d.2.2.1
def f9 (N:Nat) (a0:Ye) (a1:(List Yd×(Int×(List Yk×Unit)))):Option (Bool):=
 (f11 N).bind fun r=>
 cond (!r)
  (some false)
  ((f12 N a0 ([]:List Ya) 10 5).bind fun r_1=>
  (cond (!r_1)
    (some true)
    (some (decide (200 < (len a1.1))))).bind fun b=>
  (cond b
    (some true)
    (some (decide (60 < (len a1.2.2.1))))).bind fun b_1=>
  (cond b_1
    (some true)
    ((f28 N a0).bind fun r_2=>
    some (!r_2))).bind fun b_2=>
  (cond b_2
    (some true)
    ((f16 N a0 a1.2.2.1).bind fun r_3=>
    some (!r_3))).bind fun b_3=>
  cond b_3
   (some true)
   ((f17 N a0 a1.2.2.1).bind fun r_4=>
   (f21 N a0).bind fun r_5=>
   (f27 N r_4.1 r_5).bind fun r_6=>
   (cond (!r_6)
     (some true)
     ((f29 N a0 a1.1 a1.2.1).bind fun r_7=>
     some (!(decide (r_7=0))))).bind fun b_4=>
   cond b_4
    (some true)
    (some (decide (a1.2.1≤r_4.2)))))
def c9 (N:Nat):Callee:=.pure (.pr (.val .yg) (.pr (.val (.pair .yn (.pair .ya .yu))) .un)) [.bool] fun d=>f9 N d.1 d.2.1
def lp9 (N:Nat):Nat->Option z0o:=fun r=>none
def x9 (N:Nat):Ctx:=(mkX N 61 [(11,[c11 N]),(12,[c12 N]),(28,[c28 N]),(16,[c16 N]),(17,[c17 N]),(21,[c21 N]),(27,[c27 N]),(29,[c29 N])] [] [] ⟨[4],[]⟩ (fun _=>none) (lp9 N))
noncomputable def b9:Code:=((Go.Proofs.Try.f9).body).getD .skip
theorem e9 (N:Nat) (a0:Ye) (a1:(List Yd×(Int×(List Yk×Unit)))):z24 (x9 N) [.bool] [.tmp 4] b9 (entry (.pr (.val .yg) (.pr (.val (.pair .yn (.pair .ya .yu))) .un)) (a0,(a1,())))=f9 N a0 a1:=by kernel_rfl
theorem k9 (N:Nat):z04 Go.Proofs.Try.prog 9 (c9 N):=
 z29 (fn:=Go.Proofs.Try.f9) (body:=b9) (c:=x9 N) Go.Proofs.Try.func9 (by kernel_rfl) (by kernel_rfl) ⟨ttL_ok,z0p,z0r,z0s,z0q,z03 (z01 (k11 N)) (z03 (z01 (k12 N)) (z03 (z01 (k28 N)) (z03 (z01 (k16 N)) (z03 (z01 (k17 N)) (z03 (z01 (k21 N)) (z03 (z01 (k27 N)) (z03 (z01 (k29 N)) (z0e))))))))⟩ mixed (by kernel_rfl) (zL (by kernel_rfl)) (by kernel_rfl) (by decide)
  (z0a (by kernel_rfl:z00 b9=[]) .nil) fun d=>e9 N d.1 d.2.1
end
end Go.Kz
