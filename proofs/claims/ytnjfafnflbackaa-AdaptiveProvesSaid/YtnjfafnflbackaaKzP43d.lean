/-
  The functions of the program as plain functions on lists and numbers, and the proofs that the program computes them. Printed by a program.
-/
import Derived.Test.YtnjfafnflbackaaKzP43c
set_option linter.unusedSimpArgs false
set_option maxRecDepth 100000
set_option linter.unusedVariables false
namespace Go.Kz
open Go.Proofs
noncomputable section
def zgg {R:Type} (N:Nat) (t3:List Yn) (t1:List Ya) (t4:Int) (t2:Int) (t31:Int) (o0:Ye) (kb:Int->Option R) (kret:Int->Option R) (kx0:Unit->Option R):Int->Option R:=
 fun t32=>
  cond (decide (t32 < t31))
   ((cond (decide (0 < t32))
     ((idx t3 (z0i (t32-1))).bind fun x=>
     (idx t3 t32).bind fun x_1=>
     (f38 N x x_1).bind fun r_1=>
     some (!r_1))
     (some false)).bind fun b=>
   cond b
    (kret 10)
    (kb (z0i (t32+1))))
   (kx0 ())
def zgj {R:Type} (N:Nat) (t1_1:List Ya) (t51:List Yn) (t3_1:List Yn) (t4_1:Int) (t2_1:Int) (t52:Int) (o0_1:Ye) (kb:Int->Option R) (kret:Int->Option R) (kx2:Unit->Option R):Int->Option R:=
 fun t53=>
  cond (decide (t53 < t52))
   ((idx t51 t53).bind fun x_2=>
   (cond (decide (x_2.2.1 < 0))
     (some true)
     (some (decide (x_2.1 < 1)))).bind fun b_1=>
   (cond b_1
     (some true)
     ((f39 N o0_1).bind fun r_2=>
     some (decide (r_2 < x_2.1)))).bind fun b_2=>
   (cond b_2
     (some true)
     ((f40 N o0_1 t1_1 x_2.1).bind fun r_3=>
     some (decide (x_2.2.2.1 < r_3)))).bind fun b_3=>
   (cond b_3
     (some true)
     (some (decide (1099511627776 < x_2.2.2.1)))).bind fun b_4=>
   cond b_4
    (kret 13)
    (kb (z0i (t53+1))))
   (kx2 ())
def zd0 {R:Type} (N:Nat) (t3_4:List Yn) (t88_2:List Yn) (t4_4:Int) (t2_4:Int) (t89_2:Int) (t90_2:Int) (t96_1:Int) (t97_1:Int) (t108:Int) (o0_4:Yn) (o1_1:List Int) (o2:Ye) (kb:Int×Int->Option R) (kret:Int->Option R) (kx8:Int->Option R):Int×Int->Option R:=
 fun (t109,t17)=>
  cond (decide (t109 < t108))
   (chk (inb o1_1 t109) <|
   (idx o1_1 t109).bind fun x_4=>
   (f42 N t3_4 x_4 (z0i (o0_4.2.1-1))).bind fun r_5=>
   cond (decide (r_5 < 0))
    (kret 13)
    ((idx t3_4 r_5).bind fun x_5=>
    kb ((z0i (t109+1)),(z0i (t17+x_5.2.2.1)))))
   (kx8 t17)
def zgh {R:Type} (N:Nat) (t3_3:List Yn) (t88_1:List Yn) (t4_3:Int) (t2_3:Int) (t89_1:Int) (t90_1:Int) (t96:Int) (o0_3:Yn) (o1:Ye) (kb:Int->Option R) (kret:Int->Option R) (kx6:Unit->Option R):Int->Option R:=
 fun t97=>
  cond (decide (t97 < t96))
   (cond (decide (o0_3.2.1=0))
    (kb (z0i (t97+1)))
    ((f41 N o1 o0_3.1 t97).bind fun r_4=>
    iter (fun w=>zd0 N t3_3 t88_1 t4_3 t2_3 t89_1 t90_1 t96 t97 (len r_4) o0_3 r_4 o1 w
     (fun t10_2=>
      kret t10_2)
     (fun t17_1=>
      cond (decide (o0_3.2.2.1 < t17_1))
       (kret 13)
       (kb (z0i (t97+1))))) N (0,0)))
   (kx6 ())
def zgi {R:Type} (N:Nat) (t3_2:List Yn) (t88:List Yn) (t4_2:Int) (t2_2:Int) (t89:Int) (o0_2:Ye) (kb:Int->Option R) (kret:Int->Option R) (kx4:Unit->Option R):Int->Option R:=
 fun t90=>
  cond (decide (t90 < t89))
   ((idx t88 t90).bind fun x_3=>
   iter (fun w=>zgh N t3_2 t88 t4_2 t2_2 t89 t90 (len o0_2.2.1) x_3 o0_2 w
    (fun t10_3=>
     kret t10_3)
    (fun (_:Unit)=>
     kb (z0i (t90+1)))) N 0)
   (kx4 ())
def f14 (N:Nat) (a0:Ye) (a1:List Ya) (a2:Int) (a3:List Yn) (a4:Int):Option (Int):=
 (f15 N a0 a1 a2).bind fun r=>
 cond (!r)
  (some 1)
  (cond (decide (4096 < (len a3)))
   (some 4)
   (iter (fun w=>zgg N a3 a1 a4 a2 (len a3) a0 w
    (fun t10=>
     some t10)
    (fun (_:Unit)=>
     iter (fun w=>zgj N a1 a3 a3 a4 a2 (len a3) a0 w
      (fun t10_1=>
       some t10_1)
      (fun (_:Unit)=>
       iter (fun w=>zgi N a3 a3 a4 a2 (len a3) a0 w
        (fun t10_4=>
         some t10_4)
        (fun (_:Unit)=>
         (f39 N a0).bind fun r_6=>
         (f42 N a3 r_6 a2).bind fun r_7=>
         (cond (decide (r_7 < 0))
           (some true)
           ((idx a3 r_7).bind fun x_6=>
           some (decide (a4 < x_6.2.2.1)))).bind fun b_5=>
         cond b_5
          (some 13)
          (some 0))) N 0)) N 0)) N 0))
def c14 (N:Nat):Callee:=.pure (.pr (.val .yg) (.pr (.val .yc) (.pr (.val .ya) (.pr (.val .yi) (.pr (.val .ya) .un))))) [.ya] fun d=>f14 N d.1 d.2.1 d.2.2.1 d.2.2.2.1 d.2.2.2.2.1
def F14_6:SForm:=⟨[(32,(.val .ya)),(3,(.val .yi)),(1,(.val .yc)),(5,(.bptr 0 [])),(4,(.val .ya)),(2,(.val .ya)),(31,(.val .ya))],[.cell (.val .yg)]⟩
def G14_6 (N:Nat):(R:Type)->F14_6.den->(AExit->St->Option R)->Option R:=fun R d k=>iter (fun kb=>zgg N d.1.2.1 d.1.2.2.1 d.1.2.2.2.2.1 d.1.2.2.2.2.2.1 d.1.2.2.2.2.2.2.1 d.2.1 kb
  (fun y0=>k .ret (St.of [(10,(.data .ya y0))] []))
  (fun _=>k (.exit 0) (St.of [(1,(.data .yc d.1.2.2.1)),(5,(.bptr 0 [])),(3,(.data .yi d.1.2.1)),(4,(.data .ya d.1.2.2.2.2.1)),(2,(.data .ya d.1.2.2.2.2.2.1))] [.cell (.data .yg d.2.1)]))) N d.1.1
def F14_12:SForm:=⟨[(53,(.val .ya)),(1,(.val .yc)),(5,(.bptr 0 [])),(51,(.val .yi)),(3,(.val .yi)),(4,(.val .ya)),(2,(.val .ya)),(52,(.val .ya))],[.cell (.val .yg)]⟩
def G14_12 (N:Nat):(R:Type)->F14_12.den->(AExit->St->Option R)->Option R:=fun R d k=>iter (fun kb=>zgj N d.1.2.1 d.1.2.2.2.1 d.1.2.2.2.2.1 d.1.2.2.2.2.2.1 d.1.2.2.2.2.2.2.1 d.1.2.2.2.2.2.2.2.1 d.2.1 kb
  (fun y0=>k .ret (St.of [(10,(.data .ya y0))] []))
  (fun _=>k (.exit 2) (St.of [(3,(.data .yi d.1.2.2.2.2.1)),(5,(.bptr 0 [])),(4,(.data .ya d.1.2.2.2.2.2.1)),(2,(.data .ya d.1.2.2.2.2.2.2.1))] [.cell (.data .yg d.2.1)]))) N d.1.1
def F14_26:SForm:=⟨[(109,(.val .ya)),(3,(.val .yi)),(17,(.val .ya)),(15,(.bptr 0 [])),(107,(.ref 1)),(5,(.bptr 2 [])),(88,(.val .yi)),(4,(.val .ya)),(2,(.val .ya)),(89,(.val .ya)),(90,(.val .ya)),(96,(.val .ya)),(97,(.val .ya)),(108,(.val .ya))],[.cell (.val .yh),.row .ya,.cell (.val .yg)]⟩
def G14_26 (N:Nat):(R:Type)->F14_26.den->(AExit->St->Option R)->Option R:=fun R d k=>iter (fun kb=>zd0 N d.1.2.1 d.1.2.2.2.2.2.2.1 d.1.2.2.2.2.2.2.2.1 d.1.2.2.2.2.2.2.2.2.1 d.1.2.2.2.2.2.2.2.2.2.1 d.1.2.2.2.2.2.2.2.2.2.2.1 d.1.2.2.2.2.2.2.2.2.2.2.2.1 d.1.2.2.2.2.2.2.2.2.2.2.2.2.1 d.1.2.2.2.2.2.2.2.2.2.2.2.2.2.1 d.2.1 d.2.2.1 d.2.2.2.1 kb
  (fun y0=>k .ret (St.of [(10,(.data .ya y0))] []))
  (fun y8=>k (.exit 8) (St.of [(3,(.data .yi d.1.2.1)),(15,(.bptr 0 [])),(5,(.bptr 1 [])),(88,(.data .yi d.1.2.2.2.2.2.2.1)),(4,(.data .ya d.1.2.2.2.2.2.2.2.1)),(2,(.data .ya d.1.2.2.2.2.2.2.2.2.1)),(89,(.data .ya d.1.2.2.2.2.2.2.2.2.2.1)),(90,(.data .ya d.1.2.2.2.2.2.2.2.2.2.2.1)),(96,(.data .ya d.1.2.2.2.2.2.2.2.2.2.2.2.1)),(97,(.data .ya d.1.2.2.2.2.2.2.2.2.2.2.2.2.1)),(17,(.data .ya y8))] [.cell (.data .yh d.2.1),.cell (.data .yg d.2.2.2.1)]))) N (d.1.1,d.1.2.2.1)
def F14_21:SForm:=⟨[(97,(.val .ya)),(3,(.val .yi)),(15,(.bptr 0 [])),(5,(.bptr 1 [])),(88,(.val .yi)),(4,(.val .ya)),(2,(.val .ya)),(89,(.val .ya)),(90,(.val .ya)),(96,(.val .ya))],[.cell (.val .yh),.cell (.val .yg)]⟩
def G14_21 (N:Nat):(R:Type)->F14_21.den->(AExit->St->Option R)->Option R:=fun R d k=>iter (fun kb=>zgh N d.1.2.1 d.1.2.2.2.2.1 d.1.2.2.2.2.2.1 d.1.2.2.2.2.2.2.1 d.1.2.2.2.2.2.2.2.1 d.1.2.2.2.2.2.2.2.2.1 d.1.2.2.2.2.2.2.2.2.2.1 d.2.1 d.2.2.1 kb
  (fun y0=>k .ret (St.of [(10,(.data .ya y0))] []))
  (fun _=>k (.exit 6) (St.of [(3,(.data .yi d.1.2.1)),(5,(.bptr 0 [])),(88,(.data .yi d.1.2.2.2.2.1)),(4,(.data .ya d.1.2.2.2.2.2.1)),(2,(.data .ya d.1.2.2.2.2.2.2.1)),(89,(.data .ya d.1.2.2.2.2.2.2.2.1)),(90,(.data .ya d.1.2.2.2.2.2.2.2.2.1))] [.cell (.data .yg d.2.2.1)]))) N d.1.1
def F14_18:SForm:=⟨[(3,(.val .yi)),(5,(.bptr 0 [])),(90,(.val .ya)),(88,(.val .yi)),(4,(.val .ya)),(2,(.val .ya)),(89,(.val .ya))],[.cell (.val .yg)]⟩
def G14_18 (N:Nat):(R:Type)->F14_18.den->(AExit->St->Option R)->Option R:=fun R d k=>iter (fun kb=>zgi N d.1.1 d.1.2.2.2.1 d.1.2.2.2.2.1 d.1.2.2.2.2.2.1 d.1.2.2.2.2.2.2.1 d.2.1 kb
  (fun y0=>k .ret (St.of [(10,(.data .ya y0))] []))
  (fun _=>k (.exit 4) (St.of [(4,(.data .ya d.1.2.2.2.2.1)),(3,(.data .yi d.1.1)),(2,(.data .ya d.1.2.2.2.2.2.1)),(5,(.bptr 0 []))] [.cell (.data .yg d.2.1)]))) N d.1.2.2.1
def lp14 (N:Nat):Nat->Option z0m:=fun r=>cond (Nat.beq r 6) (some fun R sl os k=>F14_6.take sl os fun d=>G14_6 N R d k) (cond (Nat.beq r 12) (some fun R sl os k=>F14_12.take sl os fun d=>G14_12 N R d k) (cond (Nat.beq r 26) (some fun R sl os k=>F14_26.take sl os fun d=>G14_26 N R d k) (cond (Nat.beq r 21) (some fun R sl os k=>F14_21.take sl os fun d=>G14_21 N R d k) (cond (Nat.beq r 18) (some fun R sl os k=>F14_18.take sl os fun d=>G14_18 N R d k) (none)))))
def x14 (N:Nat):Ctx:=(mkX N 151 [(15,[c15 N]),(38,[c38 N]),(39,[c39 N]),(40,[c40 N]),(41,[c41 N]),(42,[c42 N])] [(6,⟨[32,3,1,5,4,2,31],[]⟩),(12,⟨[53,1,5,51,3,4,2,52],[]⟩),(18,⟨[3,5,90,88,4,2,89],[]⟩),(21,⟨[97,3,15,5,88,4,2,89,90,96],[]⟩),(26,⟨[109,3,17,15,107,5,88,4,2,89,90,96,97,108],[]⟩)] [(6,[(0,⟨[1,5,3,4,2],[]⟩)]),(12,[(2,⟨[3,5,4,2],[]⟩)]),(18,[(4,⟨[4,3,2,5],[]⟩)]),(21,[(6,⟨[3,5,88,4,2,89,90],[]⟩)]),(26,[(8,⟨[3,15,5,88,4,2,89,90,96,97,17],[]⟩)])] ⟨[10],[]⟩ (fun _=>none) (lp14 N))
noncomputable def b14:Code:=((Go.Proofs.Try.f14).body).getD .skip
theorem s14_6 (N:Nat) {R:Type} (k:AExit->St->Option R) (t3:List Yn) (t1:List Ya) (t4:Int) (t2:Int) (t31:Int) (o0:Ye) (kb:List Yl->List Obj->Option R) (x:Int):z0t (x14 N) (z02 6 (z00 b14)) (St.of [(32,(.data .ya x)),(3,(.data .yi t3)),(1,(.data .yc t1)),(5,(.bptr 0 [])),(4,(.data .ya t4)),(2,(.data .ya t2)),(31,(.data .ya t31))] [.cell (.data .yg o0)]) (z1g (x14 N) 6 ⟨[32,3,1,5,4,2,31],[]⟩ kb k)=zgg N t3 t1 t4 t2 t31 o0 (fun y=>kb [(32,(.data .ya y)),(3,(.data .yi t3)),(1,(.data .yc t1)),(5,(.bptr 0 [])),(4,(.data .ya t4)),(2,(.data .ya t2)),(31,(.data .ya t31))] [.cell (.data .yg o0)])
  (fun y0=>k .ret (St.of [(10,(.data .ya y0))] []))
  (fun _=>k (.exit 0) (St.of [(1,(.data .yc t1)),(5,(.bptr 0 [])),(3,(.data .yi t3)),(4,(.data .ya t4)),(2,(.data .ya t2))] [.cell (.data .yg o0)])) x:=by kernel_rfl
theorem l14_6 (N:Nat):z0l (x14 N) (z02 6 (z00 b14)):=
 z0g (G14_6 N) (by kernel_rfl) (by kernel_rfl) (by kernel_rfl) fun R k d=>
  z0f (st:=fun (x:Int)=>([(32,(.data .ya x)),(3,(.data .yi d.1.2.1)),(1,(.data .yc d.1.2.2.1)),(5,(.bptr 0 [])),(4,(.data .ya d.1.2.2.2.2.1)),(2,(.data .ya d.1.2.2.2.2.2.1)),(31,(.data .ya d.1.2.2.2.2.2.2.1))],[.cell (.data .yg d.2.1)])) (s14_6 N k d.1.2.1 d.1.2.2.1 d.1.2.2.2.2.1 d.1.2.2.2.2.2.1 d.1.2.2.2.2.2.2.1 d.2.1) N d.1.1
theorem s14_12 (N:Nat) {R:Type} (k:AExit->St->Option R) (t1_1:List Ya) (t51:List Yn) (t3_1:List Yn) (t4_1:Int) (t2_1:Int) (t52:Int) (o0_1:Ye) (kb:List Yl->List Obj->Option R) (x:Int):z0t (x14 N) (z02 12 (z00 b14)) (St.of [(53,(.data .ya x)),(1,(.data .yc t1_1)),(5,(.bptr 0 [])),(51,(.data .yi t51)),(3,(.data .yi t3_1)),(4,(.data .ya t4_1)),(2,(.data .ya t2_1)),(52,(.data .ya t52))] [.cell (.data .yg o0_1)]) (z1g (x14 N) 12 ⟨[53,1,5,51,3,4,2,52],[]⟩ kb k)=zgj N t1_1 t51 t3_1 t4_1 t2_1 t52 o0_1 (fun y=>kb [(53,(.data .ya y)),(1,(.data .yc t1_1)),(5,(.bptr 0 [])),(51,(.data .yi t51)),(3,(.data .yi t3_1)),(4,(.data .ya t4_1)),(2,(.data .ya t2_1)),(52,(.data .ya t52))] [.cell (.data .yg o0_1)])
  (fun y0=>k .ret (St.of [(10,(.data .ya y0))] []))
  (fun _=>k (.exit 2) (St.of [(3,(.data .yi t3_1)),(5,(.bptr 0 [])),(4,(.data .ya t4_1)),(2,(.data .ya t2_1))] [.cell (.data .yg o0_1)])) x:=by kernel_rfl
theorem l14_12 (N:Nat):z0l (x14 N) (z02 12 (z00 b14)):=
 z0g (G14_12 N) (by kernel_rfl) (by kernel_rfl) (by kernel_rfl) fun R k d=>
  z0f (st:=fun (x:Int)=>([(53,(.data .ya x)),(1,(.data .yc d.1.2.1)),(5,(.bptr 0 [])),(51,(.data .yi d.1.2.2.2.1)),(3,(.data .yi d.1.2.2.2.2.1)),(4,(.data .ya d.1.2.2.2.2.2.1)),(2,(.data .ya d.1.2.2.2.2.2.2.1)),(52,(.data .ya d.1.2.2.2.2.2.2.2.1))],[.cell (.data .yg d.2.1)])) (s14_12 N k d.1.2.1 d.1.2.2.2.1 d.1.2.2.2.2.1 d.1.2.2.2.2.2.1 d.1.2.2.2.2.2.2.1 d.1.2.2.2.2.2.2.2.1 d.2.1) N d.1.1
theorem s14_26 (N:Nat) {R:Type} (k:AExit->St->Option R) (t3_4:List Yn) (t88_2:List Yn) (t4_4:Int) (t2_4:Int) (t89_2:Int) (t90_2:Int) (t96_1:Int) (t97_1:Int) (t108:Int) (o0_4:Yn) (o1_1:List Int) (o2:Ye) (kb:List Yl->List Obj->Option R) (x:Int×Int):z0t (x14 N) (z02 26 (z00 b14)) (St.of [(109,(.data .ya x.1)),(3,(.data .yi t3_4)),(17,(.data .ya x.2)),(15,(.bptr 0 [])),(107,(.ref 1 [] 0)),(5,(.bptr 2 [])),(88,(.data .yi t88_2)),(4,(.data .ya t4_4)),(2,(.data .ya t2_4)),(89,(.data .ya t89_2)),(90,(.data .ya t90_2)),(96,(.data .ya t96_1)),(97,(.data .ya t97_1)),(108,(.data .ya t108))] [.cell (.data .yh o0_4),.row .ya o1_1 0,.cell (.data .yg o2)]) (z1g (x14 N) 26 ⟨[109,3,17,15,107,5,88,4,2,89,90,96,97,108],[]⟩ kb k)=zd0 N t3_4 t88_2 t4_4 t2_4 t89_2 t90_2 t96_1 t97_1 t108 o0_4 o1_1 o2 (fun y=>kb [(109,(.data .ya y.1)),(3,(.data .yi t3_4)),(17,(.data .ya y.2)),(15,(.bptr 0 [])),(107,(.ref 1 [] 0)),(5,(.bptr 2 [])),(88,(.data .yi t88_2)),(4,(.data .ya t4_4)),(2,(.data .ya t2_4)),(89,(.data .ya t89_2)),(90,(.data .ya t90_2)),(96,(.data .ya t96_1)),(97,(.data .ya t97_1)),(108,(.data .ya t108))] [.cell (.data .yh o0_4),.row .ya o1_1 0,.cell (.data .yg o2)])
  (fun y0=>k .ret (St.of [(10,(.data .ya y0))] []))
  (fun y8=>k (.exit 8) (St.of [(3,(.data .yi t3_4)),(15,(.bptr 0 [])),(5,(.bptr 1 [])),(88,(.data .yi t88_2)),(4,(.data .ya t4_4)),(2,(.data .ya t2_4)),(89,(.data .ya t89_2)),(90,(.data .ya t90_2)),(96,(.data .ya t96_1)),(97,(.data .ya t97_1)),(17,(.data .ya y8))] [.cell (.data .yh o0_4),.cell (.data .yg o2)])) x:=by kernel_rfl
theorem l14_26 (N:Nat):z0l (x14 N) (z02 26 (z00 b14)):=
 z0g (G14_26 N) (by kernel_rfl) (by kernel_rfl) (by kernel_rfl) fun R k d=>
  z0f (st:=fun (x:Int×Int)=>([(109,(.data .ya x.1)),(3,(.data .yi d.1.2.1)),(17,(.data .ya x.2)),(15,(.bptr 0 [])),(107,(.ref 1 [] 0)),(5,(.bptr 2 [])),(88,(.data .yi d.1.2.2.2.2.2.2.1)),(4,(.data .ya d.1.2.2.2.2.2.2.2.1)),(2,(.data .ya d.1.2.2.2.2.2.2.2.2.1)),(89,(.data .ya d.1.2.2.2.2.2.2.2.2.2.1)),(90,(.data .ya d.1.2.2.2.2.2.2.2.2.2.2.1)),(96,(.data .ya d.1.2.2.2.2.2.2.2.2.2.2.2.1)),(97,(.data .ya d.1.2.2.2.2.2.2.2.2.2.2.2.2.1)),(108,(.data .ya d.1.2.2.2.2.2.2.2.2.2.2.2.2.2.1))],[.cell (.data .yh d.2.1),.row .ya d.2.2.1 0,.cell (.data .yg d.2.2.2.1)])) (s14_26 N k d.1.2.1 d.1.2.2.2.2.2.2.1 d.1.2.2.2.2.2.2.2.1 d.1.2.2.2.2.2.2.2.2.1 d.1.2.2.2.2.2.2.2.2.2.1 d.1.2.2.2.2.2.2.2.2.2.2.1 d.1.2.2.2.2.2.2.2.2.2.2.2.1 d.1.2.2.2.2.2.2.2.2.2.2.2.2.1 d.1.2.2.2.2.2.2.2.2.2.2.2.2.2.1 d.2.1 d.2.2.1 d.2.2.2.1) N (d.1.1,d.1.2.2.1)
theorem s14_21 (N:Nat) {R:Type} (k:AExit->St->Option R) (t3_3:List Yn) (t88_1:List Yn) (t4_3:Int) (t2_3:Int) (t89_1:Int) (t90_1:Int) (t96:Int) (o0_3:Yn) (o1:Ye) (kb:List Yl->List Obj->Option R) (x:Int):z0t (x14 N) (z02 21 (z00 b14)) (St.of [(97,(.data .ya x)),(3,(.data .yi t3_3)),(15,(.bptr 0 [])),(5,(.bptr 1 [])),(88,(.data .yi t88_1)),(4,(.data .ya t4_3)),(2,(.data .ya t2_3)),(89,(.data .ya t89_1)),(90,(.data .ya t90_1)),(96,(.data .ya t96))] [.cell (.data .yh o0_3),.cell (.data .yg o1)]) (z1g (x14 N) 21 ⟨[97,3,15,5,88,4,2,89,90,96],[]⟩ kb k)=zgh N t3_3 t88_1 t4_3 t2_3 t89_1 t90_1 t96 o0_3 o1 (fun y=>kb [(97,(.data .ya y)),(3,(.data .yi t3_3)),(15,(.bptr 0 [])),(5,(.bptr 1 [])),(88,(.data .yi t88_1)),(4,(.data .ya t4_3)),(2,(.data .ya t2_3)),(89,(.data .ya t89_1)),(90,(.data .ya t90_1)),(96,(.data .ya t96))] [.cell (.data .yh o0_3),.cell (.data .yg o1)])
  (fun y0=>k .ret (St.of [(10,(.data .ya y0))] []))
  (fun _=>k (.exit 6) (St.of [(3,(.data .yi t3_3)),(5,(.bptr 0 [])),(88,(.data .yi t88_1)),(4,(.data .ya t4_3)),(2,(.data .ya t2_3)),(89,(.data .ya t89_1)),(90,(.data .ya t90_1))] [.cell (.data .yg o1)])) x:=by kernel_rfl
theorem l14_21 (N:Nat):z0l (x14 N) (z02 21 (z00 b14)):=
 z0g (G14_21 N) (by kernel_rfl) (by kernel_rfl) (by kernel_rfl) fun R k d=>
  z0f (st:=fun (x:Int)=>([(97,(.data .ya x)),(3,(.data .yi d.1.2.1)),(15,(.bptr 0 [])),(5,(.bptr 1 [])),(88,(.data .yi d.1.2.2.2.2.1)),(4,(.data .ya d.1.2.2.2.2.2.1)),(2,(.data .ya d.1.2.2.2.2.2.2.1)),(89,(.data .ya d.1.2.2.2.2.2.2.2.1)),(90,(.data .ya d.1.2.2.2.2.2.2.2.2.1)),(96,(.data .ya d.1.2.2.2.2.2.2.2.2.2.1))],[.cell (.data .yh d.2.1),.cell (.data .yg d.2.2.1)])) (s14_21 N k d.1.2.1 d.1.2.2.2.2.1 d.1.2.2.2.2.2.1 d.1.2.2.2.2.2.2.1 d.1.2.2.2.2.2.2.2.1 d.1.2.2.2.2.2.2.2.2.1 d.1.2.2.2.2.2.2.2.2.2.1 d.2.1 d.2.2.1) N d.1.1
theorem s14_18 (N:Nat) {R:Type} (k:AExit->St->Option R) (t3_2:List Yn) (t88:List Yn) (t4_2:Int) (t2_2:Int) (t89:Int) (o0_2:Ye) (kb:List Yl->List Obj->Option R) (x:Int):z0t (x14 N) (z02 18 (z00 b14)) (St.of [(3,(.data .yi t3_2)),(5,(.bptr 0 [])),(90,(.data .ya x)),(88,(.data .yi t88)),(4,(.data .ya t4_2)),(2,(.data .ya t2_2)),(89,(.data .ya t89))] [.cell (.data .yg o0_2)]) (z1g (x14 N) 18 ⟨[3,5,90,88,4,2,89],[]⟩ kb k)=zgi N t3_2 t88 t4_2 t2_2 t89 o0_2 (fun y=>kb [(3,(.data .yi t3_2)),(5,(.bptr 0 [])),(90,(.data .ya y)),(88,(.data .yi t88)),(4,(.data .ya t4_2)),(2,(.data .ya t2_2)),(89,(.data .ya t89))] [.cell (.data .yg o0_2)])
  (fun y0=>k .ret (St.of [(10,(.data .ya y0))] []))
  (fun _=>k (.exit 4) (St.of [(4,(.data .ya t4_2)),(3,(.data .yi t3_2)),(2,(.data .ya t2_2)),(5,(.bptr 0 []))] [.cell (.data .yg o0_2)])) x:=by kernel_rfl
theorem l14_18 (N:Nat):z0l (x14 N) (z02 18 (z00 b14)):=
 z0g (G14_18 N) (by kernel_rfl) (by kernel_rfl) (by kernel_rfl) fun R k d=>
  z0f (st:=fun (x:Int)=>([(3,(.data .yi d.1.1)),(5,(.bptr 0 [])),(90,(.data .ya x)),(88,(.data .yi d.1.2.2.2.1)),(4,(.data .ya d.1.2.2.2.2.1)),(2,(.data .ya d.1.2.2.2.2.2.1)),(89,(.data .ya d.1.2.2.2.2.2.2.1))],[.cell (.data .yg d.2.1)])) (s14_18 N k d.1.1 d.1.2.2.2.1 d.1.2.2.2.2.1 d.1.2.2.2.2.2.1 d.1.2.2.2.2.2.2.1 d.2.1) N d.1.2.2.1
theorem e14 (N:Nat) (a0:Ye) (a1:List Ya) (a2:Int) (a3:List Yn) (a4:Int):z1o (x14 N) [.ya] [.tmp 10] b14 (entry (.pr (.val .yg) (.pr (.val .yc) (.pr (.val .ya) (.pr (.val .yi) (.pr (.val .ya) .un))))) (a0,(a1,(a2,(a3,(a4,()))))))=f14 N a0 a1 a2 a3 a4:=by kernel_rfl
theorem k14 (N:Nat):z04 Go.Proofs.Try.prog 14 (c14 N):=
 z1t (fn:=Go.Proofs.Try.f14) (body:=b14) (c:=x14 N) Go.Proofs.Try.func14 (by kernel_rfl) (by kernel_rfl) ⟨ttL_ok,z0n,z0p,z0q,z0o,z03 (z01 (k15 N)) (z03 (z01 (k38 N)) (z03 (z01 (k39 N)) (z03 (z01 (k40 N)) (z03 (z01 (k41 N)) (z03 (z01 (k42 N)) (z0e))))))⟩ mixed (by kernel_rfl) (zL (by kernel_rfl)) (by kernel_rfl) (by decide)
  (z0b (by kernel_rfl:z00 b14=[z02 6 (z00 b14),z02 12 (z00 b14),z02 18 (z00 b14),z02 21 (z00 b14),z02 26 (z00 b14)]) (.cons (l14_6 N) (.cons (l14_12 N) (.cons (l14_18 N) (.cons (l14_21 N) (.cons (l14_26 N) .nil)))))) fun d=>e14 N d.1 d.2.1 d.2.2.1 d.2.2.2.1 d.2.2.2.2.1
def f3 (N:Nat) (a0:Ye) (a1:List Ya) (a2:(Int×(List Yn×Yc))):Option (Bool):=
 (f11 N).bind fun r=>
 cond (!r)
  (some false)
  ((f12 N a0 a1 8 4).bind fun r_1=>
  (cond (!r_1)
    (some true)
    (some (decide (80 < (len a2.2.1))))).bind fun b=>
  cond b
   (some true)
   ((f13 N a0 a1 a2.1 a2.2.1 a2.2.2.1).bind fun r_2=>
   (f14 N a0 a1 a2.1 a2.2.1 a2.2.2.1).bind fun r_3=>
   some (decide (r_2=r_3))))
def c3 (N:Nat):Callee:=.pure (.pr (.val .yg) (.pr (.val .yc) (.pr (.val .yu) .un))) [.bool] fun d=>f3 N d.1 d.2.1 d.2.2.1
def lp3 (N:Nat):Nat->Option z0m:=fun r=>none
def x3 (N:Nat):Ctx:=(mkX N 38 [(11,[c11 N]),(12,[c12 N]),(13,[c13 N]),(14,[c14 N])] [] [] ⟨[6],[]⟩ (fun _=>none) (lp3 N))
noncomputable def b3:Code:=((Go.Proofs.Try.f3).body).getD .skip
theorem e3 (N:Nat) (a0:Ye) (a1:List Ya) (a2:(Int×(List Yn×Yc))):z1o (x3 N) [.bool] [.tmp 6] b3 (entry (.pr (.val .yg) (.pr (.val .yc) (.pr (.val .yu) .un))) (a0,(a1,(a2,()))))=f3 N a0 a1 a2:=by kernel_rfl
theorem k3 (N:Nat):z04 Go.Proofs.Try.prog 3 (c3 N):=
 z1t (fn:=Go.Proofs.Try.f3) (body:=b3) (c:=x3 N) Go.Proofs.Try.func3 (by kernel_rfl) (by kernel_rfl) ⟨ttL_ok,z0n,z0p,z0q,z0o,z03 (z01 (k11 N)) (z03 (z01 (k12 N)) (z03 (z01 (k13 N)) (z03 (z01 (k14 N)) (z0e))))⟩ mixed (by kernel_rfl) (zL (by kernel_rfl)) (by kernel_rfl) (by decide)
  (z0b (by kernel_rfl:z00 b3=[]) .nil) fun d=>e3 N d.1 d.2.1 d.2.2.1
def zx4 {R:Type} (N:Nat) (t1_1:List Yk) (t5:Int) (t44:List Int) (t12_1:List Yk) (t13_1:Int) (t14_1:Int) (t45:Int) (o0_1:Ye) (kb:Int->Option R) (kret:Bool->Option R) (kx2:Unit->Option R):Int->Option R:=
 fun t46=>
  cond (decide (t46 < t45))
   ((idx t44 t46).bind fun x_2=>
   (cond (!(decide (x_2=(-1))))
     ((cond (decide (x_2≤t5))
       (some true)
       (some (decide ((len t1_1)≤x_2)))).bind fun b_2=>
     some b_2)
     (some false)).bind fun b_3=>
   cond b_3
    (kret false)
    (kb (z0i (t46+1))))
   (kx2 ())
def zx5 {R:Type} (N:Nat) (t1:List Yk) (t12:List Yk) (t13:Int) (o0:Ye) (kb:Int->Option R) (kret:Bool->Option R) (kx0:Unit->Option R):Int->Option R:=
 fun t14=>
  cond (decide (t14 < t13))
   ((idx t12 t14).bind fun x=>
   (cond (decide (x.1 < 0))
     (some true)
     (some (decide ((len o0.2.1)≤x.1)))).bind fun b=>
   (cond b
     (some true)
     ((idx o0.2.1 x.1).bind fun x_1=>
     (f44 N x_1).bind fun r=>
     some (!(decide ((len x.2.1)=r))))).bind fun b_1=>
   cond b_1
    (kret false)
    (iter (fun w=>zx4 N t1 t14 x.2.1 t12 t13 t14 (len x.2.1) o0 w
     (fun t4=>
      kret t4)
     (fun (_:Unit)=>
      kb (z0i (t14+1)))) N 0))
   (kx0 ())
def f16 (N:Nat) (a0:Ye) (a1:List Yk):Option (Bool):=
 cond (decide (256 < (len a1)))
  (some false)
  (iter (fun w=>zx5 N a1 a1 (len a1) a0 w
   (fun t4_1=>
    some t4_1)
   (fun (_:Unit)=>
    some true)) N 0)
def c16 (N:Nat):Callee:=.pure (.pr (.val .yg) (.pr (.val .ym) .un)) [.bool] fun d=>f16 N d.1 d.2.1
def F16_9:SForm:=⟨[(46,(.val .ya)),(1,(.val .ym)),(5,(.val .ya)),(44,(.val .yb)),(2,(.bptr 0 [])),(12,(.val .ym)),(13,(.val .ya)),(14,(.val .ya)),(45,(.val .ya))],[.cell (.val .yg)]⟩
def G16_9 (N:Nat):(R:Type)->F16_9.den->(AExit->St->Option R)->Option R:=fun R d k=>iter (fun kb=>zx4 N d.1.2.1 d.1.2.2.1 d.1.2.2.2.1 d.1.2.2.2.2.2.1 d.1.2.2.2.2.2.2.1 d.1.2.2.2.2.2.2.2.1 d.1.2.2.2.2.2.2.2.2.1 d.2.1 kb
  (fun y0=>k .ret (St.of [(4,(.data .bool y0))] []))
  (fun _=>k (.exit 2) (St.of [(1,(.data .ym d.1.2.1)),(2,(.bptr 0 [])),(12,(.data .ym d.1.2.2.2.2.2.1)),(13,(.data .ya d.1.2.2.2.2.2.2.1)),(14,(.data .ya d.1.2.2.2.2.2.2.2.1))] [.cell (.data .yg d.2.1)]))) N d.1.1
def F16_4:SForm:=⟨[(1,(.val .ym)),(14,(.val .ya)),(2,(.bptr 0 [])),(12,(.val .ym)),(13,(.val .ya))],[.cell (.val .yg)]⟩
def G16_4 (N:Nat):(R:Type)->F16_4.den->(AExit->St->Option R)->Option R:=fun R d k=>iter (fun kb=>zx5 N d.1.1 d.1.2.2.2.1 d.1.2.2.2.2.1 d.2.1 kb
  (fun y0=>k .ret (St.of [(4,(.data .bool y0))] []))
  (fun _=>k (.exit 0) (St.of [] []))) N d.1.2.1
def lp16 (N:Nat):Nat->Option z0m:=fun r=>cond (Nat.beq r 9) (some fun R sl os k=>F16_9.take sl os fun d=>G16_9 N R d k) (cond (Nat.beq r 4) (some fun R sl os k=>F16_4.take sl os fun d=>G16_4 N R d k) (none))
def x16 (N:Nat):Ctx:=(mkX N 65 [(44,[c44 N])] [(4,⟨[1,14,2,12,13],[]⟩),(9,⟨[46,1,5,44,2,12,13,14,45],[]⟩)] [(4,[(0,⟨[],[]⟩)]),(9,[(2,⟨[1,2,12,13,14],[]⟩)])] ⟨[4],[]⟩ (fun _=>none) (lp16 N))
noncomputable def b16:Code:=((Go.Proofs.Try.f16).body).getD .skip
theorem s16_9 (N:Nat) {R:Type} (k:AExit->St->Option R) (t1_1:List Yk) (t5:Int) (t44:List Int) (t12_1:List Yk) (t13_1:Int) (t14_1:Int) (t45:Int) (o0_1:Ye) (kb:List Yl->List Obj->Option R) (x:Int):z0t (x16 N) (z02 9 (z00 b16)) (St.of [(46,(.data .ya x)),(1,(.data .ym t1_1)),(5,(.data .ya t5)),(44,(.data .yb t44)),(2,(.bptr 0 [])),(12,(.data .ym t12_1)),(13,(.data .ya t13_1)),(14,(.data .ya t14_1)),(45,(.data .ya t45))] [.cell (.data .yg o0_1)]) (z1g (x16 N) 9 ⟨[46,1,5,44,2,12,13,14,45],[]⟩ kb k)=zx4 N t1_1 t5 t44 t12_1 t13_1 t14_1 t45 o0_1 (fun y=>kb [(46,(.data .ya y)),(1,(.data .ym t1_1)),(5,(.data .ya t5)),(44,(.data .yb t44)),(2,(.bptr 0 [])),(12,(.data .ym t12_1)),(13,(.data .ya t13_1)),(14,(.data .ya t14_1)),(45,(.data .ya t45))] [.cell (.data .yg o0_1)])
  (fun y0=>k .ret (St.of [(4,(.data .bool y0))] []))
  (fun _=>k (.exit 2) (St.of [(1,(.data .ym t1_1)),(2,(.bptr 0 [])),(12,(.data .ym t12_1)),(13,(.data .ya t13_1)),(14,(.data .ya t14_1))] [.cell (.data .yg o0_1)])) x:=by kernel_rfl
theorem l16_9 (N:Nat):z0l (x16 N) (z02 9 (z00 b16)):=
 z0g (G16_9 N) (by kernel_rfl) (by kernel_rfl) (by kernel_rfl) fun R k d=>
  z0f (st:=fun (x:Int)=>([(46,(.data .ya x)),(1,(.data .ym d.1.2.1)),(5,(.data .ya d.1.2.2.1)),(44,(.data .yb d.1.2.2.2.1)),(2,(.bptr 0 [])),(12,(.data .ym d.1.2.2.2.2.2.1)),(13,(.data .ya d.1.2.2.2.2.2.2.1)),(14,(.data .ya d.1.2.2.2.2.2.2.2.1)),(45,(.data .ya d.1.2.2.2.2.2.2.2.2.1))],[.cell (.data .yg d.2.1)])) (s16_9 N k d.1.2.1 d.1.2.2.1 d.1.2.2.2.1 d.1.2.2.2.2.2.1 d.1.2.2.2.2.2.2.1 d.1.2.2.2.2.2.2.2.1 d.1.2.2.2.2.2.2.2.2.1 d.2.1) N d.1.1
theorem s16_4 (N:Nat) {R:Type} (k:AExit->St->Option R) (t1:List Yk) (t12:List Yk) (t13:Int) (o0:Ye) (kb:List Yl->List Obj->Option R) (x:Int):z0t (x16 N) (z02 4 (z00 b16)) (St.of [(1,(.data .ym t1)),(14,(.data .ya x)),(2,(.bptr 0 [])),(12,(.data .ym t12)),(13,(.data .ya t13))] [.cell (.data .yg o0)]) (z1g (x16 N) 4 ⟨[1,14,2,12,13],[]⟩ kb k)=zx5 N t1 t12 t13 o0 (fun y=>kb [(1,(.data .ym t1)),(14,(.data .ya y)),(2,(.bptr 0 [])),(12,(.data .ym t12)),(13,(.data .ya t13))] [.cell (.data .yg o0)])
  (fun y0=>k .ret (St.of [(4,(.data .bool y0))] []))
  (fun _=>k (.exit 0) (St.of [] [])) x:=by kernel_rfl
theorem l16_4 (N:Nat):z0l (x16 N) (z02 4 (z00 b16)):=
 z0g (G16_4 N) (by kernel_rfl) (by kernel_rfl) (by kernel_rfl) fun R k d=>
  z0f (st:=fun (x:Int)=>([(1,(.data .ym d.1.1)),(14,(.data .ya x)),(2,(.bptr 0 [])),(12,(.data .ym d.1.2.2.2.1)),(13,(.data .ya d.1.2.2.2.2.1))],[.cell (.data .yg d.2.1)])) (s16_4 N k d.1.1 d.1.2.2.2.1 d.1.2.2.2.2.1 d.2.1) N d.1.2.1
theorem e16 (N:Nat) (a0:Ye) (a1:List Yk):z1o (x16 N) [.bool] [.tmp 4] b16 (entry (.pr (.val .yg) (.pr (.val .ym) .un)) (a0,(a1,())))=f16 N a0 a1:=by kernel_rfl
theorem k16 (N:Nat):z04 Go.Proofs.Try.prog 16 (c16 N):=
 z1t (fn:=Go.Proofs.Try.f16) (body:=b16) (c:=x16 N) Go.Proofs.Try.func16 (by kernel_rfl) (by kernel_rfl) ⟨ttL_ok,z0n,z0p,z0q,z0o,z03 (z01 (k44 N)) (z0e)⟩ mixed (by kernel_rfl) (zL (by kernel_rfl)) (by kernel_rfl) (by decide)
  (z0b (by kernel_rfl:z00 b16=[z02 4 (z00 b16),z02 9 (z00 b16)]) (.cons (l16_4 N) (.cons (l16_9 N) .nil))) fun d=>e16 N d.1 d.2.1
def zs4 {R:Type} (N:Nat) (t2:Int) (t1:List Yk) (o1:Ye) (kb:Int×Yam->Option R) (kx0:Yam->Option R):Int×Yam->Option R:=
 fun (t8,o0)=>
  cond (!(decide (t8=(-1))))
   ((idx t1 t8).bind fun x=>
   (idx o1.2.1 x.1).bind fun x_1=>
   (idx x_1 t2).bind fun x_2=>
   chk (decide ((Nat.succ (List.length o0))≤z32)) <|
   (idx x.2.1 x_2).bind fun x_3=>
   kb (x_3,(o0++((x.1,(x_2,())) :: ([]:List Yd)))))
   (kx0 o0)
def f45 (N:Nat) (a0:Ye) (a1:List Yk) (a2:Int):Option Yam:=
 cond (decide ((len a1)=0))
  (iter (fun w=>zs4 N a2 a1 a0 w
   (fun o0_1=>
    some o0_1)) N ((-1),([]:List Yd)))
  (iter (fun w=>zs4 N a2 a1 a0 w
   (fun o0_2=>
    some o0_2)) N (0,([]:List Yd)))
def c45 (N:Nat):Callee:=.pure (.pr (.val .yg) (.pr (.val .ym) (.pr (.val .ya) .un))) [.yp] fun d=>f45 N d.1 d.2.1 d.2.2.1
def F45_5:SForm:=⟨[(7,(.ref 0)),(2,(.val .ya)),(3,(.bptr 1 [])),(8,(.val .ya)),(1,(.val .ym))],[.row .yf,.cell (.val .yg)]⟩
def G45_5 (N:Nat):(R:Type)->F45_5.den->(AExit->St->Option R)->Option R:=fun R d k=>iter (fun kb=>zs4 N d.1.2.1 d.1.2.2.2.2.1 d.2.2.1 kb
  (fun y0=>k (.exit 0) (St.of [(7,(.ref 0 [] 0))] [.row .yf y0 0]))) N (d.1.2.2.2.1,d.2.1)
def lp45 (N:Nat):Nat->Option z0m:=fun r=>cond (Nat.beq r 5) (some fun R sl os k=>F45_5.take sl os fun d=>G45_5 N R d k) (none)
def x45 (N:Nat):Ctx:=(mkX N 43 [] [(5,⟨[7,2,3,8,1],[]⟩)] [(5,[(0,⟨[7],[]⟩)])] ⟨[6],[]⟩ (fun _=>none) (lp45 N))
noncomputable def b45:Code:=((Go.Proofs.Try.f45).body).getD .skip
theorem s45_5 (N:Nat) {R:Type} (k:AExit->St->Option R) (t2:Int) (t1:List Yk) (o1:Ye) (kb:List Yl->List Obj->Option R) (x:Int×Yam):z0t (x45 N) (z02 5 (z00 b45)) (St.of [(7,(.ref 0 [] 0)),(2,(.data .ya t2)),(3,(.bptr 1 [])),(8,(.data .ya x.1)),(1,(.data .ym t1))] [.row .yf x.2 0,.cell (.data .yg o1)]) (z1g (x45 N) 5 ⟨[7,2,3,8,1],[]⟩ kb k)=zs4 N t2 t1 o1 (fun y=>kb [(7,(.ref 0 [] 0)),(2,(.data .ya t2)),(3,(.bptr 1 [])),(8,(.data .ya y.1)),(1,(.data .ym t1))] [.row .yf y.2 0,.cell (.data .yg o1)])
  (fun y0=>k (.exit 0) (St.of [(7,(.ref 0 [] 0))] [.row .yf y0 0])) x:=by kernel_rfl
theorem l45_5 (N:Nat):z0l (x45 N) (z02 5 (z00 b45)):=
 z0g (G45_5 N) (by kernel_rfl) (by kernel_rfl) (by kernel_rfl) fun R k d=>
  z0f (st:=fun (x:Int×Yam)=>([(7,(.ref 0 [] 0)),(2,(.data .ya d.1.2.1)),(3,(.bptr 1 [])),(8,(.data .ya x.1)),(1,(.data .ym d.1.2.2.2.2.1))],[.row .yf x.2 0,.cell (.data .yg d.2.2.1)])) (s45_5 N k d.1.2.1 d.1.2.2.2.2.1 d.2.2.1) N (d.1.2.2.2.1,d.2.1)
theorem e45 (N:Nat) (a0:Ye) (a1:List Yk) (a2:Int):z1o (x45 N) [.yp] [.tmp 6] b45 (entry (.pr (.val .yg) (.pr (.val .ym) (.pr (.val .ya) .un))) (a0,(a1,(a2,()))))=f45 N a0 a1 a2:=by kernel_rfl
theorem k45 (N:Nat):z04 Go.Proofs.Try.prog 45 (c45 N):=
 z1t (fn:=Go.Proofs.Try.f45) (body:=b45) (c:=x45 N) Go.Proofs.Try.func45 (by kernel_rfl) (by kernel_rfl) ⟨ttL_ok,z0n,z0p,z0q,z0o,z0e⟩ mixed (by kernel_rfl) (zL (by kernel_rfl)) (by kernel_rfl) (by decide)
  (z0b (by kernel_rfl:z00 b45=[z02 5 (z00 b45)]) (.cons (l45_5 N) .nil)) fun d=>e45 N d.1 d.2.1 d.2.2.1
def zwv {R:Type} (N:Nat) (t1:List Yd) (t0:List Yd) (t12:Int) (kb:Int->Option R) (kret:Bool->Option R) (kx0:Unit->Option R):Int->Option R:=
 fun t13=>
  cond (decide (t13 < t12))
   ((idx t0 t13).bind fun x=>
   (idx t1 t13).bind fun x_1=>
   cond (!(eqD .yf x x_1))
    (kret false)
    (kb (z0i (t13+1))))
   (kx0 ())
def f46 (N:Nat) (a0:List Yd) (a1:List Yd):Option (Bool):=
 cond (!(decide ((len a0)=(len a1))))
  (some false)
  (iter (fun w=>zwv N a1 a0 (len a0) w
   (fun t4=>
    some t4)
   (fun (_:Unit)=>
    some true)) N 0)
def c46 (N:Nat):Callee:=.pure (.pr (.val .yp) (.pr (.val .yp) .un)) [.bool] fun d=>f46 N d.1 d.2.1
def F46_4:SForm:=⟨[(13,(.val .ya)),(1,(.val .yp)),(0,(.val .yp)),(12,(.val .ya))],[]⟩
def G46_4 (N:Nat):(R:Type)->F46_4.den->(AExit->St->Option R)->Option R:=fun R d k=>iter (fun kb=>zwv N d.1.2.1 d.1.2.2.1 d.1.2.2.2.1 kb
  (fun y0=>k .ret (St.of [(4,(.data .bool y0))] []))
  (fun _=>k (.exit 0) (St.of [] []))) N d.1.1
def lp46 (N:Nat):Nat->Option z0m:=fun r=>cond (Nat.beq r 4) (some fun R sl os k=>F46_4.take sl os fun d=>G46_4 N R d k) (none)
def x46 (N:Nat):Ctx:=(mkX N 26 [] [(4,⟨[13,1,0,12],[]⟩)] [(4,[(0,⟨[],[]⟩)])] ⟨[4],[]⟩ (fun _=>none) (lp46 N))
noncomputable def b46:Code:=((Go.Proofs.Try.f46).body).getD .skip
theorem s46_4 (N:Nat) {R:Type} (k:AExit->St->Option R) (t1:List Yd) (t0:List Yd) (t12:Int) (kb:List Yl->List Obj->Option R) (x:Int):z0t (x46 N) (z02 4 (z00 b46)) (St.of [(13,(.data .ya x)),(1,(.data .yp t1)),(0,(.data .yp t0)),(12,(.data .ya t12))] []) (z1g (x46 N) 4 ⟨[13,1,0,12],[]⟩ kb k)=zwv N t1 t0 t12 (fun y=>kb [(13,(.data .ya y)),(1,(.data .yp t1)),(0,(.data .yp t0)),(12,(.data .ya t12))] [])
  (fun y0=>k .ret (St.of [(4,(.data .bool y0))] []))
  (fun _=>k (.exit 0) (St.of [] [])) x:=by kernel_rfl
theorem l46_4 (N:Nat):z0l (x46 N) (z02 4 (z00 b46)):=
 z0g (G46_4 N) (by kernel_rfl) (by kernel_rfl) (by kernel_rfl) fun R k d=>
  z0f (st:=fun (x:Int)=>([(13,(.data .ya x)),(1,(.data .yp d.1.2.1)),(0,(.data .yp d.1.2.2.1)),(12,(.data .ya d.1.2.2.2.1))],[])) (s46_4 N k d.1.2.1 d.1.2.2.1 d.1.2.2.2.1) N d.1.1
theorem e46 (N:Nat) (a0:List Yd) (a1:List Yd):z1o (x46 N) [.bool] [.tmp 4] b46 (entry (.pr (.val .yp) (.pr (.val .yp) .un)) (a0,(a1,())))=f46 N a0 a1:=by kernel_rfl
theorem k46 (N:Nat):z04 Go.Proofs.Try.prog 46 (c46 N):=
 z1t (fn:=Go.Proofs.Try.f46) (body:=b46) (c:=x46 N) Go.Proofs.Try.func46 (by kernel_rfl) (by kernel_rfl) ⟨ttL_ok,z0n,z0p,z0q,z0o,z0e⟩ mixed (by kernel_rfl) (zL (by kernel_rfl)) (by kernel_rfl) (by decide)
  (z0b (by kernel_rfl:z00 b46=[z02 4 (z00 b46)]) (.cons (l46_4 N) .nil)) fun d=>e46 N d.1 d.2.1
def zwt {R:Type} (N:Nat) (t5_1:Int) (t0_1:List Int) (t4_1:Int) (o0_1:List Int) (kb:Int×Int->Option R) (kx2:Int->Option R):Int×Int->Option R:=
 fun (t7,t6)=>
  cond (decide (t7 < t5_1))
   ((idx t0_1 t7).bind fun x=>
   (idx t0_1 t5_1).bind fun x_1=>
   cond (decide (x=x_1))
    (chk (inb o0_1 t7) <|
    (idx o0_1 t7).bind fun x_2=>
    kb ((z0i (t7+1)),x_2))
    (kb ((z0i (t7+1)),t6)))
   (kx2 t6)
def zwu {R:Type} (N:Nat) (t0:List Int) (kb:Int×Int×List Int->Option R) (kx0:Ya->Option R):Int×Int×List Int->Option R:=
 fun (t5,t4,o0)=>
  cond (decide (t5 < (len t0)))
   (iter (fun w=>zwt N t5 t0 t4 o0 w
    (fun t6_1=>
     cond (decide (t6_1=t4))
      (chk (decide ((Nat.succ (List.length o0))≤z32)) <|
      kb ((z0i (t5+1)),(z0i (t4+1)),(o0++(t6_1 :: ([]:List Int)))))
      (chk (decide ((Nat.succ (List.length o0))≤z32)) <|
      kb ((z0i (t5+1)),t4,(o0++(t6_1 :: ([]:List Int))))))) N (0,t4))
   (kx0 o0)
def f47 (N:Nat) (a0:List Int):Option Ya:=
 iter (fun w=>zwu N a0 w
  (fun o0_2=>
   some o0_2)) N (0,0,([]:List Int))
def c47 (N:Nat):Callee:=.pure (.pr (.val .yb) .un) [.yn] fun d=>f47 N d.1
def F47_8:SForm:=⟨[(7,(.val .ya)),(3,(.ref 0)),(5,(.val .ya)),(0,(.val .yb)),(6,(.val .ya)),(4,(.val .ya))],[.row .ya]⟩
def G47_8 (N:Nat):(R:Type)->F47_8.den->(AExit->St->Option R)->Option R:=fun R d k=>iter (fun kb=>zwt N d.1.2.2.1 d.1.2.2.2.1 d.1.2.2.2.2.2.1 d.2.1 kb
  (fun y2=>k (.exit 2) (St.of [(0,(.data .yb d.1.2.2.2.1)),(5,(.data .ya d.1.2.2.1)),(6,(.data .ya y2)),(3,(.ref 0 [] 0)),(4,(.data .ya d.1.2.2.2.2.2.1))] [.row .ya d.2.1 0]))) N (d.1.1,d.1.2.2.2.2.1)
def F47_4:SForm:=⟨[(3,(.ref 0)),(5,(.val .ya)),(0,(.val .yb)),(4,(.val .ya))],[.row .ya]⟩
def G47_4 (N:Nat):(R:Type)->F47_4.den->(AExit->St->Option R)->Option R:=fun R d k=>iter (fun kb=>zwu N d.1.2.2.1 kb
  (fun y0=>k (.exit 0) (St.of [(3,(.ref 0 [] 0))] [.row .ya y0 0]))) N (d.1.2.1,d.1.2.2.2.1,d.2.1)
def lp47 (N:Nat):Nat->Option z0m:=fun r=>cond (Nat.beq r 8) (some fun R sl os k=>F47_8.take sl os fun d=>G47_8 N R d k) (cond (Nat.beq r 4) (some fun R sl os k=>F47_4.take sl os fun d=>G47_4 N R d k) (none))
def x47 (N:Nat):Ctx:=(mkX N 43 [] [(4,⟨[3,5,0,4],[(3,none,.row .ya)]⟩),(8,⟨[7,3,5,0,6,4],[]⟩)] [(4,[(0,⟨[3],[]⟩)]),(8,[(2,⟨[0,5,6,3,4],[]⟩)])] ⟨[2],[]⟩ (fun _=>none) (lp47 N))
noncomputable def b47:Code:=((Go.Proofs.Try.f47).body).getD .skip
theorem s47_8 (N:Nat) {R:Type} (k:AExit->St->Option R) (t5_1:Int) (t0_1:List Int) (t4_1:Int) (o0_1:List Int) (kb:List Yl->List Obj->Option R) (x:Int×Int):z0t (x47 N) (z02 8 (z00 b47)) (St.of [(7,(.data .ya x.1)),(3,(.ref 0 [] 0)),(5,(.data .ya t5_1)),(0,(.data .yb t0_1)),(6,(.data .ya x.2)),(4,(.data .ya t4_1))] [.row .ya o0_1 0]) (z1g (x47 N) 8 ⟨[7,3,5,0,6,4],[]⟩ kb k)=zwt N t5_1 t0_1 t4_1 o0_1 (fun y=>kb [(7,(.data .ya y.1)),(3,(.ref 0 [] 0)),(5,(.data .ya t5_1)),(0,(.data .yb t0_1)),(6,(.data .ya y.2)),(4,(.data .ya t4_1))] [.row .ya o0_1 0])
  (fun y2=>k (.exit 2) (St.of [(0,(.data .yb t0_1)),(5,(.data .ya t5_1)),(6,(.data .ya y2)),(3,(.ref 0 [] 0)),(4,(.data .ya t4_1))] [.row .ya o0_1 0])) x:=by kernel_rfl
theorem l47_8 (N:Nat):z0l (x47 N) (z02 8 (z00 b47)):=
 z0g (G47_8 N) (by kernel_rfl) (by kernel_rfl) (by kernel_rfl) fun R k d=>
  z0f (st:=fun (x:Int×Int)=>([(7,(.data .ya x.1)),(3,(.ref 0 [] 0)),(5,(.data .ya d.1.2.2.1)),(0,(.data .yb d.1.2.2.2.1)),(6,(.data .ya x.2)),(4,(.data .ya d.1.2.2.2.2.2.1))],[.row .ya d.2.1 0])) (s47_8 N k d.1.2.2.1 d.1.2.2.2.1 d.1.2.2.2.2.2.1 d.2.1) N (d.1.1,d.1.2.2.2.2.1)
theorem s47_4 (N:Nat) {R:Type} (k:AExit->St->Option R) (t0:List Int) (kb:List Yl->List Obj->Option R) (x:Int×Int×List Int):z0t (x47 N) (z02 4 (z00 b47)) (St.of [(3,(.ref 0 [] 0)),(5,(.data .ya x.1)),(0,(.data .yb t0)),(4,(.data .ya x.2.1))] [.row .ya x.2.2 0]) (z1g (x47 N) 4 ⟨[3,5,0,4],[(3,none,.row .ya)]⟩ kb k)=zwu N t0 (fun y=>kb [(3,(.ref 0 [] 0)),(5,(.data .ya y.1)),(0,(.data .yb t0)),(4,(.data .ya y.2.1))] [.row .ya y.2.2 0])
  (fun y0=>k (.exit 0) (St.of [(3,(.ref 0 [] 0))] [.row .ya y0 0])) x:=by kernel_rfl
theorem l47_4 (N:Nat):z0l (x47 N) (z02 4 (z00 b47)):=
 z0g (G47_4 N) (by kernel_rfl) (by kernel_rfl) (by kernel_rfl) fun R k d=>
  z0f (st:=fun (x:Int×Int×List Int)=>([(3,(.ref 0 [] 0)),(5,(.data .ya x.1)),(0,(.data .yb d.1.2.2.1)),(4,(.data .ya x.2.1))],[.row .ya x.2.2 0])) (s47_4 N k d.1.2.2.1) N (d.1.2.1,d.1.2.2.2.1,d.2.1)
theorem e47 (N:Nat) (a0:List Int):z1o (x47 N) [.yn] [.tmp 2] b47 (entry (.pr (.val .yb) .un) (a0,()))=f47 N a0:=by kernel_rfl
theorem k47 (N:Nat):z04 Go.Proofs.Try.prog 47 (c47 N):=
 z1t (fn:=Go.Proofs.Try.f47) (body:=b47) (c:=x47 N) Go.Proofs.Try.func47 (by kernel_rfl) (by kernel_rfl) ⟨ttL_ok,z0n,z0p,z0q,z0o,z0e⟩ mixed (by kernel_rfl) (zL (by kernel_rfl)) (by kernel_rfl) (by decide)
  (z0b (by kernel_rfl:z00 b47=[z02 4 (z00 b47),z02 8 (z00 b47)]) (.cons (l47_4 N) (.cons (l47_8 N) .nil))) fun d=>e47 N d.1
def zpz {R:Type} (N:Nat) (t10:List Yd) (t8_1:Int) (t1_1:List Yk) (t16_1:Int) (t17_1:Int) (t33:Int) (o0_1:List Int) (o1_1:List Yam) (o2_1:Ye) (kb:Int×Int->Option R) (kx2:Int->Option R):Int×Int->Option R:=
 fun (t34,t11)=>
  cond (decide (t34 < t33))
   (chk (inb o1_1 t34) <|
   (idx o1_1 t34).bind fun x=>
   (f46 N x t10).bind fun r_1=>
   cond r_1
    (chk (inb o0_1 t34) <|
    (idx o0_1 t34).bind fun x_1=>
    kb ((z0i (t34+1)),x_1))
    (kb ((z0i (t34+1)),t11)))
   (kx2 t11)
def zx3 {R:Type} (N:Nat) (t1:List Yk) (t16:Int) (o2:Ye) (kb:Int×Int×List Int×(List Yam)->Option R) (kx0:Int->Ya->Option R):Int×Int×List Int×(List Yam)->Option R:=
 fun (t17,t8,o0,o1)=>
  cond (decide (t17 < t16))
   ((f45 N o2 t1 t17).bind fun r=>
   chk (decide ((Nat.succ (List.length o1))≤z32)) <|
   iter (fun w=>zpz N r (zpl t8 (len r)) t1 t16 t17 t17 o0 (o1++(r :: ([]:List Yam))) o2 w
    (fun t11_1=>
     chk (decide ((Nat.succ (List.length o0))≤z32)) <|
     kb ((z0i (t17+1)),(zpl t8 (len r)),(o0++(t11_1 :: ([]:List Int))),(o1++(r :: ([]:List Yam)))))) N (0,t17))
   (kx0 t8 o0)
def f17 (N:Nat) (a0:Ye) (a1:List Yk):Option (List Int×Int):=
 iter (fun w=>zx3 N a1 a0.1 a0 w
  (fun t8_2 o0_2=>
   (f47 N o0_2).bind fun r_2=>
   some (r_2,t8_2))) N (0,0,([]:List Int),([]:List Yam))
def c17 (N:Nat):Callee:=.pure (.pr (.val .yg) (.pr (.val .ym) .un)) [.yn,.ya] fun d=>f17 N d.1 d.2.1
def F17_12:SForm:=⟨[(34,(.val .ya)),(6,(.ref 0)),(10,(.val .yp)),(7,(.ref 1)),(8,(.val .ya)),(1,(.val .ym)),(2,(.bptr 2 [])),(16,(.val .ya)),(17,(.val .ya)),(11,(.val .ya)),(33,(.val .ya))],[.row .ya,.row .yp,.cell (.val .yg)]⟩
def G17_12 (N:Nat):(R:Type)->F17_12.den->(AExit->St->Option R)->Option R:=fun R d k=>iter (fun kb=>zpz N d.1.2.2.1 d.1.2.2.2.2.1 d.1.2.2.2.2.2.1 d.1.2.2.2.2.2.2.2.1 d.1.2.2.2.2.2.2.2.2.1 d.1.2.2.2.2.2.2.2.2.2.2.1 d.2.1 d.2.2.1 d.2.2.2.1 kb
  (fun y4=>k (.exit 2) (St.of [(8,(.data .ya d.1.2.2.2.2.1)),(7,(.ref 0 [] 0)),(1,(.data .ym d.1.2.2.2.2.2.1)),(2,(.bptr 1 [])),(16,(.data .ya d.1.2.2.2.2.2.2.2.1)),(17,(.data .ya d.1.2.2.2.2.2.2.2.2.1)),(11,(.data .ya y4)),(6,(.ref 2 [] 0))] [.row .yp d.2.2.1 0,.cell (.data .yg d.2.2.2.1),.row .ya d.2.1 0]))) N (d.1.1,d.1.2.2.2.2.2.2.2.2.2.1)
def F17_5:SForm:=⟨[(6,(.ref 0)),(17,(.val .ya)),(8,(.val .ya)),(7,(.ref 1)),(1,(.val .ym)),(2,(.bptr 2 [])),(16,(.val .ya))],[.row .ya,.row .yp,.cell (.val .yg)]⟩
def G17_5 (N:Nat):(R:Type)->F17_5.den->(AExit->St->Option R)->Option R:=fun R d k=>iter (fun kb=>zx3 N d.1.2.2.2.2.1 d.1.2.2.2.2.2.2.1 d.2.2.2.1 kb
  (fun y0 y1=>k (.exit 0) (St.of [(8,(.data .ya y0)),(6,(.ref 0 [] 0))] [.row .ya y1 0]))) N (d.1.2.1,d.1.2.2.1,d.2.1,d.2.2.1)
def lp17 (N:Nat):Nat->Option z0m:=fun r=>cond (Nat.beq r 12) (some fun R sl os k=>F17_12.take sl os fun d=>G17_12 N R d k) (cond (Nat.beq r 5) (some fun R sl os k=>F17_5.take sl os fun d=>G17_5 N R d k) (none))
def x17 (N:Nat):Ctx:=(mkX N 56 [(45,[c45 N]),(46,[c46 N]),(47,[c47 N])] [(5,⟨[6,17,8,7,1,2,16],[]⟩),(12,⟨[34,6,10,7,8,1,2,16,17,11,33],[]⟩)] [(5,[(0,⟨[8,6],[]⟩)]),(12,[(2,⟨[8,7,1,2,16,17,11,6],[]⟩)])] ⟨[4,5],[]⟩ (fun _=>none) (lp17 N))
noncomputable def b17:Code:=((Go.Proofs.Try.f17).body).getD .skip
theorem s17_12 (N:Nat) {R:Type} (k:AExit->St->Option R) (t10:List Yd) (t8_1:Int) (t1_1:List Yk) (t16_1:Int) (t17_1:Int) (t33:Int) (o0_1:List Int) (o1_1:List Yam) (o2_1:Ye) (kb:List Yl->List Obj->Option R) (x:Int×Int):z0t (x17 N) (z02 12 (z00 b17)) (St.of [(34,(.data .ya x.1)),(6,(.ref 0 [] 0)),(10,(.data .yp t10)),(7,(.ref 1 [] 0)),(8,(.data .ya t8_1)),(1,(.data .ym t1_1)),(2,(.bptr 2 [])),(16,(.data .ya t16_1)),(17,(.data .ya t17_1)),(11,(.data .ya x.2)),(33,(.data .ya t33))] [.row .ya o0_1 0,.row .yp o1_1 0,.cell (.data .yg o2_1)]) (z1g (x17 N) 12 ⟨[34,6,10,7,8,1,2,16,17,11,33],[]⟩ kb k)=zpz N t10 t8_1 t1_1 t16_1 t17_1 t33 o0_1 o1_1 o2_1 (fun y=>kb [(34,(.data .ya y.1)),(6,(.ref 0 [] 0)),(10,(.data .yp t10)),(7,(.ref 1 [] 0)),(8,(.data .ya t8_1)),(1,(.data .ym t1_1)),(2,(.bptr 2 [])),(16,(.data .ya t16_1)),(17,(.data .ya t17_1)),(11,(.data .ya y.2)),(33,(.data .ya t33))] [.row .ya o0_1 0,.row .yp o1_1 0,.cell (.data .yg o2_1)])
  (fun y4=>k (.exit 2) (St.of [(8,(.data .ya t8_1)),(7,(.ref 0 [] 0)),(1,(.data .ym t1_1)),(2,(.bptr 1 [])),(16,(.data .ya t16_1)),(17,(.data .ya t17_1)),(11,(.data .ya y4)),(6,(.ref 2 [] 0))] [.row .yp o1_1 0,.cell (.data .yg o2_1),.row .ya o0_1 0])) x:=by kernel_rfl
theorem l17_12 (N:Nat):z0l (x17 N) (z02 12 (z00 b17)):=
 z0g (G17_12 N) (by kernel_rfl) (by kernel_rfl) (by kernel_rfl) fun R k d=>
  z0f (st:=fun (x:Int×Int)=>([(34,(.data .ya x.1)),(6,(.ref 0 [] 0)),(10,(.data .yp d.1.2.2.1)),(7,(.ref 1 [] 0)),(8,(.data .ya d.1.2.2.2.2.1)),(1,(.data .ym d.1.2.2.2.2.2.1)),(2,(.bptr 2 [])),(16,(.data .ya d.1.2.2.2.2.2.2.2.1)),(17,(.data .ya d.1.2.2.2.2.2.2.2.2.1)),(11,(.data .ya x.2)),(33,(.data .ya d.1.2.2.2.2.2.2.2.2.2.2.1))],[.row .ya d.2.1 0,.row .yp d.2.2.1 0,.cell (.data .yg d.2.2.2.1)])) (s17_12 N k d.1.2.2.1 d.1.2.2.2.2.1 d.1.2.2.2.2.2.1 d.1.2.2.2.2.2.2.2.1 d.1.2.2.2.2.2.2.2.2.1 d.1.2.2.2.2.2.2.2.2.2.2.1 d.2.1 d.2.2.1 d.2.2.2.1) N (d.1.1,d.1.2.2.2.2.2.2.2.2.2.1)
theorem s17_5 (N:Nat) {R:Type} (k:AExit->St->Option R) (t1:List Yk) (t16:Int) (o2:Ye) (kb:List Yl->List Obj->Option R) (x:Int×Int×List Int×(List Yam)):z0t (x17 N) (z02 5 (z00 b17)) (St.of [(6,(.ref 0 [] 0)),(17,(.data .ya x.1)),(8,(.data .ya x.2.1)),(7,(.ref 1 [] 0)),(1,(.data .ym t1)),(2,(.bptr 2 [])),(16,(.data .ya t16))] [.row .ya x.2.2.1 0,.row .yp x.2.2.2 0,.cell (.data .yg o2)]) (z1g (x17 N) 5 ⟨[6,17,8,7,1,2,16],[]⟩ kb k)=zx3 N t1 t16 o2 (fun y=>kb [(6,(.ref 0 [] 0)),(17,(.data .ya y.1)),(8,(.data .ya y.2.1)),(7,(.ref 1 [] 0)),(1,(.data .ym t1)),(2,(.bptr 2 [])),(16,(.data .ya t16))] [.row .ya y.2.2.1 0,.row .yp y.2.2.2 0,.cell (.data .yg o2)])
  (fun y0 y1=>k (.exit 0) (St.of [(8,(.data .ya y0)),(6,(.ref 0 [] 0))] [.row .ya y1 0])) x:=by kernel_rfl
theorem l17_5 (N:Nat):z0l (x17 N) (z02 5 (z00 b17)):=
 z0g (G17_5 N) (by kernel_rfl) (by kernel_rfl) (by kernel_rfl) fun R k d=>
  z0f (st:=fun (x:Int×Int×List Int×(List Yam))=>([(6,(.ref 0 [] 0)),(17,(.data .ya x.1)),(8,(.data .ya x.2.1)),(7,(.ref 1 [] 0)),(1,(.data .ym d.1.2.2.2.2.1)),(2,(.bptr 2 [])),(16,(.data .ya d.1.2.2.2.2.2.2.1))],[.row .ya x.2.2.1 0,.row .yp x.2.2.2 0,.cell (.data .yg d.2.2.2.1)])) (s17_5 N k d.1.2.2.2.2.1 d.1.2.2.2.2.2.2.1 d.2.2.2.1) N (d.1.2.1,d.1.2.2.1,d.2.1,d.2.2.1)
theorem e17 (N:Nat) (a0:Ye) (a1:List Yk):z1o (x17 N) [.yn,.ya] [.tmp 4,.tmp 5] b17 (entry (.pr (.val .yg) (.pr (.val .ym) .un)) (a0,(a1,())))=f17 N a0 a1:=by kernel_rfl
theorem k17 (N:Nat):z04 Go.Proofs.Try.prog 17 (c17 N):=
 z1t (fn:=Go.Proofs.Try.f17) (body:=b17) (c:=x17 N) Go.Proofs.Try.func17 (by kernel_rfl) (by kernel_rfl) ⟨ttL_ok,z0n,z0p,z0q,z0o,z03 (z01 (k45 N)) (z03 (z01 (k46 N)) (z03 (z01 (k47 N)) (z0e)))⟩ mixed (by kernel_rfl) (zL (by kernel_rfl)) (by kernel_rfl) (by decide)
  (z0b (by kernel_rfl:z00 b17=[z02 5 (z00 b17),z02 12 (z00 b17)]) (.cons (l17_5 N) (.cons (l17_12 N) .nil))) fun d=>e17 N d.1 d.2.1
def zx1 {R:Type} (N:Nat) (t8:Int) (t2_1:List Int) (t1_1:List Ya) (t12_1:Int) (t13_1:Int) (t7_1:Int) (t17:Int) (o0_1:Ye) (kb:Int×Int->Option R) (kx2:Int->Option R):Int×Int->Option R:=
 fun (t18,t9)=>
  cond (decide (t18 < t17))
   ((idx t2_1 t18).bind fun x=>
   cond (decide (x=t8))
    (cond (decide (t18 < 0))
     (none)
     (kb ((z0i (t18+1)),(z0i (t9+(z0i (1*(2 ^ (min (Int.toNat t18) 64)))))))))
    (kb ((z0i (t18+1)),t9)))
   (kx2 t9)
def zx2 {R:Type} (N:Nat) (t2:List Int) (t1:List Ya) (t12:Int) (o0:Ye) (kb:Int×Int->Option R) (kx0:Int->Option R):Int×Int->Option R:=
 fun (t13,t7)=>
  cond (decide (t13 < t12))
   (iter (fun w=>zx1 N t13 t2 t1 t12 t13 t7 o0.1 o0 w
    (fun t9_1=>
     (f40 N o0 t1 t9_1).bind fun r_1=>
     kb ((z0i (t13+1)),(z0i (t7+r_1))))) N (0,0))
   (kx0 t7)
def f18 (N:Nat) (a0:Ye) (a1:List Ya) (a2:List Int):Option (Int):=
 (f44 N a2).bind fun r=>
 iter (fun w=>zx2 N a2 a1 r a0 w
  (fun t7_2=>
   some t7_2)) N (0,0)
def c18 (N:Nat):Callee:=.pure (.pr (.val .yg) (.pr (.val .yc) (.pr (.val .yb) .un))) [.ya] fun d=>f18 N d.1 d.2.1 d.2.2.1
def F18_7:SForm:=⟨[(18,(.val .ya)),(9,(.val .ya)),(8,(.val .ya)),(2,(.val .yb)),(1,(.val .yc)),(3,(.bptr 0 [])),(12,(.val .ya)),(13,(.val .ya)),(7,(.val .ya)),(17,(.val .ya))],[.cell (.val .yg)]⟩
def G18_7 (N:Nat):(R:Type)->F18_7.den->(AExit->St->Option R)->Option R:=fun R d k=>iter (fun kb=>zx1 N d.1.2.2.1 d.1.2.2.2.1 d.1.2.2.2.2.1 d.1.2.2.2.2.2.2.1 d.1.2.2.2.2.2.2.2.1 d.1.2.2.2.2.2.2.2.2.1 d.1.2.2.2.2.2.2.2.2.2.1 d.2.1 kb
  (fun y4=>k (.exit 2) (St.of [(2,(.data .yb d.1.2.2.2.1)),(1,(.data .yc d.1.2.2.2.2.1)),(3,(.bptr 0 [])),(12,(.data .ya d.1.2.2.2.2.2.2.1)),(13,(.data .ya d.1.2.2.2.2.2.2.2.1)),(9,(.data .ya y4)),(7,(.data .ya d.1.2.2.2.2.2.2.2.2.1))] [.cell (.data .yg d.2.1)]))) N (d.1.1,d.1.2.1)
def F18_3:SForm:=⟨[(2,(.val .yb)),(13,(.val .ya)),(1,(.val .yc)),(3,(.bptr 0 [])),(7,(.val .ya)),(12,(.val .ya))],[.cell (.val .yg)]⟩
def G18_3 (N:Nat):(R:Type)->F18_3.den->(AExit->St->Option R)->Option R:=fun R d k=>iter (fun kb=>zx2 N d.1.1 d.1.2.2.1 d.1.2.2.2.2.2.1 d.2.1 kb
  (fun y0=>k (.exit 0) (St.of [(7,(.data .ya y0))] []))) N (d.1.2.1,d.1.2.2.2.2.1)
def lp18 (N:Nat):Nat->Option z0m:=fun r=>cond (Nat.beq r 7) (some fun R sl os k=>F18_7.take sl os fun d=>G18_7 N R d k) (cond (Nat.beq r 3) (some fun R sl os k=>F18_3.take sl os fun d=>G18_3 N R d k) (none))
def x18 (N:Nat):Ctx:=(mkX N 40 [(44,[c44 N]),(40,[c40 N])] [(3,⟨[2,13,1,3,7,12],[]⟩),(7,⟨[18,9,8,2,1,3,12,13,7,17],[]⟩)] [(3,[(0,⟨[7],[]⟩)]),(7,[(2,⟨[2,1,3,12,13,9,7],[]⟩)])] ⟨[6],[]⟩ (fun _=>none) (lp18 N))
noncomputable def b18:Code:=((Go.Proofs.Try.f18).body).getD .skip
theorem s18_7 (N:Nat) {R:Type} (k:AExit->St->Option R) (t8:Int) (t2_1:List Int) (t1_1:List Ya) (t12_1:Int) (t13_1:Int) (t7_1:Int) (t17:Int) (o0_1:Ye) (kb:List Yl->List Obj->Option R) (x:Int×Int):z0t (x18 N) (z02 7 (z00 b18)) (St.of [(18,(.data .ya x.1)),(9,(.data .ya x.2)),(8,(.data .ya t8)),(2,(.data .yb t2_1)),(1,(.data .yc t1_1)),(3,(.bptr 0 [])),(12,(.data .ya t12_1)),(13,(.data .ya t13_1)),(7,(.data .ya t7_1)),(17,(.data .ya t17))] [.cell (.data .yg o0_1)]) (z1g (x18 N) 7 ⟨[18,9,8,2,1,3,12,13,7,17],[]⟩ kb k)=zx1 N t8 t2_1 t1_1 t12_1 t13_1 t7_1 t17 o0_1 (fun y=>kb [(18,(.data .ya y.1)),(9,(.data .ya y.2)),(8,(.data .ya t8)),(2,(.data .yb t2_1)),(1,(.data .yc t1_1)),(3,(.bptr 0 [])),(12,(.data .ya t12_1)),(13,(.data .ya t13_1)),(7,(.data .ya t7_1)),(17,(.data .ya t17))] [.cell (.data .yg o0_1)])
  (fun y4=>k (.exit 2) (St.of [(2,(.data .yb t2_1)),(1,(.data .yc t1_1)),(3,(.bptr 0 [])),(12,(.data .ya t12_1)),(13,(.data .ya t13_1)),(9,(.data .ya y4)),(7,(.data .ya t7_1))] [.cell (.data .yg o0_1)])) x:=by kernel_rfl
theorem l18_7 (N:Nat):z0l (x18 N) (z02 7 (z00 b18)):=
 z0g (G18_7 N) (by kernel_rfl) (by kernel_rfl) (by kernel_rfl) fun R k d=>
  z0f (st:=fun (x:Int×Int)=>([(18,(.data .ya x.1)),(9,(.data .ya x.2)),(8,(.data .ya d.1.2.2.1)),(2,(.data .yb d.1.2.2.2.1)),(1,(.data .yc d.1.2.2.2.2.1)),(3,(.bptr 0 [])),(12,(.data .ya d.1.2.2.2.2.2.2.1)),(13,(.data .ya d.1.2.2.2.2.2.2.2.1)),(7,(.data .ya d.1.2.2.2.2.2.2.2.2.1)),(17,(.data .ya d.1.2.2.2.2.2.2.2.2.2.1))],[.cell (.data .yg d.2.1)])) (s18_7 N k d.1.2.2.1 d.1.2.2.2.1 d.1.2.2.2.2.1 d.1.2.2.2.2.2.2.1 d.1.2.2.2.2.2.2.2.1 d.1.2.2.2.2.2.2.2.2.1 d.1.2.2.2.2.2.2.2.2.2.1 d.2.1) N (d.1.1,d.1.2.1)
theorem s18_3 (N:Nat) {R:Type} (k:AExit->St->Option R) (t2:List Int) (t1:List Ya) (t12:Int) (o0:Ye) (kb:List Yl->List Obj->Option R) (x:Int×Int):z0t (x18 N) (z02 3 (z00 b18)) (St.of [(2,(.data .yb t2)),(13,(.data .ya x.1)),(1,(.data .yc t1)),(3,(.bptr 0 [])),(7,(.data .ya x.2)),(12,(.data .ya t12))] [.cell (.data .yg o0)]) (z1g (x18 N) 3 ⟨[2,13,1,3,7,12],[]⟩ kb k)=zx2 N t2 t1 t12 o0 (fun y=>kb [(2,(.data .yb t2)),(13,(.data .ya y.1)),(1,(.data .yc t1)),(3,(.bptr 0 [])),(7,(.data .ya y.2)),(12,(.data .ya t12))] [.cell (.data .yg o0)])
  (fun y0=>k (.exit 0) (St.of [(7,(.data .ya y0))] [])) x:=by kernel_rfl
theorem l18_3 (N:Nat):z0l (x18 N) (z02 3 (z00 b18)):=
 z0g (G18_3 N) (by kernel_rfl) (by kernel_rfl) (by kernel_rfl) fun R k d=>
  z0f (st:=fun (x:Int×Int)=>([(2,(.data .yb d.1.1)),(13,(.data .ya x.1)),(1,(.data .yc d.1.2.2.1)),(3,(.bptr 0 [])),(7,(.data .ya x.2)),(12,(.data .ya d.1.2.2.2.2.2.1))],[.cell (.data .yg d.2.1)])) (s18_3 N k d.1.1 d.1.2.2.1 d.1.2.2.2.2.2.1 d.2.1) N (d.1.2.1,d.1.2.2.2.2.1)
theorem e18 (N:Nat) (a0:Ye) (a1:List Ya) (a2:List Int):z1o (x18 N) [.ya] [.tmp 6] b18 (entry (.pr (.val .yg) (.pr (.val .yc) (.pr (.val .yb) .un))) (a0,(a1,(a2,()))))=f18 N a0 a1 a2:=by kernel_rfl
theorem k18 (N:Nat):z04 Go.Proofs.Try.prog 18 (c18 N):=
 z1t (fn:=Go.Proofs.Try.f18) (body:=b18) (c:=x18 N) Go.Proofs.Try.func18 (by kernel_rfl) (by kernel_rfl) ⟨ttL_ok,z0n,z0p,z0q,z0o,z03 (z01 (k44 N)) (z03 (z01 (k40 N)) (z0e))⟩ mixed (by kernel_rfl) (zL (by kernel_rfl)) (by kernel_rfl) (by decide)
  (z0b (by kernel_rfl:z00 b18=[z02 3 (z00 b18),z02 7 (z00 b18)]) (.cons (l18_3 N) (.cons (l18_7 N) .nil))) fun d=>e18 N d.1 d.2.1 d.2.2.1
def f4 (N:Nat) (a0:Ye) (a1:List Ya) (a2:((Int×(List Yn×Yc))×(List Yk×Unit))):Option (Bool):=
 (f11 N).bind fun r=>
 cond (!r)
  (some false)
  ((f12 N a0 a1 10 5).bind fun r_1=>
  (cond (!r_1)
    (some true)
    (some (decide (200 < (len a2.1.2.1))))).bind fun b=>
  (cond b
    (some true)
    (some (decide (60 < (len a2.2.1))))).bind fun b_1=>
  (cond b_1
    (some true)
    ((f15 N a0 a1 a2.1.1).bind fun r_2=>
    some (!r_2))).bind fun b_2=>
  (cond b_2
    (some true)
    ((f16 N a0 a2.2.1).bind fun r_3=>
    some (!r_3))).bind fun b_3=>
  cond b_3
   (some true)
   ((f17 N a0 a2.2.1).bind fun r_4=>
   (cond (decide (a2.1.1 < r_4.2))
     (some true)
     ((f13 N a0 a1 a2.1.1 a2.1.2.1 a2.1.2.2.1).bind fun r_5=>
     some (!(decide (r_5=0))))).bind fun b_4=>
   cond b_4
    (some true)
    ((f18 N a0 a1 r_4.1).bind fun r_6=>
    some (decide (r_6≤a2.1.2.2.1)))))
def c4 (N:Nat):Callee:=.pure (.pr (.val .yg) (.pr (.val .yc) (.pr (.val (.pair .yu .yw)) .un))) [.bool] fun d=>f4 N d.1 d.2.1 d.2.2.1
def lp4 (N:Nat):Nat->Option z0m:=fun r=>none
def x4 (N:Nat):Ctx:=(mkX N 79 [(11,[c11 N]),(12,[c12 N]),(15,[c15 N]),(16,[c16 N]),(17,[c17 N]),(13,[c13 N]),(18,[c18 N])] [] [] ⟨[6],[]⟩ (fun _=>none) (lp4 N))
noncomputable def b4:Code:=((Go.Proofs.Try.f4).body).getD .skip
theorem e4 (N:Nat) (a0:Ye) (a1:List Ya) (a2:((Int×(List Yn×Yc))×(List Yk×Unit))):z1o (x4 N) [.bool] [.tmp 6] b4 (entry (.pr (.val .yg) (.pr (.val .yc) (.pr (.val (.pair .yu .yw)) .un))) (a0,(a1,(a2,()))))=f4 N a0 a1 a2:=by kernel_rfl
theorem k4 (N:Nat):z04 Go.Proofs.Try.prog 4 (c4 N):=
 z1t (fn:=Go.Proofs.Try.f4) (body:=b4) (c:=x4 N) Go.Proofs.Try.func4 (by kernel_rfl) (by kernel_rfl) ⟨ttL_ok,z0n,z0p,z0q,z0o,z03 (z01 (k11 N)) (z03 (z01 (k12 N)) (z03 (z01 (k15 N)) (z03 (z01 (k16 N)) (z03 (z01 (k17 N)) (z03 (z01 (k13 N)) (z03 (z01 (k18 N)) (z0e)))))))⟩ mixed (by kernel_rfl) (zL (by kernel_rfl)) (by kernel_rfl) (by decide)
  (z0b (by kernel_rfl:z00 b4=[]) .nil) fun d=>e4 N d.1 d.2.1 d.2.2.1
def f99 (N:Nat) (a0:List Int) (a1:List Int):Option (Int):=
 (f67 N a0).bind fun r=>
 (cond (!r)
   (some true)
   ((f67 N a1).bind fun r_1=>
   some (!r_1))).bind fun b=>
 cond b
  (some 1)
  (cond (!(decide ((len a0)=(len a1))))
   (some 2)
   (some 0))
def f84_L10 {R:Type} (N:Nat) (t8_1:Int) (t1_1:List Int) (t0_1:List Int) (kb:Int×List Int->Option R) (kx2:Ya->Option R):Int×List Int->Option R:=
 fun (t9,o0_1)=>
  cond (decide (0≤t9))
   ((idx t0_1 t9).bind fun x_2=>
   (idx t0_1 t8_1).bind fun x_3=>
   (cond (decide (x_2=x_3))
     ((idx t1_1 t9).bind fun x_4=>
     (idx t1_1 t8_1).bind fun x_5=>
     some (decide (x_4=x_5)))
     (some false)).bind fun b=>
   cond b
    (chk (inb o0_1 t8_1) <|
    (idx o0_1 t8_1).bind fun x_6=>
    (idx o0_1 t8_1).bind fun x_7=>
    kb ((z0i (t9-1)),(zdy o0_1 t8_1 t9)))
    (kb ((z0i (t9-1)),o0_1)))
   (kx2 o0_1)
def f84_L6 {R:Type} (N:Nat) (t1:List Int) (t0:List Int) (kb:Int×List Int->Option R) (kx0:Ya->Option R):Int×List Int->Option R:=
 fun (t8,o0)=>
  cond (decide (t8 < (len t0)))
   (chk (inb o0 t8) <|
   (idx o0 t8).bind fun x=>
   (idx o0 t8).bind fun x_1=>
   iter (fun w=>f84_L10 N t8 t1 t0 w
    (fun o0_2=>
     kb ((z0i (t8+1)),o0_2))) N ((z0i (t8-1)),(zdy o0 t8 t8)))
   (kx0 o0)
def f84 (N:Nat) (a0:List Int) (a1:List Int):Option (List Int×Int):=
 (f99 N a0 a1).bind fun r=>
 cond (!(decide (r=0)))
  (some (([]:List Int),r))
  (chk (((decide (0≤(len a0))) && (decide ((len a0)≤(len a0)))) && (decide ((len a0)≤((z32:Nat):Int)))) <|
  iter (fun w=>f84_L6 N a1 a0 w
   (fun o0_3=>
    (f47 N o0_3).bind fun r_1=>
    some (r_1,0))) N (0,(List.replicate (Int.toNat (len a0)) 0:List Int)))
def f57_L3 {R:Type} (N:Nat) (t11:List Int) (t12:Int) (o0:Ye) (kb:Int×List Int->Option R) (kx0:Ya->Option R):Int×List Int->Option R:=
 fun (t13,o1)=>
  cond (decide (t13 < t12))
   ((idx t11 t13).bind fun x=>
   (idx o0.2.1 x).bind fun x_1=>
   (f84 N o1 x_1).bind fun r=>
   kb ((z0i (t13+1)),r.1))
   (kx0 o1)
def f57 (N:Nat) (a0:Ye) (a1:List Int):Option Ya:=
 chk (((decide (0≤a0.1)) && (decide (a0.1≤a0.1))) && (decide (a0.1≤((z32:Nat):Int)))) <|
 iter (fun w=>f57_L3 N a1 (len a1) a0 w
  (fun o0_1=>
   some o0_1)) N (0,(List.replicate (Int.toNat a0.1) 0:List Int))
def f21_L3 {R:Type} (N:Nat) (t8:Int) (o1:Ye) (kb:Int×List Int->Option R) (kx0:Ya->Option R):Int×List Int->Option R:=
 fun (t9,o0)=>
  cond (decide (t9 < t8))
   (chk (decide ((Nat.succ (List.length o0))≤z32)) <|
   kb ((z0i (t9+1)),(o0++(t9 :: ([]:List Int)))))
   (kx0 o0)
def f21 (N:Nat) (a0:Ye):Option Ya:=
 iter (fun w=>f21_L3 N (len a0.2.1) a0 w
  (fun o0_1=>
   (f57 N a0 o0_1).bind fun r=>
   some r)) N (0,([]:List Int))
def c21 (N:Nat):Callee:=.pure (.pr (.val .yg) .un) [.yn] fun d=>f21 N d.1
def f5 (N:Nat) (a0:Ye) (a1:List Ya) (a2:Int):Option (Bool):=
 (f11 N).bind fun r=>
 cond (!r)
  (some false)
  ((f12 N a0 a1 6 4).bind fun r_1=>
  (cond (!r_1)
    (some true)
    ((f15 N a0 a1 a2).bind fun r_2=>
    some (!r_2))).bind fun b=>
  (cond b
    (some true)
    (some (decide (a2=8)))).bind fun b_1=>
  cond b_1
   (some true)
   ((f19 N a0 a1 a2).bind fun r_3=>
   (f20 N a0 a1 a2).bind fun r_4=>
   (f20 N a0 a1 (z0i (a2+1))).bind fun r_5=>
   (cond (!(decide (r_3.2.2=0)))
     (some true)
     (some (!(decide (r_4.2.2.2=0))))).bind fun b_2=>
   (cond b_2
     (some true)
     (some (!(decide (r_5.2.2.2=0))))).bind fun b_3=>
   cond b_3
    (some false)
    ((cond (decide (r_3.1≤r_4.1))
      ((cond (decide (1 < a2))
        (some true)
        (some (decide (r_3.1=r_4.1)))).bind fun b_4=>
      some b_4)
      (some false)).bind fun b_5=>
    (cond b_5
      (some (decide (r_4.1≤r_5.1)))
      (some false)).bind fun b_6=>
    (cond b_6
      ((f21 N a0).bind fun r_6=>
      (f18 N a0 a1 r_6).bind fun r_7=>
      some (decide (r_5.1≤r_7)))
      (some false)).bind fun b_7=>
    (cond b_7
      ((cond (decide (a2 < (len a0.2.1)))
        (some true)
        (some (decide (r_4.1=r_5.1)))).bind fun b_8=>
      some b_8)
      (some false)).bind fun b_9=>
    some b_9)))
def c5 (N:Nat):Callee:=.pure (.pr (.val .yg) (.pr (.val .yc) (.pr (.val .ya) .un))) [.bool] fun d=>f5 N d.1 d.2.1 d.2.2.1
def lp5 (N:Nat):Nat->Option z0m:=fun r=>none
def x5 (N:Nat):Ctx:=(mkX N 110 [(11,[c11 N]),(12,[c12 N]),(15,[c15 N]),(19,[c19 N]),(20,[c20 N]),(21,[c21 N]),(18,[c18 N])] [] [] ⟨[6],[]⟩ (fun _=>none) (lp5 N))
noncomputable def b5:Code:=((Go.Proofs.Try.f5).body).getD .skip
theorem e5 (N:Nat) (a0:Ye) (a1:List Ya) (a2:Int):z1o (x5 N) [.bool] [.tmp 6] b5 (entry (.pr (.val .yg) (.pr (.val .yc) (.pr (.val .ya) .un))) (a0,(a1,(a2,()))))=f5 N a0 a1 a2:=by kernel_rfl
end
end Go.Kz
