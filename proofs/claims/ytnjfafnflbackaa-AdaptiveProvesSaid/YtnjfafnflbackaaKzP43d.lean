/-
  The functions of the program as plain functions on lists and numbers, and the proofs that the program computes them. Printed by a program.
-/
import Derived.Test.YtnjfafnflbackaaKzP43c
set_option linter.unusedSimpArgs false
set_option maxRecDepth 100000
set_option linter.unusedVariables false
namespace Go.Kz
open Go.Proofs
noncomputable section
def zgf {R:Type} (N:Nat) (t3:List Yn) (t1:List Ya) (t4:Int) (t2:Int) (t31:Int) (o0:Ye) (kb:Int->Option R) (kret:Int->Option R) (kx0:Unit->Option R):Int->Option R:=
 fun t32=>
  cond (decide (t32 < t31))
   ((cond (decide (0 < t32))
     ((idx t3 (z0k (t32-1))).bind fun x=>
     (idx t3 t32).bind fun x_1=>
     (f38 N x x_1).bind fun r_1=>
     some (!r_1))
     (some false)).bind fun b=>
   cond b
    (kret 10)
    (kb (z0k (t32+1))))
   (kx0 ())
def zgi {R:Type} (N:Nat) (t1_1:List Ya) (t51:List Yn) (t3_1:List Yn) (t4_1:Int) (t2_1:Int) (t52:Int) (o0_1:Ye) (kb:Int->Option R) (kret:Int->Option R) (kx2:Unit->Option R):Int->Option R:=
 fun t53=>
  cond (decide (t53 < t52))
   ((idx t51 t53).bind fun x_2=>
   (cond (decide (x_2.2.1 < 0))
     (some true)
     (some (decide (x_2.1 < 1)))).bind fun b_1=>
   (cond b_1
     (some true)
     ((f39 N o0_1).bind fun r_2=>
     some (decide (r_2 < x_2.1)))).bind fun b_2=>
   (cond b_2
     (some true)
     ((f40 N o0_1 t1_1 x_2.1).bind fun r_3=>
     some (decide (x_2.2.2.1 < r_3)))).bind fun b_3=>
   (cond b_3
     (some true)
     (some (decide (1099511627776 < x_2.2.2.1)))).bind fun b_4=>
   cond b_4
    (kret 13)
    (kb (z0k (t53+1))))
   (kx2 ())
def zcz {R:Type} (N:Nat) (t3_4:List Yn) (t88_2:List Yn) (t4_4:Int) (t2_4:Int) (t89_2:Int) (t90_2:Int) (t96_1:Int) (t97_1:Int) (t108:Int) (o0_4:Yn) (o1_1:List Int) (o2:Ye) (kb:Int×Int->Option R) (kret:Int->Option R) (kx8:Int->Option R):Int×Int->Option R:=
 fun (t109,t17)=>
  cond (decide (t109 < t108))
   (chk (inb o1_1 t109) <|
   (idx o1_1 t109).bind fun x_4=>
   (f42 N t3_4 x_4 (z0k (o0_4.2.1-1))).bind fun r_5=>
   cond (decide (r_5 < 0))
    (kret 13)
    ((idx t3_4 r_5).bind fun x_5=>
    kb ((z0k (t109+1)),(z0k (t17+x_5.2.2.1)))))
   (kx8 t17)
def zgg {R:Type} (N:Nat) (t3_3:List Yn) (t88_1:List Yn) (t4_3:Int) (t2_3:Int) (t89_1:Int) (t90_1:Int) (t96:Int) (o0_3:Yn) (o1:Ye) (kb:Int->Option R) (kret:Int->Option R) (kx6:Unit->Option R):Int->Option R:=
 fun t97=>
  cond (decide (t97 < t96))
   (cond (decide (o0_3.2.1=0))
    (kb (z0k (t97+1)))
    ((f41 N o1 o0_3.1 t97).bind fun r_4=>
    iter (fun w=>zcz N t3_3 t88_1 t4_3 t2_3 t89_1 t90_1 t96 t97 (len r_4) o0_3 r_4 o1 w
     (fun t10_2=>
      kret t10_2)
     (fun t17_1=>
      cond (decide (o0_3.2.2.1 < t17_1))
       (kret 13)
       (kb (z0k (t97+1))))) N (0,0)))
   (kx6 ())
def zgh {R:Type} (N:Nat) (t3_2:List Yn) (t88:List Yn) (t4_2:Int) (t2_2:Int) (t89:Int) (o0_2:Ye) (kb:Int->Option R) (kret:Int->Option R) (kx4:Unit->Option R):Int->Option R:=
 fun t90=>
  cond (decide (t90 < t89))
   ((idx t88 t90).bind fun x_3=>
   iter (fun w=>zgg N t3_2 t88 t4_2 t2_2 t89 t90 (len o0_2.2.1) x_3 o0_2 w
    (fun t10_3=>
     kret t10_3)
    (fun (_:Unit)=>
     kb (z0k (t90+1)))) N 0)
   (kx4 ())
def f14 (N:Nat) (a0:Ye) (a1:List Ya) (a2:Int) (a3:List Yn) (a4:Int):Option (Int):=
 (f15 N a0 a1 a2).bind fun r=>
 cond (!r)
  (some 1)
  (cond (decide (4096 < (len a3)))
   (some 4)
   (iter (fun w=>zgf N a3 a1 a4 a2 (len a3) a0 w
    (fun t10=>
     some t10)
    (fun (_:Unit)=>
     iter (fun w=>zgi N a1 a3 a3 a4 a2 (len a3) a0 w
      (fun t10_1=>
       some t10_1)
      (fun (_:Unit)=>
       iter (fun w=>zgh N a3 a3 a4 a2 (len a3) a0 w
        (fun t10_4=>
         some t10_4)
        (fun (_:Unit)=>
         (f39 N a0).bind fun r_6=>
         (f42 N a3 r_6 a2).bind fun r_7=>
         (cond (decide (r_7 < 0))
           (some true)
           ((idx a3 r_7).bind fun x_6=>
           some (decide (a4 < x_6.2.2.1)))).bind fun b_5=>
         cond b_5
          (some 13)
          (some 0))) N 0)) N 0)) N 0))
def c14 (N:Nat):Callee:=.pure (.pr (.val .yg) (.pr (.val .yc) (.pr (.val .ya) (.pr (.val .yi) (.pr (.val .ya) .un))))) [.ya] fun d=>f14 N d.1 d.2.1 d.2.2.1 d.2.2.2.1 d.2.2.2.2.1
def F14_6:SForm:=⟨[(32,(.val .ya)),(3,(.val .yi)),(1,(.val .yc)),(5,(.bptr 0 [])),(4,(.val .ya)),(2,(.val .ya)),(31,(.val .ya))],[.cell (.val .yg)]⟩
def G14_6 (N:Nat):(R:Type)->F14_6.den->(AExit->St->Option R)->Option R:=fun R d k=>iter (fun kb=>zgf N d.1.2.1 d.1.2.2.1 d.1.2.2.2.2.1 d.1.2.2.2.2.2.1 d.1.2.2.2.2.2.2.1 d.2.1 kb
  (fun y0=>k .ret (St.of [(10,(.data .ya y0))] []))
  (fun _=>k (.exit 0) (St.of [(1,(.data .yc d.1.2.2.1)),(5,(.bptr 0 [])),(3,(.data .yi d.1.2.1)),(4,(.data .ya d.1.2.2.2.2.1)),(2,(.data .ya d.1.2.2.2.2.2.1))] [.cell (.data .yg d.2.1)]))) N d.1.1
def F14_12:SForm:=⟨[(53,(.val .ya)),(1,(.val .yc)),(5,(.bptr 0 [])),(51,(.val .yi)),(3,(.val .yi)),(4,(.val .ya)),(2,(.val .ya)),(52,(.val .ya))],[.cell (.val .yg)]⟩
def G14_12 (N:Nat):(R:Type)->F14_12.den->(AExit->St->Option R)->Option R:=fun R d k=>iter (fun kb=>zgi N d.1.2.1 d.1.2.2.2.1 d.1.2.2.2.2.1 d.1.2.2.2.2.2.1 d.1.2.2.2.2.2.2.1 d.1.2.2.2.2.2.2.2.1 d.2.1 kb
  (fun y0=>k .ret (St.of [(10,(.data .ya y0))] []))
  (fun _=>k (.exit 2) (St.of [(3,(.data .yi d.1.2.2.2.2.1)),(5,(.bptr 0 [])),(4,(.data .ya d.1.2.2.2.2.2.1)),(2,(.data .ya d.1.2.2.2.2.2.2.1))] [.cell (.data .yg d.2.1)]))) N d.1.1
def F14_26:SForm:=⟨[(109,(.val .ya)),(3,(.val .yi)),(17,(.val .ya)),(15,(.bptr 0 [])),(107,(.ref 1)),(5,(.bptr 2 [])),(88,(.val .yi)),(4,(.val .ya)),(2,(.val .ya)),(89,(.val .ya)),(90,(.val .ya)),(96,(.val .ya)),(97,(.val .ya)),(108,(.val .ya))],[.cell (.val .yh),.row .ya,.cell (.val .yg)]⟩
def G14_26 (N:Nat):(R:Type)->F14_26.den->(AExit->St->Option R)->Option R:=fun R d k=>iter (fun kb=>zcz N d.1.2.1 d.1.2.2.2.2.2.2.1 d.1.2.2.2.2.2.2.2.1 d.1.2.2.2.2.2.2.2.2.1 d.1.2.2.2.2.2.2.2.2.2.1 d.1.2.2.2.2.2.2.2.2.2.2.1 d.1.2.2.2.2.2.2.2.2.2.2.2.1 d.1.2.2.2.2.2.2.2.2.2.2.2.2.1 d.1.2.2.2.2.2.2.2.2.2.2.2.2.2.1 d.2.1 d.2.2.1 d.2.2.2.1 kb
  (fun y0=>k .ret (St.of [(10,(.data .ya y0))] []))
  (fun y8=>k (.exit 8) (St.of [(3,(.data .yi d.1.2.1)),(15,(.bptr 0 [])),(5,(.bptr 1 [])),(88,(.data .yi d.1.2.2.2.2.2.2.1)),(4,(.data .ya d.1.2.2.2.2.2.2.2.1)),(2,(.data .ya d.1.2.2.2.2.2.2.2.2.1)),(89,(.data .ya d.1.2.2.2.2.2.2.2.2.2.1)),(90,(.data .ya d.1.2.2.2.2.2.2.2.2.2.2.1)),(96,(.data .ya d.1.2.2.2.2.2.2.2.2.2.2.2.1)),(97,(.data .ya d.1.2.2.2.2.2.2.2.2.2.2.2.2.1)),(17,(.data .ya y8))] [.cell (.data .yh d.2.1),.cell (.data .yg d.2.2.2.1)]))) N (d.1.1,d.1.2.2.1)
def F14_21:SForm:=⟨[(97,(.val .ya)),(3,(.val .yi)),(15,(.bptr 0 [])),(5,(.bptr 1 [])),(88,(.val .yi)),(4,(.val .ya)),(2,(.val .ya)),(89,(.val .ya)),(90,(.val .ya)),(96,(.val .ya))],[.cell (.val .yh),.cell (.val .yg)]⟩
def G14_21 (N:Nat):(R:Type)->F14_21.den->(AExit->St->Option R)->Option R:=fun R d k=>iter (fun kb=>zgg N d.1.2.1 d.1.2.2.2.2.1 d.1.2.2.2.2.2.1 d.1.2.2.2.2.2.2.1 d.1.2.2.2.2.2.2.2.1 d.1.2.2.2.2.2.2.2.2.1 d.1.2.2.2.2.2.2.2.2.2.1 d.2.1 d.2.2.1 kb
  (fun y0=>k .ret (St.of [(10,(.data .ya y0))] []))
  (fun _=>k (.exit 6) (St.of [(3,(.data .yi d.1.2.1)),(5,(.bptr 0 [])),(88,(.data .yi d.1.2.2.2.2.1)),(4,(.data .ya d.1.2.2.2.2.2.1)),(2,(.data .ya d.1.2.2.2.2.2.2.1)),(89,(.data .ya d.1.2.2.2.2.2.2.2.1)),(90,(.data .ya d.1.2.2.2.2.2.2.2.2.1))] [.cell (.data .yg d.2.2.1)]))) N d.1.1
def F14_18:SForm:=⟨[(3,(.val .yi)),(5,(.bptr 0 [])),(90,(.val .ya)),(88,(.val .yi)),(4,(.val .ya)),(2,(.val .ya)),(89,(.val .ya))],[.cell (.val .yg)]⟩
def G14_18 (N:Nat):(R:Type)->F14_18.den->(AExit->St->Option R)->Option R:=fun R d k=>iter (fun kb=>zgh N d.1.1 d.1.2.2.2.1 d.1.2.2.2.2.1 d.1.2.2.2.2.2.1 d.1.2.2.2.2.2.2.1 d.2.1 kb
  (fun y0=>k .ret (St.of [(10,(.data .ya y0))] []))
  (fun _=>k (.exit 4) (St.of [(4,(.data .ya d.1.2.2.2.2.1)),(3,(.data .yi d.1.1)),(2,(.data .ya d.1.2.2.2.2.2.1)),(5,(.bptr 0 []))] [.cell (.data .yg d.2.1)]))) N d.1.2.2.1
def lp14 (N:Nat):Nat->Option z0o:=fun r=>cond (Nat.beq r 6) (some fun R sl os k=>F14_6.take sl os fun d=>G14_6 N R d k) (cond (Nat.beq r 12) (some fun R sl os k=>F14_12.take sl os fun d=>G14_12 N R d k) (cond (Nat.beq r 26) (some fun R sl os k=>F14_26.take sl os fun d=>G14_26 N R d k) (cond (Nat.beq r 21) (some fun R sl os k=>F14_21.take sl os fun d=>G14_21 N R d k) (cond (Nat.beq r 18) (some fun R sl os k=>F14_18.take sl os fun d=>G14_18 N R d k) (none)))))
def x14 (N:Nat):Ctx:=(mkX N 151 [(15,[c15 N]),(38,[c38 N]),(39,[c39 N]),(40,[c40 N]),(41,[c41 N]),(42,[c42 N])] [(6,⟨[32,3,1,5,4,2,31],[]⟩),(12,⟨[53,1,5,51,3,4,2,52],[]⟩),(18,⟨[3,5,90,88,4,2,89],[]⟩),(21,⟨[97,3,15,5,88,4,2,89,90,96],[]⟩),(26,⟨[109,3,17,15,107,5,88,4,2,89,90,96,97,108],[]⟩)] [(6,[(0,⟨[1,5,3,4,2],[]⟩)]),(12,[(2,⟨[3,5,4,2],[]⟩)]),(18,[(4,⟨[4,3,2,5],[]⟩)]),(21,[(6,⟨[3,5,88,4,2,89,90],[]⟩)]),(26,[(8,⟨[3,15,5,88,4,2,89,90,96,97,17],[]⟩)])] ⟨[10],[]⟩ (fun _=>none) (lp14 N))
noncomputable def b14:Code:=((Go.Proofs.Try.f14).body).getD .skip
theorem s14_6 (N:Nat) {R:Type} (k:AExit->St->Option R) (t3:List Yn) (t1:List Ya) (t4:Int) (t2:Int) (t31:Int) (o0:Ye) (kb:List Yl->List Obj->Option R) (x:Int):z11 (x14 N) (z02 6 (z00 b14)) (St.of [(32,(.data .ya x)),(3,(.data .yi t3)),(1,(.data .yc t1)),(5,(.bptr 0 [])),(4,(.data .ya t4)),(2,(.data .ya t2)),(31,(.data .ya t31))] [.cell (.data .yg o0)]) (z1r (x14 N) 6 ⟨[32,3,1,5,4,2,31],[]⟩ kb k)=zgf N t3 t1 t4 t2 t31 o0 (fun y=>kb [(32,(.data .ya y)),(3,(.data .yi t3)),(1,(.data .yc t1)),(5,(.bptr 0 [])),(4,(.data .ya t4)),(2,(.data .ya t2)),(31,(.data .ya t31))] [.cell (.data .yg o0)])
  (fun y0=>k .ret (St.of [(10,(.data .ya y0))] []))
  (fun _=>k (.exit 0) (St.of [(1,(.data .yc t1)),(5,(.bptr 0 [])),(3,(.data .yi t3)),(4,(.data .ya t4)),(2,(.data .ya t2))] [.cell (.data .yg o0)])) x:=by kernel_rfl
theorem l14_6 (N:Nat):z0m (x14 N) (z02 6 (z00 b14)):=
 z0j (G14_6 N) (by kernel_rfl) (by kernel_rfl) (by kernel_rfl) fun R k d=>
  z0i (st:=fun (x:Int)=>([(32,(.data .ya x)),(3,(.data .yi d.1.2.1)),(1,(.data .yc d.1.2.2.1)),(5,(.bptr 0 [])),(4,(.data .ya d.1.2.2.2.2.1)),(2,(.data .ya d.1.2.2.2.2.2.1)),(31,(.data .ya d.1.2.2.2.2.2.2.1))],[.cell (.data .yg d.2.1)])) (s14_6 N k d.1.2.1 d.1.2.2.1 d.1.2.2.2.2.1 d.1.2.2.2.2.2.1 d.1.2.2.2.2.2.2.1 d.2.1) N d.1.1
theorem s14_12 (N:Nat) {R:Type} (k:AExit->St->Option R) (t1_1:List Ya) (t51:List Yn) (t3_1:List Yn) (t4_1:Int) (t2_1:Int) (t52:Int) (o0_1:Ye) (kb:List Yl->List Obj->Option R) (x:Int):z11 (x14 N) (z02 12 (z00 b14)) (St.of [(53,(.data .ya x)),(1,(.data .yc t1_1)),(5,(.bptr 0 [])),(51,(.data .yi t51)),(3,(.data .yi t3_1)),(4,(.data .ya t4_1)),(2,(.data .ya t2_1)),(52,(.data .ya t52))] [.cell (.data .yg o0_1)]) (z1r (x14 N) 12 ⟨[53,1,5,51,3,4,2,52],[]⟩ kb k)=zgi N t1_1 t51 t3_1 t4_1 t2_1 t52 o0_1 (fun y=>kb [(53,(.data .ya y)),(1,(.data .yc t1_1)),(5,(.bptr 0 [])),(51,(.data .yi t51)),(3,(.data .yi t3_1)),(4,(.data .ya t4_1)),(2,(.data .ya t2_1)),(52,(.data .ya t52))] [.cell (.data .yg o0_1)])
  (fun y0=>k .ret (St.of [(10,(.data .ya y0))] []))
  (fun _=>k (.exit 2) (St.of [(3,(.data .yi t3_1)),(5,(.bptr 0 [])),(4,(.data .ya t4_1)),(2,(.data .ya t2_1))] [.cell (.data .yg o0_1)])) x:=by kernel_rfl
theorem l14_12 (N:Nat):z0m (x14 N) (z02 12 (z00 b14)):=
 z0j (G14_12 N) (by kernel_rfl) (by kernel_rfl) (by kernel_rfl) fun R k d=>
  z0i (st:=fun (x:Int)=>([(53,(.data .ya x)),(1,(.data .yc d.1.2.1)),(5,(.bptr 0 [])),(51,(.data .yi d.1.2.2.2.1)),(3,(.data .yi d.1.2.2.2.2.1)),(4,(.data .ya d.1.2.2.2.2.2.1)),(2,(.data .ya d.1.2.2.2.2.2.2.1)),(52,(.data .ya d.1.2.2.2.2.2.2.2.1))],[.cell (.data .yg d.2.1)])) (s14_12 N k d.1.2.1 d.1.2.2.2.1 d.1.2.2.2.2.1 d.1.2.2.2.2.2.1 d.1.2.2.2.2.2.2.1 d.1.2.2.2.2.2.2.2.1 d.2.1) N d.1.1
theorem s14_26 (N:Nat) {R:Type} (k:AExit->St->Option R) (t3_4:List Yn) (t88_2:List Yn) (t4_4:Int) (t2_4:Int) (t89_2:Int) (t90_2:Int) (t96_1:Int) (t97_1:Int) (t108:Int) (o0_4:Yn) (o1_1:List Int) (o2:Ye) (kb:List Yl->List Obj->Option R) (x:Int×Int):z11 (x14 N) (z02 26 (z00 b14)) (St.of [(109,(.data .ya x.1)),(3,(.data .yi t3_4)),(17,(.data .ya x.2)),(15,(.bptr 0 [])),(107,(.ref 1 [] 0)),(5,(.bptr 2 [])),(88,(.data .yi t88_2)),(4,(.data .ya t4_4)),(2,(.data .ya t2_4)),(89,(.data .ya t89_2)),(90,(.data .ya t90_2)),(96,(.data .ya t96_1)),(97,(.data .ya t97_1)),(108,(.data .ya t108))] [.cell (.data .yh o0_4),.row .ya o1_1 0,.cell (.data .yg o2)]) (z1r (x14 N) 26 ⟨[109,3,17,15,107,5,88,4,2,89,90,96,97,108],[]⟩ kb k)=zcz N t3_4 t88_2 t4_4 t2_4 t89_2 t90_2 t96_1 t97_1 t108 o0_4 o1_1 o2 (fun y=>kb [(109,(.data .ya y.1)),(3,(.data .yi t3_4)),(17,(.data .ya y.2)),(15,(.bptr 0 [])),(107,(.ref 1 [] 0)),(5,(.bptr 2 [])),(88,(.data .yi t88_2)),(4,(.data .ya t4_4)),(2,(.data .ya t2_4)),(89,(.data .ya t89_2)),(90,(.data .ya t90_2)),(96,(.data .ya t96_1)),(97,(.data .ya t97_1)),(108,(.data .ya t108))] [.cell (.data .yh o0_4),.row .ya o1_1 0,.cell (.data .yg o2)])
  (fun y0=>k .ret (St.of [(10,(.data .ya y0))] []))
  (fun y8=>k (.exit 8) (St.of [(3,(.data .yi t3_4)),(15,(.bptr 0 [])),(5,(.bptr 1 [])),(88,(.data .yi t88_2)),(4,(.data .ya t4_4)),(2,(.data .ya t2_4)),(89,(.data .ya t89_2)),(90,(.data .ya t90_2)),(96,(.data .ya t96_1)),(97,(.data .ya t97_1)),(17,(.data .ya y8))] [.cell (.data .yh o0_4),.cell (.data .yg o2)])) x:=by kernel_rfl
theorem l14_26 (N:Nat):z0m (x14 N) (z02 26 (z00 b14)):=
 z0j (G14_26 N) (by kernel_rfl) (by kernel_rfl) (by kernel_rfl) fun R k d=>
  z0i (st:=fun (x:Int×Int)=>([(109,(.data .ya x.1)),(3,(.data .yi d.1.2.1)),(17,(.data .ya x.2)),(15,(.bptr 0 [])),(107,(.ref 1 [] 0)),(5,(.bptr 2 [])),(88,(.data .yi d.1.2.2.2.2.2.2.1)),(4,(.data .ya d.1.2.2.2.2.2.2.2.1)),(2,(.data .ya d.1.2.2.2.2.2.2.2.2.1)),(89,(.data .ya d.1.2.2.2.2.2.2.2.2.2.1)),(90,(.data .ya d.1.2.2.2.2.2.2.2.2.2.2.1)),(96,(.data .ya d.1.2.2.2.2.2.2.2.2.2.2.2.1)),(97,(.data .ya d.1.2.2.2.2.2.2.2.2.2.2.2.2.1)),(108,(.data .ya d.1.2.2.2.2.2.2.2.2.2.2.2.2.2.1))],[.cell (.data .yh d.2.1),.row .ya d.2.2.1 0,.cell (.data .yg d.2.2.2.1)])) (s14_26 N k d.1.2.1 d.1.2.2.2.2.2.2.1 d.1.2.2.2.2.2.2.2.1 d.1.2.2.2.2.2.2.2.2.1 d.1.2.2.2.2.2.2.2.2.2.1 d.1.2.2.2.2.2.2.2.2.2.2.1 d.1.2.2.2.2.2.2.2.2.2.2.2.1 d.1.2.2.2.2.2.2.2.2.2.2.2.2.1 d.1.2.2.2.2.2.2.2.2.2.2.2.2.2.1 d.2.1 d.2.2.1 d.2.2.2.1) N (d.1.1,d.1.2.2.1)
theorem s14_21 (N:Nat) {R:Type} (k:AExit->St->Option R) (t3_3:List Yn) (t88_1:List Yn) (t4_3:Int) (t2_3:Int) (t89_1:Int) (t90_1:Int) (t96:Int) (o0_3:Yn) (o1:Ye) (kb:List Yl->List Obj->Option R) (x:Int):z11 (x14 N) (z02 21 (z00 b14)) (St.of [(97,(.data .ya x)),(3,(.data .yi t3_3)),(15,(.bptr 0 [])),(5,(.bptr 1 [])),(88,(.data .yi t88_1)),(4,(.data .ya t4_3)),(2,(.data .ya t2_3)),(89,(.data .ya t89_1)),(90,(.data .ya t90_1)),(96,(.data .ya t96))] [.cell (.data .yh o0_3),.cell (.data .yg o1)]) (z1r (x14 N) 21 ⟨[97,3,15,5,88,4,2,89,90,96],[]⟩ kb k)=zgg N t3_3 t88_1 t4_3 t2_3 t89_1 t90_1 t96 o0_3 o1 (fun y=>kb [(97,(.data .ya y)),(3,(.data .yi t3_3)),(15,(.bptr 0 [])),(5,(.bptr 1 [])),(88,(.data .yi t88_1)),(4,(.data .ya t4_3)),(2,(.data .ya t2_3)),(89,(.data .ya t89_1)),(90,(.data .ya t90_1)),(96,(.data .ya t96))] [.cell (.data .yh o0_3),.cell (.data .yg o1)])
  (fun y0=>k .ret (St.of [(10,(.data .ya y0))] []))
  (fun _=>k (.exit 6) (St.of [(3,(.data .yi t3_3)),(5,(.bptr 0 [])),(88,(.data .yi t88_1)),(4,(.data .ya t4_3)),(2,(.data .ya t2_3)),(89,(.data .ya t89_1)),(90,(.data .ya t90_1))] [.cell (.data .yg o1)])) x:=by kernel_rfl
theorem l14_21 (N:Nat):z0m (x14 N) (z02 21 (z00 b14)):=
 z0j (G14_21 N) (by kernel_rfl) (by kernel_rfl) (by kernel_rfl) fun R k d=>
  z0i (st:=fun (x:Int)=>([(97,(.data .ya x)),(3,(.data .yi d.1.2.1)),(15,(.bptr 0 [])),(5,(.bptr 1 [])),(88,(.data .yi d.1.2.2.2.2.1)),(4,(.data .ya d.1.2.2.2.2.2.1)),(2,(.data .ya d.1.2.2.2.2.2.2.1)),(89,(.data .ya d.1.2.2.2.2.2.2.2.1)),(90,(.data .ya d.1.2.2.2.2.2.2.2.2.1)),(96,(.data .ya d.1.2.2.2.2.2.2.2.2.2.1))],[.cell (.data .yh d.2.1),.cell (.data .yg d.2.2.1)])) (s14_21 N k d.1.2.1 d.1.2.2.2.2.1 d.1.2.2.2.2.2.1 d.1.2.2.2.2.2.2.1 d.1.2.2.2.2.2.2.2.1 d.1.2.2.2.2.2.2.2.2.1 d.1.2.2.2.2.2.2.2.2.2.1 d.2.1 d.2.2.1) N d.1.1
theorem s14_18 (N:Nat) {R:Type} (k:AExit->St->Option R) (t3_2:List Yn) (t88:List Yn) (t4_2:Int) (t2_2:Int) (t89:Int) (o0_2:Ye) (kb:List Yl->List Obj->Option R) (x:Int):z11 (x14 N) (z02 18 (z00 b14)) (St.of [(3,(.data .yi t3_2)),(5,(.bptr 0 [])),(90,(.data .ya x)),(88,(.data .yi t88)),(4,(.data .ya t4_2)),(2,(.data .ya t2_2)),(89,(.data .ya t89))] [.cell (.data .yg o0_2)]) (z1r (x14 N) 18 ⟨[3,5,90,88,4,2,89],[]⟩ kb k)=zgh N t3_2 t88 t4_2 t2_2 t89 o0_2 (fun y=>kb [(3,(.data .yi t3_2)),(5,(.bptr 0 [])),(90,(.data .ya y)),(88,(.data .yi t88)),(4,(.data .ya t4_2)),(2,(.data .ya t2_2)),(89,(.data .ya t89))] [.cell (.data .yg o0_2)])
  (fun y0=>k .ret (St.of [(10,(.data .ya y0))] []))
  (fun _=>k (.exit 4) (St.of [(4,(.data .ya t4_2)),(3,(.data .yi t3_2)),(2,(.data .ya t2_2)),(5,(.bptr 0 []))] [.cell (.data .yg o0_2)])) x:=by kernel_rfl
theorem l14_18 (N:Nat):z0m (x14 N) (z02 18 (z00 b14)):=
 z0j (G14_18 N) (by kernel_rfl) (by kernel_rfl) (by kernel_rfl) fun R k d=>
  z0i (st:=fun (x:Int)=>([(3,(.data .yi d.1.1)),(5,(.bptr 0 [])),(90,(.data .ya x)),(88,(.data .yi d.1.2.2.2.1)),(4,(.data .ya d.1.2.2.2.2.1)),(2,(.data .ya d.1.2.2.2.2.2.1)),(89,(.data .ya d.1.2.2.2.2.2.2.1))],[.cell (.data .yg d.2.1)])) (s14_18 N k d.1.1 d.1.2.2.2.1 d.1.2.2.2.2.1 d.1.2.2.2.2.2.1 d.1.2.2.2.2.2.2.1 d.2.1) N d.1.2.2.1
theorem e14 (N:Nat) (a0:Ye) (a1:List Ya) (a2:Int) (a3:List Yn) (a4:Int):z28 (x14 N) [.ya] [.tmp 10] b14 (entry (.pr (.val .yg) (.pr (.val .yc) (.pr (.val .ya) (.pr (.val .yi) (.pr (.val .ya) .un))))) (a0,(a1,(a2,(a3,(a4,()))))))=f14 N a0 a1 a2 a3 a4:=by kernel_rfl
theorem k14 (N:Nat):z04 Go.Proofs.Try.prog 14 (c14 N):=
 z2a (fn:=Go.Proofs.Try.f14) (body:=b14) (c:=x14 N) Go.Proofs.Try.func14 (by kernel_rfl) (by kernel_rfl) ⟨ttL_ok,z0q,z0s,z0t,z0r,z03 (z01 (k15 N)) (z03 (z01 (k38 N)) (z03 (z01 (k39 N)) (z03 (z01 (k40 N)) (z03 (z01 (k41 N)) (z03 (z01 (k42 N)) (z0f))))))⟩ mixed (by kernel_rfl) (zL (by kernel_rfl)) (by kernel_rfl) (by decide)
  (z0b (by kernel_rfl:z00 b14=[z02 6 (z00 b14),z02 12 (z00 b14),z02 18 (z00 b14),z02 21 (z00 b14),z02 26 (z00 b14)]) (.cons (l14_6 N) (.cons (l14_12 N) (.cons (l14_18 N) (.cons (l14_21 N) (.cons (l14_26 N) .nil)))))) fun d=>e14 N d.1 d.2.1 d.2.2.1 d.2.2.2.1 d.2.2.2.2.1
def f3 (N:Nat) (a0:Ye) (a1:List Ya) (a2:(Int×(List Yn×Yc))):Option (Bool):=
 (f11 N).bind fun r=>
 cond (!r)
  (some false)
  ((f12 N a0 a1 8 4).bind fun r_1=>
  (cond (!r_1)
    (some true)
    (some (decide (80 < (len a2.2.1))))).bind fun b=>
  cond b
   (some true)
   ((f13 N a0 a1 a2.1 a2.2.1 a2.2.2.1).bind fun r_2=>
   (f14 N a0 a1 a2.1 a2.2.1 a2.2.2.1).bind fun r_3=>
   some (decide (r_2=r_3))))
def c3 (N:Nat):Callee:=.pure (.pr (.val .yg) (.pr (.val .yc) (.pr (.val (.pair .ya (.pair .yi .yd))) .un))) [.bool] fun d=>f3 N d.1 d.2.1 d.2.2.1
def lp3 (N:Nat):Nat->Option z0o:=fun r=>none
def x3 (N:Nat):Ctx:=(mkX N 38 [(11,[c11 N]),(12,[c12 N]),(13,[c13 N]),(14,[c14 N])] [] [] ⟨[6],[]⟩ (fun _=>none) (lp3 N))
noncomputable def b3:Code:=((Go.Proofs.Try.f3).body).getD .skip
theorem e3 (N:Nat) (a0:Ye) (a1:List Ya) (a2:(Int×(List Yn×Yc))):z28 (x3 N) [.bool] [.tmp 6] b3 (entry (.pr (.val .yg) (.pr (.val .yc) (.pr (.val (.pair .ya (.pair .yi .yd))) .un))) (a0,(a1,(a2,()))))=f3 N a0 a1 a2:=by kernel_rfl
theorem k3 (N:Nat):z04 Go.Proofs.Try.prog 3 (c3 N):=
 z2a (fn:=Go.Proofs.Try.f3) (body:=b3) (c:=x3 N) Go.Proofs.Try.func3 (by kernel_rfl) (by kernel_rfl) ⟨ttL_ok,z0q,z0s,z0t,z0r,z03 (z01 (k11 N)) (z03 (z01 (k12 N)) (z03 (z01 (k13 N)) (z03 (z01 (k14 N)) (z0f))))⟩ mixed (by kernel_rfl) (zL (by kernel_rfl)) (by kernel_rfl) (by decide)
  (z0b (by kernel_rfl:z00 b3=[]) .nil) fun d=>e3 N d.1 d.2.1 d.2.2.1
end
end Go.Kz
