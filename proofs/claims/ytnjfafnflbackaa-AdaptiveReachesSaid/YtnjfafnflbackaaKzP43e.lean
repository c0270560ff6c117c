/-
  The functions of the program as plain functions on lists and numbers, and the proofs that the program computes them. Printed by a program.
-/
import Derived.Test.YtnjfafnflbackaaKzP43d
set_option linter.unusedSimpArgs false
set_option maxRecDepth 100000
set_option linter.unusedVariables false
namespace Go.Kz
open Go.Proofs
noncomputable section
def zxk {R:Type} (N:Nat) (t0:List Yd) (t7:Int) (o0:Yd) (kb:Int->Option R) (kret:Int->Option R) (kx0:Unit->Option R):Int->Option R:=
 fun t8=>
  cond (decide (t8 < t7))
   ((idx t0 t8).bind fun x=>
   cond (eqD .yf o0 x)
    (kret t8)
    (kb (z0k (t8+1))))
   (kx0 ())
def f88 (N:Nat) (a0:List Yd) (a1:Yd):Option (Int):=
 iter (fun w=>zxk N a0 (len a0) a1 w
  (fun t4=>
   some t4)
  (fun (_:Unit)=>
   some (-1))) N 0
def c88 (N:Nat):Callee:=.pure (.pr (.val .yn) (.pr (.val .yf) .un)) [.ya] fun d=>f88 N d.1 d.2.1
def F88_2:SForm:=⟨[(8,(.val .ya)),(0,(.val .yn)),(3,(.bptr 0 [])),(7,(.val .ya))],[.cell (.val .yf)]⟩
def G88_2 (N:Nat):(R:Type)->F88_2.den->(AExit->St->Option R)->Option R:=fun R d k=>iter (fun kb=>zxk N d.1.2.1 d.1.2.2.2.1 d.2.1 kb
  (fun y0=>k .ret (St.of [(4,(.data .ya y0))] []))
  (fun _=>k (.exit 0) (St.of [] []))) N d.1.1
def lp88 (N:Nat):Nat->Option z0n:=fun r=>cond (Nat.beq r 2) (some fun R sl os k=>F88_2.take sl os fun d=>G88_2 N R d k) (none)
def x88 (N:Nat):Ctx:=(mkX N 19 [] [(2,⟨[8,0,3,7],[]⟩)] [(2,[(0,⟨[],[]⟩)])] ⟨[4],[]⟩ (fun _=>none) (lp88 N))
noncomputable def b88:Code:=((Go.Proofs.Try.f88).body).getD .skip
theorem s88_2 (N:Nat) {R:Type} (k:AExit->St->Option R) (t0:List Yd) (t7:Int) (o0:Yd) (kb:List Yl->List Obj->Option R) (x:Int):z0v (x88 N) (z02 2 (z00 b88)) (St.of [(8,(.data .ya x)),(0,(.data .yn t0)),(3,(.bptr 0 [])),(7,(.data .ya t7))] [.cell (.data .yf o0)]) (z1j (x88 N) 2 ⟨[8,0,3,7],[]⟩ kb k)=zxk N t0 t7 o0 (fun y=>kb [(8,(.data .ya y)),(0,(.data .yn t0)),(3,(.bptr 0 [])),(7,(.data .ya t7))] [.cell (.data .yf o0)])
  (fun y0=>k .ret (St.of [(4,(.data .ya y0))] []))
  (fun _=>k (.exit 0) (St.of [] [])) x:=by kernel_rfl
theorem l88_2 (N:Nat):z0l (x88 N) (z02 2 (z00 b88)):=
 z0h (G88_2 N) (by kernel_rfl) (by kernel_rfl) (by kernel_rfl) fun R k d=>
  z0g (st:=fun (x:Int)=>([(8,(.data .ya x)),(0,(.data .yn d.1.2.1)),(3,(.bptr 0 [])),(7,(.data .ya d.1.2.2.2.1))],[.cell (.data .yf d.2.1)])) (s88_2 N k d.1.2.1 d.1.2.2.2.1 d.2.1) N d.1.1
theorem e88 (N:Nat) (a0:List Yd) (a1:Yd):z1u (x88 N) [.ya] [.tmp 4] b88 (entry (.pr (.val .yn) (.pr (.val .yf) .un)) (a0,(a1,())))=f88 N a0 a1:=by kernel_rfl
theorem k88 (N:Nat):z04 Go.Proofs.Try.prog 88 (c88 N):=
 z1w (fn:=Go.Proofs.Try.f88) (body:=b88) (c:=x88 N) Go.Proofs.Try.func88 (by kernel_rfl) (by kernel_rfl) ⟨ttL_ok,z0o,z0q,z0r,z0p,z0e⟩ mixed (by kernel_rfl) (zL (by kernel_rfl)) (by kernel_rfl) (by decide)
  (z0a (by kernel_rfl:z00 b88=[z02 2 (z00 b88)]) (.cons (l88_2 N) .nil)) fun d=>e88 N d.1 d.2.1
def f64 (N:Nat) (a0:List Yd) (a1:Yd):Option (Bool):=
 (f88 N a0 a1).bind fun r=>
 some (decide (0≤r))
def c64 (N:Nat):Callee:=.pure (.pr (.val .yn) (.pr (.val .yf) .un)) [.bool] fun d=>f64 N d.1 d.2.1
def lp64 (N:Nat):Nat->Option z0n:=fun r=>none
def x64 (N:Nat):Ctx:=(mkX N 9 [(88,[c88 N])] [] [] ⟨[4],[]⟩ (fun _=>none) (lp64 N))
noncomputable def b64:Code:=((Go.Proofs.Try.f64).body).getD .skip
theorem e64 (N:Nat) (a0:List Yd) (a1:Yd):z1u (x64 N) [.bool] [.tmp 4] b64 (entry (.pr (.val .yn) (.pr (.val .yf) .un)) (a0,(a1,())))=f64 N a0 a1:=by kernel_rfl
theorem k64 (N:Nat):z04 Go.Proofs.Try.prog 64 (c64 N):=
 z1w (fn:=Go.Proofs.Try.f64) (body:=b64) (c:=x64 N) Go.Proofs.Try.func64 (by kernel_rfl) (by kernel_rfl) ⟨ttL_ok,z0o,z0q,z0r,z0p,z03 (z01 (k88 N)) (z0e)⟩ mixed (by kernel_rfl) (zL (by kernel_rfl)) (by kernel_rfl) (by decide)
  (z0a (by kernel_rfl:z00 b64=[]) .nil) fun d=>e64 N d.1 d.2.1
def zqw {R:Type} (N:Nat) (t6_2:Int) (t24_1:Int) (t25_1:Int) (t42:Int) (o1_2:List Int) (o2:Ye) (kb:Int×Yw->Option R) (kx4:Yw->Option R):Int×Yw->Option R:=
 fun (t43,o0_2)=>
  cond (decide (t43 < t42))
   (chk (inb o1_2 t43) <|
   (idx o1_2 t43).bind fun x_4=>
   chk (inb o0_2 t6_2) <|
   (idx o0_2 t6_2).bind fun x_5=>
   (idx o0_2 t6_2).bind fun x_6=>
   (f64 N o0_2 (x_4,((z0k (x_6.2.1-1)),()))).bind fun r_2=>
   cond (!r_2)
    (chk (decide ((Nat.succ (List.length o0_2))≤z3k)) <|
    kb ((z0k (t43+1)),(o0_2++((x_4,((z0k (x_6.2.1-1)),())) :: ([]:List Yd)))))
    (kb ((z0k (t43+1)),o0_2)))
   (kx4 o0_2)
def zy2 {R:Type} (N:Nat) (t6_1:Int) (t24:Int) (o1_1:Ye) (kb:Int×Yw->Option R) (kx2:Yw->Option R):Int×Yw->Option R:=
 fun (t25,o0_1)=>
  cond (decide (t25 < t24))
   (chk (inb o0_1 t6_1) <|
   (idx o0_1 t6_1).bind fun x=>
   (idx o0_1 t6_1).bind fun x_1=>
   cond (decide (x_1.2.1=0))
    (kb ((z0k (t25+1)),o0_1))
    (chk (inb o0_1 t6_1) <|
    (idx o0_1 t6_1).bind fun x_2=>
    (idx o0_1 t6_1).bind fun x_3=>
    (f41 N o1_1 x_3.1 t25).bind fun r_1=>
    iter (fun w=>zqw N t6_1 t24 t25 (len r_1) r_1 o1_1 w
     (fun o0_3=>
      kb ((z0k (t25+1)),o0_3))) N (0,o0_1)))
   (kx2 o0_1)
def zy3 {R:Type} (N:Nat) (o1:Ye) (kb:Int×Yw->Option R) (kx0:Yw->Option R):Int×Yw->Option R:=
 fun (t6,o0)=>
  cond (decide (t6 < (len o0)))
   (iter (fun w=>zy2 N t6 (len o1.2.1) o1 w
    (fun o0_4=>
     kb ((z0k (t6+1)),o0_4))) N (0,o0))
   (kx0 o0)
def f25 (N:Nat) (a0:Ye) (a1:Int):Option Yw:=
 (f39 N a0).bind fun r=>
 iter (fun w=>zy3 N a0 w
  (fun o0_5=>
   some o0_5)) N (0,((r,(a1,())) :: ([]:List Yd)))
def c25 (N:Nat):Callee:=.pure (.pr (.val .yg) (.pr (.val .ya) .un)) [(.sl true .yf)] fun d=>f25 N d.1 d.2.1
def F25_10:SForm:=⟨[(43,(.val .ya)),(5,(.ref 0)),(6,(.val .ya)),(41,(.ref 1)),(2,(.bptr 2 [])),(24,(.val .ya)),(25,(.val .ya)),(42,(.val .ya))],[.row .yf,.row .ya,.cell (.val .yg)]⟩
def G25_10 (N:Nat):(R:Type)->F25_10.den->(AExit->St->Option R)->Option R:=fun R d k=>iter (fun kb=>zqw N d.1.2.2.1 d.1.2.2.2.2.2.1 d.1.2.2.2.2.2.2.1 d.1.2.2.2.2.2.2.2.1 d.2.2.1 d.2.2.2.1 kb
  (fun y3=>k (.exit 4) (St.of [(5,(.ref 0 [] 0)),(6,(.data .ya d.1.2.2.1)),(2,(.bptr 1 [])),(24,(.data .ya d.1.2.2.2.2.2.1)),(25,(.data .ya d.1.2.2.2.2.2.2.1))] [.row .yf y3 0,.cell (.data .yg d.2.2.2.1)]))) N (d.1.1,d.2.1)
def F25_6:SForm:=⟨[(25,(.val .ya)),(5,(.ref 0)),(6,(.val .ya)),(2,(.bptr 1 [])),(24,(.val .ya))],[.row .yf,.cell (.val .yg)]⟩
def G25_6 (N:Nat):(R:Type)->F25_6.den->(AExit->St->Option R)->Option R:=fun R d k=>iter (fun kb=>zy2 N d.1.2.2.1 d.1.2.2.2.2.1 d.2.2.1 kb
  (fun y1=>k (.exit 2) (St.of [(5,(.ref 0 [] 0)),(2,(.bptr 1 [])),(6,(.data .ya d.1.2.2.1))] [.row .yf y1 0,.cell (.data .yg d.2.2.1)]))) N (d.1.1,d.2.1)
def F25_3:SForm:=⟨[(5,(.ref 0)),(6,(.val .ya)),(2,(.bptr 1 []))],[.row .yf,.cell (.val .yg)]⟩
def G25_3 (N:Nat):(R:Type)->F25_3.den->(AExit->St->Option R)->Option R:=fun R d k=>iter (fun kb=>zy3 N d.2.2.1 kb
  (fun y0=>k (.exit 0) (St.of [(5,(.ref 0 [] 0))] [.row .yf y0 0]))) N (d.1.2.1,d.2.1)
def lp25 (N:Nat):Nat->Option z0n:=fun r=>cond (Nat.beq r 10) (some fun R sl os k=>F25_10.take sl os fun d=>G25_10 N R d k) (cond (Nat.beq r 6) (some fun R sl os k=>F25_6.take sl os fun d=>G25_6 N R d k) (cond (Nat.beq r 3) (some fun R sl os k=>F25_3.take sl os fun d=>G25_3 N R d k) (none)))
def x25 (N:Nat):Ctx:=(mkX N 66 [(39,[c39 N]),(41,[c41 N]),(64,[c64 N])] [(3,⟨[5,6,2],[]⟩),(6,⟨[25,5,6,2,24],[]⟩),(10,⟨[43,5,6,41,2,24,25,42],[]⟩)] [(3,[(0,⟨[5],[]⟩)]),(6,[(2,⟨[5,2,6],[]⟩)]),(10,[(4,⟨[5,6,2,24,25],[]⟩)])] ⟨[4],[]⟩ (fun _=>none) (lp25 N))
noncomputable def b25:Code:=((Go.Proofs.Try.f25).body).getD .skip
theorem s25_10 (N:Nat) {R:Type} (k:AExit->St->Option R) (t6_2:Int) (t24_1:Int) (t25_1:Int) (t42:Int) (o1_2:List Int) (o2:Ye) (kb:List Yl->List Obj->Option R) (x:Int×Yw):z0v (x25 N) (z02 10 (z00 b25)) (St.of [(43,(.data .ya x.1)),(5,(.ref 0 [] 0)),(6,(.data .ya t6_2)),(41,(.ref 1 [] 0)),(2,(.bptr 2 [])),(24,(.data .ya t24_1)),(25,(.data .ya t25_1)),(42,(.data .ya t42))] [.row .yf x.2 0,.row .ya o1_2 0,.cell (.data .yg o2)]) (z1j (x25 N) 10 ⟨[43,5,6,41,2,24,25,42],[]⟩ kb k)=zqw N t6_2 t24_1 t25_1 t42 o1_2 o2 (fun y=>kb [(43,(.data .ya y.1)),(5,(.ref 0 [] 0)),(6,(.data .ya t6_2)),(41,(.ref 1 [] 0)),(2,(.bptr 2 [])),(24,(.data .ya t24_1)),(25,(.data .ya t25_1)),(42,(.data .ya t42))] [.row .yf y.2 0,.row .ya o1_2 0,.cell (.data .yg o2)])
  (fun y3=>k (.exit 4) (St.of [(5,(.ref 0 [] 0)),(6,(.data .ya t6_2)),(2,(.bptr 1 [])),(24,(.data .ya t24_1)),(25,(.data .ya t25_1))] [.row .yf y3 0,.cell (.data .yg o2)])) x:=by kernel_rfl
theorem l25_10 (N:Nat):z0l (x25 N) (z02 10 (z00 b25)):=
 z0h (G25_10 N) (by kernel_rfl) (by kernel_rfl) (by kernel_rfl) fun R k d=>
  z0g (st:=fun (x:Int×Yw)=>([(43,(.data .ya x.1)),(5,(.ref 0 [] 0)),(6,(.data .ya d.1.2.2.1)),(41,(.ref 1 [] 0)),(2,(.bptr 2 [])),(24,(.data .ya d.1.2.2.2.2.2.1)),(25,(.data .ya d.1.2.2.2.2.2.2.1)),(42,(.data .ya d.1.2.2.2.2.2.2.2.1))],[.row .yf x.2 0,.row .ya d.2.2.1 0,.cell (.data .yg d.2.2.2.1)])) (s25_10 N k d.1.2.2.1 d.1.2.2.2.2.2.1 d.1.2.2.2.2.2.2.1 d.1.2.2.2.2.2.2.2.1 d.2.2.1 d.2.2.2.1) N (d.1.1,d.2.1)
theorem s25_6 (N:Nat) {R:Type} (k:AExit->St->Option R) (t6_1:Int) (t24:Int) (o1_1:Ye) (kb:List Yl->List Obj->Option R) (x:Int×Yw):z0v (x25 N) (z02 6 (z00 b25)) (St.of [(25,(.data .ya x.1)),(5,(.ref 0 [] 0)),(6,(.data .ya t6_1)),(2,(.bptr 1 [])),(24,(.data .ya t24))] [.row .yf x.2 0,.cell (.data .yg o1_1)]) (z1j (x25 N) 6 ⟨[25,5,6,2,24],[]⟩ kb k)=zy2 N t6_1 t24 o1_1 (fun y=>kb [(25,(.data .ya y.1)),(5,(.ref 0 [] 0)),(6,(.data .ya t6_1)),(2,(.bptr 1 [])),(24,(.data .ya t24))] [.row .yf y.2 0,.cell (.data .yg o1_1)])
  (fun y1=>k (.exit 2) (St.of [(5,(.ref 0 [] 0)),(2,(.bptr 1 [])),(6,(.data .ya t6_1))] [.row .yf y1 0,.cell (.data .yg o1_1)])) x:=by kernel_rfl
theorem l25_6 (N:Nat):z0l (x25 N) (z02 6 (z00 b25)):=
 z0h (G25_6 N) (by kernel_rfl) (by kernel_rfl) (by kernel_rfl) fun R k d=>
  z0g (st:=fun (x:Int×Yw)=>([(25,(.data .ya x.1)),(5,(.ref 0 [] 0)),(6,(.data .ya d.1.2.2.1)),(2,(.bptr 1 [])),(24,(.data .ya d.1.2.2.2.2.1))],[.row .yf x.2 0,.cell (.data .yg d.2.2.1)])) (s25_6 N k d.1.2.2.1 d.1.2.2.2.2.1 d.2.2.1) N (d.1.1,d.2.1)
theorem s25_3 (N:Nat) {R:Type} (k:AExit->St->Option R) (o1:Ye) (kb:List Yl->List Obj->Option R) (x:Int×Yw):z0v (x25 N) (z02 3 (z00 b25)) (St.of [(5,(.ref 0 [] 0)),(6,(.data .ya x.1)),(2,(.bptr 1 []))] [.row .yf x.2 0,.cell (.data .yg o1)]) (z1j (x25 N) 3 ⟨[5,6,2],[]⟩ kb k)=zy3 N o1 (fun y=>kb [(5,(.ref 0 [] 0)),(6,(.data .ya y.1)),(2,(.bptr 1 []))] [.row .yf y.2 0,.cell (.data .yg o1)])
  (fun y0=>k (.exit 0) (St.of [(5,(.ref 0 [] 0))] [.row .yf y0 0])) x:=by kernel_rfl
theorem l25_3 (N:Nat):z0l (x25 N) (z02 3 (z00 b25)):=
 z0h (G25_3 N) (by kernel_rfl) (by kernel_rfl) (by kernel_rfl) fun R k d=>
  z0g (st:=fun (x:Int×Yw)=>([(5,(.ref 0 [] 0)),(6,(.data .ya x.1)),(2,(.bptr 1 []))],[.row .yf x.2 0,.cell (.data .yg d.2.2.1)])) (s25_3 N k d.2.2.1) N (d.1.2.1,d.2.1)
theorem e25 (N:Nat) (a0:Ye) (a1:Int):z1u (x25 N) [(.sl true .yf)] [.tmp 4] b25 (entry (.pr (.val .yg) (.pr (.val .ya) .un)) (a0,(a1,())))=f25 N a0 a1:=by kernel_rfl
theorem k25 (N:Nat):z04 Go.Proofs.Try.prog 25 (c25 N):=
 z1w (fn:=Go.Proofs.Try.f25) (body:=b25) (c:=x25 N) Go.Proofs.Try.func25 (by kernel_rfl) (by kernel_rfl) ⟨ttL_ok,z0o,z0q,z0r,z0p,z03 (z01 (k39 N)) (z03 (z01 (k41 N)) (z03 (z01 (k64 N)) (z0e)))⟩ mixed (by kernel_rfl) (zL (by kernel_rfl)) (by kernel_rfl) (by decide)
  (z0a (by kernel_rfl:z00 b25=[z02 3 (z00 b25),z02 6 (z00 b25),z02 10 (z00 b25)]) (.cons (l25_3 N) (.cons (l25_6 N) (.cons (l25_10 N) .nil)))) fun d=>e25 N d.1 d.2.1
def f7 (N:Nat) (a0:Ye) (a1:List Ya) (a2:Int):Option (Bool):=
 (f11 N).bind fun r=>
 cond (!r)
  (some false)
  ((f12 N a0 a1 8 4).bind fun r_1=>
  (cond (!r_1)
    (some true)
    ((f15 N a0 a1 a2).bind fun r_2=>
    some (!r_2))).bind fun b=>
  cond b
   (some true)
   ((f20 N a0 a1 a2).bind fun r_3=>
   cond (decide (r_3.2.2.2=4))
    ((f25 N a0 a2).bind fun r_4=>
    some (decide (4096 < (len r_4))))
    ((cond (!(decide (r_3.2.2.2=0)))
      (some true)
      ((f16 N a0 r_3.2.1).bind fun r_5=>
      some (!r_5))).bind fun b_1=>
    cond b_1
     (some false)
     ((f17 N a0 r_3.2.1).bind fun r_6=>
     (cond (decide (r_6.2≤a2))
       ((f18 N a0 a1 r_6.1).bind fun r_7=>
       some (decide (r_7=r_3.1)))
       (some false)).bind fun b_2=>
     (cond b_2
       ((f13 N a0 a1 a2 r_3.2.2.1 r_3.1).bind fun r_8=>
       some (decide (r_8=0)))
       (some false)).bind fun b_3=>
     (cond b_3
       ((f13 N a0 a1 a2 r_3.2.2.1 (z0k (r_3.1-1))).bind fun r_9=>
       some (decide (r_9=13)))
       (some false)).bind fun b_4=>
     some b_4))))
def c7 (N:Nat):Callee:=.pure (.pr (.val .yg) (.pr (.val .yc) (.pr (.val .ya) .un))) [.bool] fun d=>f7 N d.1 d.2.1 d.2.2.1
def lp7 (N:Nat):Nat->Option z0n:=fun r=>none
def x7 (N:Nat):Ctx:=(mkX N 86 [(11,[c11 N]),(12,[c12 N]),(15,[c15 N]),(20,[c20 N]),(25,[c25 N]),(16,[c16 N]),(17,[c17 N]),(18,[c18 N]),(13,[c13 N])] [] [] ⟨[6],[]⟩ (fun _=>none) (lp7 N))
noncomputable def b7:Code:=((Go.Proofs.Try.f7).body).getD .skip
theorem e7 (N:Nat) (a0:Ye) (a1:List Ya) (a2:Int):z1u (x7 N) [.bool] [.tmp 6] b7 (entry (.pr (.val .yg) (.pr (.val .yc) (.pr (.val .ya) .un))) (a0,(a1,(a2,()))))=f7 N a0 a1 a2:=by kernel_rfl
theorem k7 (N:Nat):z04 Go.Proofs.Try.prog 7 (c7 N):=
 z1w (fn:=Go.Proofs.Try.f7) (body:=b7) (c:=x7 N) Go.Proofs.Try.func7 (by kernel_rfl) (by kernel_rfl) ⟨ttL_ok,z0o,z0q,z0r,z0p,z03 (z01 (k11 N)) (z03 (z01 (k12 N)) (z03 (z01 (k15 N)) (z03 (z01 (k20 N)) (z03 (z01 (k25 N)) (z03 (z01 (k16 N)) (z03 (z01 (k17 N)) (z03 (z01 (k18 N)) (z03 (z01 (k13 N)) (z0e)))))))))⟩ mixed (by kernel_rfl) (zL (by kernel_rfl)) (by kernel_rfl) (by decide)
  (z0a (by kernel_rfl:z00 b7=[]) .nil) fun d=>e7 N d.1 d.2.1 d.2.2.1
end
end Go.Kz
