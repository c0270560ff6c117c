/-
  The functions of the program as plain functions on lists and numbers, and the proofs that the program computes them. Printed by a program.
-/
import Derived.Test.YtnjfafnflbackaaKzP43c
set_option linter.unusedSimpArgs false
set_option maxRecDepth 100000
set_option linter.unusedVariables false
namespace Go.Kz
open Go.Proofs
noncomputable section
def zso {R:Type} (N:Nat) (t5_1:Int) (t0_1:List Int) (t4_1:Int) (o0_1:List Int) (kb:Int×Int->Option R) (kx2:Int->Option R):Int×Int->Option R:=
 fun (t7,t6)=>
  cond (decide (t7 < t5_1))
   ((idx t0_1 t7).bind fun x=>
   (idx t0_1 t5_1).bind fun x_1=>
   cond (decide (x=x_1))
    (chk (inb o0_1 t7) <|
    (idx o0_1 t7).bind fun x_2=>
    kb ((z0l (t7+1)),x_2))
    (kb ((z0l (t7+1)),t6)))
   (kx2 t6)
def zsp {R:Type} (N:Nat) (t0:List Int) (kb:Int×Int×List Int->Option R) (kx0:Ya->Option R):Int×Int×List Int->Option R:=
 fun (t5,t4,o0)=>
  cond (decide (t5 < (len t0)))
   (iter (fun w=>zso N t5 t0 t4 o0 w
    (fun t6_1=>
     cond (decide (t6_1=t4))
      (chk (decide ((Nat.succ (List.length o0))≤z3i)) <|
      kb ((z0l (t5+1)),(z0l (t4+1)),(o0++(t6_1 :: ([]:List Int)))))
      (chk (decide ((Nat.succ (List.length o0))≤z3i)) <|
      kb ((z0l (t5+1)),t4,(o0++(t6_1 :: ([]:List Int))))))) N (0,t4))
   (kx0 o0)
def f47 (N:Nat) (a0:List Int):Option Ya:=
 iter (fun w=>zsp N a0 w
  (fun o0_2=>
   some o0_2)) N (0,0,([]:List Int))
def c47 (N:Nat):Callee:=.pure (.pr (.val .yb) .un) [.yj] fun d=>f47 N d.1
def F47_8:SForm:=⟨[(7,(.val .ya)),(3,(.ref 0)),(5,(.val .ya)),(0,(.val .yb)),(6,(.val .ya)),(4,(.val .ya))],[.row .ya]⟩
def G47_8 (N:Nat):(R:Type)->F47_8.den->(AExit->St->Option R)->Option R:=fun R d k=>iter (fun kb=>zso N d.1.2.2.1 d.1.2.2.2.1 d.1.2.2.2.2.2.1 d.2.1 kb
  (fun y2=>k (.exit 2) (St.of [(0,(.data .yb d.1.2.2.2.1)),(5,(.data .ya d.1.2.2.1)),(6,(.data .ya y2)),(3,(.ref 0 [] 0)),(4,(.data .ya d.1.2.2.2.2.2.1))] [.row .ya d.2.1 0]))) N (d.1.1,d.1.2.2.2.2.1)
def F47_4:SForm:=⟨[(3,(.ref 0)),(5,(.val .ya)),(0,(.val .yb)),(4,(.val .ya))],[.row .ya]⟩
def G47_4 (N:Nat):(R:Type)->F47_4.den->(AExit->St->Option R)->Option R:=fun R d k=>iter (fun kb=>zsp N d.1.2.2.1 kb
  (fun y0=>k (.exit 0) (St.of [(3,(.ref 0 [] 0))] [.row .ya y0 0]))) N (d.1.2.1,d.1.2.2.2.1,d.2.1)
def lp47 (N:Nat):Nat->Option z0p:=fun r=>cond (Nat.beq r 8) (some fun R sl os k=>F47_8.take sl os fun d=>G47_8 N R d k) (cond (Nat.beq r 4) (some fun R sl os k=>F47_4.take sl os fun d=>G47_4 N R d k) (none))
def x47 (N:Nat):Ctx:=(mkX N 43 [] [(4,⟨[3,5,0,4],[(3,none,.row .ya)]⟩),(8,⟨[7,3,5,0,6,4],[]⟩)] [(4,[(0,⟨[3],[]⟩)]),(8,[(2,⟨[0,5,6,3,4],[]⟩)])] ⟨[2],[]⟩ (fun _=>none) (lp47 N))
noncomputable def b47:Code:=((Go.Proofs.Try.f47).body).getD .skip
theorem s47_8 (N:Nat) {R:Type} (k:AExit->St->Option R) (t5_1:Int) (t0_1:List Int) (t4_1:Int) (o0_1:List Int) (kb:List Yl->List Obj->Option R) (x:Int×Int):z10 (x47 N) (z02 8 (z00 b47)) (St.of [(7,(.data .ya x.1)),(3,(.ref 0 [] 0)),(5,(.data .ya t5_1)),(0,(.data .yb t0_1)),(6,(.data .ya x.2)),(4,(.data .ya t4_1))] [.row .ya o0_1 0]) (z1u (x47 N) 8 ⟨[7,3,5,0,6,4],[]⟩ kb k)=zso N t5_1 t0_1 t4_1 o0_1 (fun y=>kb [(7,(.data .ya y.1)),(3,(.ref 0 [] 0)),(5,(.data .ya t5_1)),(0,(.data .yb t0_1)),(6,(.data .ya y.2)),(4,(.data .ya t4_1))] [.row .ya o0_1 0])
  (fun y2=>k (.exit 2) (St.of [(0,(.data .yb t0_1)),(5,(.data .ya t5_1)),(6,(.data .ya y2)),(3,(.ref 0 [] 0)),(4,(.data .ya t4_1))] [.row .ya o0_1 0])) x:=by kernel_rfl
theorem l47_8 (N:Nat):z0n (x47 N) (z02 8 (z00 b47)):=
 z0j (G47_8 N) (by kernel_rfl) (by kernel_rfl) (by kernel_rfl) fun R k d=>
  z0i (st:=fun (x:Int×Int)=>([(7,(.data .ya x.1)),(3,(.ref 0 [] 0)),(5,(.data .ya d.1.2.2.1)),(0,(.data .yb d.1.2.2.2.1)),(6,(.data .ya x.2)),(4,(.data .ya d.1.2.2.2.2.2.1))],[.row .ya d.2.1 0])) (s47_8 N k d.1.2.2.1 d.1.2.2.2.1 d.1.2.2.2.2.2.1 d.2.1) N (d.1.1,d.1.2.2.2.2.1)
theorem s47_4 (N:Nat) {R:Type} (k:AExit->St->Option R) (t0:List Int) (kb:List Yl->List Obj->Option R) (x:Int×Int×List Int):z10 (x47 N) (z02 4 (z00 b47)) (St.of [(3,(.ref 0 [] 0)),(5,(.data .ya x.1)),(0,(.data .yb t0)),(4,(.data .ya x.2.1))] [.row .ya x.2.2 0]) (z1u (x47 N) 4 ⟨[3,5,0,4],[(3,none,.row .ya)]⟩ kb k)=zsp N t0 (fun y=>kb [(3,(.ref 0 [] 0)),(5,(.data .ya y.1)),(0,(.data .yb t0)),(4,(.data .ya y.2.1))] [.row .ya y.2.2 0])
  (fun y0=>k (.exit 0) (St.of [(3,(.ref 0 [] 0))] [.row .ya y0 0])) x:=by kernel_rfl
theorem l47_4 (N:Nat):z0n (x47 N) (z02 4 (z00 b47)):=
 z0j (G47_4 N) (by kernel_rfl) (by kernel_rfl) (by kernel_rfl) fun R k d=>
  z0i (st:=fun (x:Int×Int×List Int)=>([(3,(.ref 0 [] 0)),(5,(.data .ya x.1)),(0,(.data .yb d.1.2.2.1)),(4,(.data .ya x.2.1))],[.row .ya x.2.2 0])) (s47_4 N k d.1.2.2.1) N (d.1.2.1,d.1.2.2.2.1,d.2.1)
theorem e47 (N:Nat) (a0:List Int):z29 (x47 N) [.yj] [.tmp 2] b47 (entry (.pr (.val .yb) .un) (a0,()))=f47 N a0:=by kernel_rfl
theorem k47 (N:Nat):z04 Go.Proofs.Try.prog 47 (c47 N):=
 z2b (fn:=Go.Proofs.Try.f47) (body:=b47) (c:=x47 N) Go.Proofs.Try.func47 (by kernel_rfl) (by kernel_rfl) ⟨ttL_ok,z0q,z0t,z0u,z0r,z0f⟩ mixed (by kernel_rfl) (zL (by kernel_rfl)) (by kernel_rfl) (by decide)
  (z0a (by kernel_rfl:z00 b47=[z02 4 (z00 b47),z02 8 (z00 b47)]) (.cons (l47_4 N) (.cons (l47_8 N) .nil))) fun d=>e47 N d.1
def zo5 {R:Type} (N:Nat) (t8:Int) (t2_1:List Int) (t1_1:List Ya) (t12_1:Int) (t13_1:Int) (t7_1:Int) (t17:Int) (o0_1:Ye) (kb:Int×Int->Option R) (kx2:Int->Option R):Int×Int->Option R:=
 fun (t18,t9)=>
  cond (decide (t18 < t17))
   ((idx t2_1 t18).bind fun x=>
   cond (decide (x=t8))
    (cond (decide (t18 < 0))
     (none)
     (kb ((z0l (t18+1)),(z0l (t9+(z0l (1*(2 ^ (min (Int.toNat t18) 64)))))))))
    (kb ((z0l (t18+1)),t9)))
   (kx2 t9)
def zo6 {R:Type} (N:Nat) (t2:List Int) (t1:List Ya) (t12:Int) (o0:Ye) (kb:Int×Int->Option R) (kx0:Int->Option R):Int×Int->Option R:=
 fun (t13,t7)=>
  cond (decide (t13 < t12))
   (iter (fun w=>zo5 N t13 t2 t1 t12 t13 t7 o0.1 o0 w
    (fun t9_1=>
     (f40 N o0 t1 t9_1).bind fun r_1=>
     kb ((z0l (t13+1)),(z0l (t7+r_1))))) N (0,0))
   (kx0 t7)
def f18 (N:Nat) (a0:Ye) (a1:List Ya) (a2:List Int):Option (Int):=
 (f44 N a2).bind fun r=>
 iter (fun w=>zo6 N a2 a1 r a0 w
  (fun t7_2=>
   some t7_2)) N (0,0)
def c18 (N:Nat):Callee:=.pure (.pr (.val .yg) (.pr (.val .yc) (.pr (.val .yb) .un))) [.ya] fun d=>f18 N d.1 d.2.1 d.2.2.1
def F18_7:SForm:=⟨[(18,(.val .ya)),(9,(.val .ya)),(8,(.val .ya)),(2,(.val .yb)),(1,(.val .yc)),(3,(.bptr 0 [])),(12,(.val .ya)),(13,(.val .ya)),(7,(.val .ya)),(17,(.val .ya))],[.cell (.val .yg)]⟩
def G18_7 (N:Nat):(R:Type)->F18_7.den->(AExit->St->Option R)->Option R:=fun R d k=>iter (fun kb=>zo5 N d.1.2.2.1 d.1.2.2.2.1 d.1.2.2.2.2.1 d.1.2.2.2.2.2.2.1 d.1.2.2.2.2.2.2.2.1 d.1.2.2.2.2.2.2.2.2.1 d.1.2.2.2.2.2.2.2.2.2.1 d.2.1 kb
  (fun y4=>k (.exit 2) (St.of [(2,(.data .yb d.1.2.2.2.1)),(1,(.data .yc d.1.2.2.2.2.1)),(3,(.bptr 0 [])),(12,(.data .ya d.1.2.2.2.2.2.2.1)),(13,(.data .ya d.1.2.2.2.2.2.2.2.1)),(9,(.data .ya y4)),(7,(.data .ya d.1.2.2.2.2.2.2.2.2.1))] [.cell (.data .yg d.2.1)]))) N (d.1.1,d.1.2.1)
def F18_3:SForm:=⟨[(2,(.val .yb)),(13,(.val .ya)),(1,(.val .yc)),(3,(.bptr 0 [])),(7,(.val .ya)),(12,(.val .ya))],[.cell (.val .yg)]⟩
def G18_3 (N:Nat):(R:Type)->F18_3.den->(AExit->St->Option R)->Option R:=fun R d k=>iter (fun kb=>zo6 N d.1.1 d.1.2.2.1 d.1.2.2.2.2.2.1 d.2.1 kb
  (fun y0=>k (.exit 0) (St.of [(7,(.data .ya y0))] []))) N (d.1.2.1,d.1.2.2.2.2.1)
def lp18 (N:Nat):Nat->Option z0p:=fun r=>cond (Nat.beq r 7) (some fun R sl os k=>F18_7.take sl os fun d=>G18_7 N R d k) (cond (Nat.beq r 3) (some fun R sl os k=>F18_3.take sl os fun d=>G18_3 N R d k) (none))
def x18 (N:Nat):Ctx:=(mkX N 40 [(44,[c44 N]),(40,[c40 N])] [(3,⟨[2,13,1,3,7,12],[]⟩),(7,⟨[18,9,8,2,1,3,12,13,7,17],[]⟩)] [(3,[(0,⟨[7],[]⟩)]),(7,[(2,⟨[2,1,3,12,13,9,7],[]⟩)])] ⟨[6],[]⟩ (fun _=>none) (lp18 N))
noncomputable def b18:Code:=((Go.Proofs.Try.f18).body).getD .skip
theorem s18_7 (N:Nat) {R:Type} (k:AExit->St->Option R) (t8:Int) (t2_1:List Int) (t1_1:List Ya) (t12_1:Int) (t13_1:Int) (t7_1:Int) (t17:Int) (o0_1:Ye) (kb:List Yl->List Obj->Option R) (x:Int×Int):z10 (x18 N) (z02 7 (z00 b18)) (St.of [(18,(.data .ya x.1)),(9,(.data .ya x.2)),(8,(.data .ya t8)),(2,(.data .yb t2_1)),(1,(.data .yc t1_1)),(3,(.bptr 0 [])),(12,(.data .ya t12_1)),(13,(.data .ya t13_1)),(7,(.data .ya t7_1)),(17,(.data .ya t17))] [.cell (.data .yg o0_1)]) (z1u (x18 N) 7 ⟨[18,9,8,2,1,3,12,13,7,17],[]⟩ kb k)=zo5 N t8 t2_1 t1_1 t12_1 t13_1 t7_1 t17 o0_1 (fun y=>kb [(18,(.data .ya y.1)),(9,(.data .ya y.2)),(8,(.data .ya t8)),(2,(.data .yb t2_1)),(1,(.data .yc t1_1)),(3,(.bptr 0 [])),(12,(.data .ya t12_1)),(13,(.data .ya t13_1)),(7,(.data .ya t7_1)),(17,(.data .ya t17))] [.cell (.data .yg o0_1)])
  (fun y4=>k (.exit 2) (St.of [(2,(.data .yb t2_1)),(1,(.data .yc t1_1)),(3,(.bptr 0 [])),(12,(.data .ya t12_1)),(13,(.data .ya t13_1)),(9,(.data .ya y4)),(7,(.data .ya t7_1))] [.cell (.data .yg o0_1)])) x:=by kernel_rfl
theorem l18_7 (N:Nat):z0n (x18 N) (z02 7 (z00 b18)):=
 z0j (G18_7 N) (by kernel_rfl) (by kernel_rfl) (by kernel_rfl) fun R k d=>
  z0i (st:=fun (x:Int×Int)=>([(18,(.data .ya x.1)),(9,(.data .ya x.2)),(8,(.data .ya d.1.2.2.1)),(2,(.data .yb d.1.2.2.2.1)),(1,(.data .yc d.1.2.2.2.2.1)),(3,(.bptr 0 [])),(12,(.data .ya d.1.2.2.2.2.2.2.1)),(13,(.data .ya d.1.2.2.2.2.2.2.2.1)),(7,(.data .ya d.1.2.2.2.2.2.2.2.2.1)),(17,(.data .ya d.1.2.2.2.2.2.2.2.2.2.1))],[.cell (.data .yg d.2.1)])) (s18_7 N k d.1.2.2.1 d.1.2.2.2.1 d.1.2.2.2.2.1 d.1.2.2.2.2.2.2.1 d.1.2.2.2.2.2.2.2.1 d.1.2.2.2.2.2.2.2.2.1 d.1.2.2.2.2.2.2.2.2.2.1 d.2.1) N (d.1.1,d.1.2.1)
theorem s18_3 (N:Nat) {R:Type} (k:AExit->St->Option R) (t2:List Int) (t1:List Ya) (t12:Int) (o0:Ye) (kb:List Yl->List Obj->Option R) (x:Int×Int):z10 (x18 N) (z02 3 (z00 b18)) (St.of [(2,(.data .yb t2)),(13,(.data .ya x.1)),(1,(.data .yc t1)),(3,(.bptr 0 [])),(7,(.data .ya x.2)),(12,(.data .ya t12))] [.cell (.data .yg o0)]) (z1u (x18 N) 3 ⟨[2,13,1,3,7,12],[]⟩ kb k)=zo6 N t2 t1 t12 o0 (fun y=>kb [(2,(.data .yb t2)),(13,(.data .ya y.1)),(1,(.data .yc t1)),(3,(.bptr 0 [])),(7,(.data .ya y.2)),(12,(.data .ya t12))] [.cell (.data .yg o0)])
  (fun y0=>k (.exit 0) (St.of [(7,(.data .ya y0))] [])) x:=by kernel_rfl
theorem l18_3 (N:Nat):z0n (x18 N) (z02 3 (z00 b18)):=
 z0j (G18_3 N) (by kernel_rfl) (by kernel_rfl) (by kernel_rfl) fun R k d=>
  z0i (st:=fun (x:Int×Int)=>([(2,(.data .yb d.1.1)),(13,(.data .ya x.1)),(1,(.data .yc d.1.2.2.1)),(3,(.bptr 0 [])),(7,(.data .ya x.2)),(12,(.data .ya d.1.2.2.2.2.2.1))],[.cell (.data .yg d.2.1)])) (s18_3 N k d.1.1 d.1.2.2.1 d.1.2.2.2.2.2.1 d.2.1) N (d.1.2.1,d.1.2.2.2.2.1)
theorem e18 (N:Nat) (a0:Ye) (a1:List Ya) (a2:List Int):z29 (x18 N) [.ya] [.tmp 6] b18 (entry (.pr (.val .yg) (.pr (.val .yc) (.pr (.val .yb) .un))) (a0,(a1,(a2,()))))=f18 N a0 a1 a2:=by kernel_rfl
theorem k18 (N:Nat):z04 Go.Proofs.Try.prog 18 (c18 N):=
 z2b (fn:=Go.Proofs.Try.f18) (body:=b18) (c:=x18 N) Go.Proofs.Try.func18 (by kernel_rfl) (by kernel_rfl) ⟨ttL_ok,z0q,z0t,z0u,z0r,z03 (z01 (k44 N)) (z03 (z01 (k40 N)) (z0f))⟩ mixed (by kernel_rfl) (zL (by kernel_rfl)) (by kernel_rfl) (by decide)
  (z0a (by kernel_rfl:z00 b18=[z02 3 (z00 b18),z02 7 (z00 b18)]) (.cons (l18_3 N) (.cons (l18_7 N) .nil))) fun d=>e18 N d.1 d.2.1 d.2.2.1
def f99 (N:Nat) (a0:List Int) (a1:List Int):Option (Int):=
 (f67 N a0).bind fun r=>
 (cond (!r)
   (some true)
   ((f67 N a1).bind fun r_1=>
   some (!r_1))).bind fun b=>
 cond b
  (some 1)
  (cond (!(decide ((len a0)=(len a1))))
   (some 2)
   (some 0))
def c99 (N:Nat):Callee:=.pure (.pr (.val .yb) (.pr (.val .yb) .un)) [.ya] fun d=>f99 N d.1 d.2.1
def lp99 (N:Nat):Nat->Option z0p:=fun r=>none
def x99 (N:Nat):Ctx:=(mkX N 18 [(67,[c67 N])] [] [] ⟨[4],[]⟩ (fun _=>none) (lp99 N))
noncomputable def b99:Code:=((Go.Proofs.Try.f99).body).getD .skip
theorem e99 (N:Nat) (a0:List Int) (a1:List Int):z29 (x99 N) [.ya] [.tmp 4] b99 (entry (.pr (.val .yb) (.pr (.val .yb) .un)) (a0,(a1,())))=f99 N a0 a1:=by kernel_rfl
theorem k99 (N:Nat):z04 Go.Proofs.Try.prog 99 (c99 N):=
 z2b (fn:=Go.Proofs.Try.f99) (body:=b99) (c:=x99 N) Go.Proofs.Try.func99 (by kernel_rfl) (by kernel_rfl) ⟨ttL_ok,z0q,z0t,z0u,z0r,z03 (z01 (k67 N)) (z0f)⟩ mixed (by kernel_rfl) (zL (by kernel_rfl)) (by kernel_rfl) (by decide)
  (z0a (by kernel_rfl:z00 b99=[]) .nil) fun d=>e99 N d.1 d.2.1
def zl6 {R:Type} (N:Nat) (t8_1:Int) (t1_1:List Int) (t0_1:List Int) (kb:Int×List Int->Option R) (kx2:Ya->Option R):Int×List Int->Option R:=
 fun (t9,o0_1)=>
  cond (decide (0≤t9))
   ((idx t0_1 t9).bind fun x_2=>
   (idx t0_1 t8_1).bind fun x_3=>
   (cond (decide (x_2=x_3))
     ((idx t1_1 t9).bind fun x_4=>
     (idx t1_1 t8_1).bind fun x_5=>
     some (decide (x_4=x_5)))
     (some false)).bind fun b=>
   cond b
    (chk (inb o0_1 t8_1) <|
    (idx o0_1 t8_1).bind fun x_6=>
    (idx o0_1 t8_1).bind fun x_7=>
    kb ((z0l (t9-1)),(zek o0_1 t8_1 t9)))
    (kb ((z0l (t9-1)),o0_1)))
   (kx2 o0_1)
def zng {R:Type} (N:Nat) (t1:List Int) (t0:List Int) (kb:Int×List Int->Option R) (kx0:Ya->Option R):Int×List Int->Option R:=
 fun (t8,o0)=>
  cond (decide (t8 < (len t0)))
   (chk (inb o0 t8) <|
   (idx o0 t8).bind fun x=>
   (idx o0 t8).bind fun x_1=>
   iter (fun w=>zl6 N t8 t1 t0 w
    (fun o0_2=>
     kb ((z0l (t8+1)),o0_2))) N ((z0l (t8-1)),(zek o0 t8 t8)))
   (kx0 o0)
def f84 (N:Nat) (a0:List Int) (a1:List Int):Option (List Int×Int):=
 (f99 N a0 a1).bind fun r=>
 cond (!(decide (r=0)))
  (some (([]:List Int),r))
  (chk (((decide (0≤(len a0))) && (decide ((len a0)≤(len a0)))) && (decide ((len a0)≤((z3i:Nat):Int)))) <|
  iter (fun w=>zng N a1 a0 w
   (fun o0_3=>
    (f47 N o0_3).bind fun r_1=>
    some (r_1,0))) N (0,(List.replicate (Int.toNat (len a0)) 0:List Int)))
def c84 (N:Nat):Callee:=.pure (.pr (.val .yb) (.pr (.val .yb) .un)) [.yj,.ya] fun d=>f84 N d.1 d.2.1
def F84_10:SForm:=⟨[(9,(.val .ya)),(8,(.val .ya)),(7,(.ref 0)),(1,(.val .yb)),(0,(.val .yb))],[.row .ya]⟩
def G84_10 (N:Nat):(R:Type)->F84_10.den->(AExit->St->Option R)->Option R:=fun R d k=>iter (fun kb=>zl6 N d.1.2.1 d.1.2.2.2.1 d.1.2.2.2.2.1 kb
  (fun y3=>k (.exit 2) (St.of [(7,(.ref 0 [] 0)),(1,(.data .yb d.1.2.2.2.1)),(0,(.data .yb d.1.2.2.2.2.1)),(8,(.data .ya d.1.2.1))] [.row .ya y3 0]))) N (d.1.1,d.2.1)
def F84_6:SForm:=⟨[(8,(.val .ya)),(7,(.ref 0)),(1,(.val .yb)),(0,(.val .yb))],[.row .ya]⟩
def G84_6 (N:Nat):(R:Type)->F84_6.den->(AExit->St->Option R)->Option R:=fun R d k=>iter (fun kb=>zng N d.1.2.2.1 d.1.2.2.2.1 kb
  (fun y0=>k (.exit 0) (St.of [(7,(.ref 0 [] 0))] [.row .ya y0 0]))) N (d.1.1,d.2.1)
def lp84 (N:Nat):Nat->Option z0p:=fun r=>cond (Nat.beq r 10) (some fun R sl os k=>F84_10.take sl os fun d=>G84_10 N R d k) (cond (Nat.beq r 6) (some fun R sl os k=>F84_6.take sl os fun d=>G84_6 N R d k) (none))
def x84 (N:Nat):Ctx:=(mkX N 61 [(99,[c99 N]),(47,[c47 N])] [(6,⟨[8,7,1,0],[]⟩),(10,⟨[9,8,7,1,0],[]⟩)] [(6,[(0,⟨[7],[]⟩)]),(10,[(2,⟨[7,1,0,8],[]⟩)])] ⟨[4,5],[]⟩ (fun _=>none) (lp84 N))
noncomputable def b84:Code:=((Go.Proofs.Try.f84).body).getD .skip
theorem s84_10 (N:Nat) {R:Type} (k:AExit->St->Option R) (t8_1:Int) (t1_1:List Int) (t0_1:List Int) (kb:List Yl->List Obj->Option R) (x:Int×List Int):z10 (x84 N) (z02 10 (z00 b84)) (St.of [(9,(.data .ya x.1)),(8,(.data .ya t8_1)),(7,(.ref 0 [] 0)),(1,(.data .yb t1_1)),(0,(.data .yb t0_1))] [.row .ya x.2 0]) (z1u (x84 N) 10 ⟨[9,8,7,1,0],[]⟩ kb k)=zl6 N t8_1 t1_1 t0_1 (fun y=>kb [(9,(.data .ya y.1)),(8,(.data .ya t8_1)),(7,(.ref 0 [] 0)),(1,(.data .yb t1_1)),(0,(.data .yb t0_1))] [.row .ya y.2 0])
  (fun y3=>k (.exit 2) (St.of [(7,(.ref 0 [] 0)),(1,(.data .yb t1_1)),(0,(.data .yb t0_1)),(8,(.data .ya t8_1))] [.row .ya y3 0])) x:=by kernel_rfl
theorem l84_10 (N:Nat):z0n (x84 N) (z02 10 (z00 b84)):=
 z0j (G84_10 N) (by kernel_rfl) (by kernel_rfl) (by kernel_rfl) fun R k d=>
  z0i (st:=fun (x:Int×List Int)=>([(9,(.data .ya x.1)),(8,(.data .ya d.1.2.1)),(7,(.ref 0 [] 0)),(1,(.data .yb d.1.2.2.2.1)),(0,(.data .yb d.1.2.2.2.2.1))],[.row .ya x.2 0])) (s84_10 N k d.1.2.1 d.1.2.2.2.1 d.1.2.2.2.2.1) N (d.1.1,d.2.1)
theorem s84_6 (N:Nat) {R:Type} (k:AExit->St->Option R) (t1:List Int) (t0:List Int) (kb:List Yl->List Obj->Option R) (x:Int×List Int):z10 (x84 N) (z02 6 (z00 b84)) (St.of [(8,(.data .ya x.1)),(7,(.ref 0 [] 0)),(1,(.data .yb t1)),(0,(.data .yb t0))] [.row .ya x.2 0]) (z1u (x84 N) 6 ⟨[8,7,1,0],[]⟩ kb k)=zng N t1 t0 (fun y=>kb [(8,(.data .ya y.1)),(7,(.ref 0 [] 0)),(1,(.data .yb t1)),(0,(.data .yb t0))] [.row .ya y.2 0])
  (fun y0=>k (.exit 0) (St.of [(7,(.ref 0 [] 0))] [.row .ya y0 0])) x:=by kernel_rfl
theorem l84_6 (N:Nat):z0n (x84 N) (z02 6 (z00 b84)):=
 z0j (G84_6 N) (by kernel_rfl) (by kernel_rfl) (by kernel_rfl) fun R k d=>
  z0i (st:=fun (x:Int×List Int)=>([(8,(.data .ya x.1)),(7,(.ref 0 [] 0)),(1,(.data .yb d.1.2.2.1)),(0,(.data .yb d.1.2.2.2.1))],[.row .ya x.2 0])) (s84_6 N k d.1.2.2.1 d.1.2.2.2.1) N (d.1.1,d.2.1)
theorem e84 (N:Nat) (a0:List Int) (a1:List Int):z29 (x84 N) [.yj,.ya] [.tmp 4,.tmp 5] b84 (entry (.pr (.val .yb) (.pr (.val .yb) .un)) (a0,(a1,())))=f84 N a0 a1:=by kernel_rfl
theorem k84 (N:Nat):z04 Go.Proofs.Try.prog 84 (c84 N):=
 z2b (fn:=Go.Proofs.Try.f84) (body:=b84) (c:=x84 N) Go.Proofs.Try.func84 (by kernel_rfl) (by kernel_rfl) ⟨ttL_ok,z0q,z0t,z0u,z0r,z03 (z01 (k99 N)) (z03 (z01 (k47 N)) (z0f))⟩ mixed (by kernel_rfl) (zL (by kernel_rfl)) (by kernel_rfl) (by decide)
  (z0a (by kernel_rfl:z00 b84=[z02 6 (z00 b84),z02 10 (z00 b84)]) (.cons (l84_6 N) (.cons (l84_10 N) .nil))) fun d=>e84 N d.1 d.2.1
def znl {R:Type} (N:Nat) (t11:List Int) (t12:Int) (o0:Ye) (kb:Int×List Int->Option R) (kx0:Ya->Option R):Int×List Int->Option R:=
 fun (t13,o1)=>
  cond (decide (t13 < t12))
   ((idx t11 t13).bind fun x=>
   (idx o0.2.1 x).bind fun x_1=>
   (f84 N o1 x_1).bind fun r=>
   kb ((z0l (t13+1)),r.1))
   (kx0 o1)
def f57 (N:Nat) (a0:Ye) (a1:List Int):Option Ya:=
 chk (((decide (0≤a0.1)) && (decide (a0.1≤a0.1))) && (decide (a0.1≤((z3i:Nat):Int)))) <|
 iter (fun w=>znl N a1 (len a1) a0 w
  (fun o0_1=>
   some o0_1)) N (0,(List.replicate (Int.toNat a0.1) 0:List Int))
def c57 (N:Nat):Callee:=.pure (.pr (.val .yg) (.pr (.val .yb) .un)) [.yj] fun d=>f57 N d.1 d.2.1
def F57_3:SForm:=⟨[(13,(.val .ya)),(2,(.bptr 0 [])),(5,(.ref 1)),(11,(.val .yb)),(12,(.val .ya))],[.cell (.val .yg),.row .ya]⟩
def G57_3 (N:Nat):(R:Type)->F57_3.den->(AExit->St->Option R)->Option R:=fun R d k=>iter (fun kb=>znl N d.1.2.2.2.1 d.1.2.2.2.2.1 d.2.1 kb
  (fun y0=>k (.exit 0) (St.of [(5,(.ref 0 [] 0))] [.row .ya y0 0]))) N (d.1.1,d.2.2.1)
def lp57 (N:Nat):Nat->Option z0p:=fun r=>cond (Nat.beq r 3) (some fun R sl os k=>F57_3.take sl os fun d=>G57_3 N R d k) (none)
def x57 (N:Nat):Ctx:=(mkX N 29 [(84,[c84 N])] [(3,⟨[13,2,5,11,12],[]⟩)] [(3,[(0,⟨[5],[]⟩)])] ⟨[4],[]⟩ (fun _=>none) (lp57 N))
noncomputable def b57:Code:=((Go.Proofs.Try.f57).body).getD .skip
theorem s57_3 (N:Nat) {R:Type} (k:AExit->St->Option R) (t11:List Int) (t12:Int) (o0:Ye) (kb:List Yl->List Obj->Option R) (x:Int×List Int):z10 (x57 N) (z02 3 (z00 b57)) (St.of [(13,(.data .ya x.1)),(2,(.bptr 0 [])),(5,(.ref 1 [] 0)),(11,(.data .yb t11)),(12,(.data .ya t12))] [.cell (.data .yg o0),.row .ya x.2 0]) (z1u (x57 N) 3 ⟨[13,2,5,11,12],[]⟩ kb k)=znl N t11 t12 o0 (fun y=>kb [(13,(.data .ya y.1)),(2,(.bptr 0 [])),(5,(.ref 1 [] 0)),(11,(.data .yb t11)),(12,(.data .ya t12))] [.cell (.data .yg o0),.row .ya y.2 0])
  (fun y0=>k (.exit 0) (St.of [(5,(.ref 0 [] 0))] [.row .ya y0 0])) x:=by kernel_rfl
theorem l57_3 (N:Nat):z0n (x57 N) (z02 3 (z00 b57)):=
 z0j (G57_3 N) (by kernel_rfl) (by kernel_rfl) (by kernel_rfl) fun R k d=>
  z0i (st:=fun (x:Int×List Int)=>([(13,(.data .ya x.1)),(2,(.bptr 0 [])),(5,(.ref 1 [] 0)),(11,(.data .yb d.1.2.2.2.1)),(12,(.data .ya d.1.2.2.2.2.1))],[.cell (.data .yg d.2.1),.row .ya x.2 0])) (s57_3 N k d.1.2.2.2.1 d.1.2.2.2.2.1 d.2.1) N (d.1.1,d.2.2.1)
theorem e57 (N:Nat) (a0:Ye) (a1:List Int):z29 (x57 N) [.yj] [.tmp 4] b57 (entry (.pr (.val .yg) (.pr (.val .yb) .un)) (a0,(a1,())))=f57 N a0 a1:=by kernel_rfl
theorem k57 (N:Nat):z04 Go.Proofs.Try.prog 57 (c57 N):=
 z2b (fn:=Go.Proofs.Try.f57) (body:=b57) (c:=x57 N) Go.Proofs.Try.func57 (by kernel_rfl) (by kernel_rfl) ⟨ttL_ok,z0q,z0t,z0u,z0r,z03 (z01 (k84 N)) (z0f)⟩ mixed (by kernel_rfl) (zL (by kernel_rfl)) (by kernel_rfl) (by decide)
  (z0a (by kernel_rfl:z00 b57=[z02 3 (z00 b57)]) (.cons (l57_3 N) .nil)) fun d=>e57 N d.1 d.2.1
def zo3 {R:Type} (N:Nat) (t8:Int) (o1:Ye) (kb:Int×List Int->Option R) (kx0:Ya->Option R):Int×List Int->Option R:=
 fun (t9,o0)=>
  cond (decide (t9 < t8))
   (chk (decide ((Nat.succ (List.length o0))≤z3i)) <|
   kb ((z0l (t9+1)),(o0++(t9 :: ([]:List Int)))))
   (kx0 o0)
def f21 (N:Nat) (a0:Ye):Option Ya:=
 iter (fun w=>zo3 N (len a0.2.1) a0 w
  (fun o0_1=>
   (f57 N a0 o0_1).bind fun r=>
   some r)) N (0,([]:List Int))
def c21 (N:Nat):Callee:=.pure (.pr (.val .yg) .un) [.yj] fun d=>f21 N d.1
def F21_3:SForm:=⟨[(9,(.val .ya)),(3,(.ref 0)),(1,(.bptr 1 [])),(8,(.val .ya))],[.row .ya,.cell (.val .yg)]⟩
def G21_3 (N:Nat):(R:Type)->F21_3.den->(AExit->St->Option R)->Option R:=fun R d k=>iter (fun kb=>zo3 N d.1.2.2.2.1 d.2.2.1 kb
  (fun y0=>k (.exit 0) (St.of [(3,(.ref 0 [] 0)),(1,(.bptr 1 []))] [.row .ya y0 0,.cell (.data .yg d.2.2.1)]))) N (d.1.1,d.2.1)
def lp21 (N:Nat):Nat->Option z0p:=fun r=>cond (Nat.beq r 3) (some fun R sl os k=>F21_3.take sl os fun d=>G21_3 N R d k) (none)
def x21 (N:Nat):Ctx:=(mkX N 20 [(57,[c57 N])] [(3,⟨[9,3,1,8],[]⟩)] [(3,[(0,⟨[3,1],[]⟩)])] ⟨[2],[]⟩ (fun _=>none) (lp21 N))
noncomputable def b21:Code:=((Go.Proofs.Try.f21).body).getD .skip
theorem s21_3 (N:Nat) {R:Type} (k:AExit->St->Option R) (t8:Int) (o1:Ye) (kb:List Yl->List Obj->Option R) (x:Int×List Int):z10 (x21 N) (z02 3 (z00 b21)) (St.of [(9,(.data .ya x.1)),(3,(.ref 0 [] 0)),(1,(.bptr 1 [])),(8,(.data .ya t8))] [.row .ya x.2 0,.cell (.data .yg o1)]) (z1u (x21 N) 3 ⟨[9,3,1,8],[]⟩ kb k)=zo3 N t8 o1 (fun y=>kb [(9,(.data .ya y.1)),(3,(.ref 0 [] 0)),(1,(.bptr 1 [])),(8,(.data .ya t8))] [.row .ya y.2 0,.cell (.data .yg o1)])
  (fun y0=>k (.exit 0) (St.of [(3,(.ref 0 [] 0)),(1,(.bptr 1 []))] [.row .ya y0 0,.cell (.data .yg o1)])) x:=by kernel_rfl
theorem l21_3 (N:Nat):z0n (x21 N) (z02 3 (z00 b21)):=
 z0j (G21_3 N) (by kernel_rfl) (by kernel_rfl) (by kernel_rfl) fun R k d=>
  z0i (st:=fun (x:Int×List Int)=>([(9,(.data .ya x.1)),(3,(.ref 0 [] 0)),(1,(.bptr 1 [])),(8,(.data .ya d.1.2.2.2.1))],[.row .ya x.2 0,.cell (.data .yg d.2.2.1)])) (s21_3 N k d.1.2.2.2.1 d.2.2.1) N (d.1.1,d.2.1)
theorem e21 (N:Nat) (a0:Ye):z29 (x21 N) [.yj] [.tmp 2] b21 (entry (.pr (.val .yg) .un) (a0,()))=f21 N a0:=by kernel_rfl
theorem k21 (N:Nat):z04 Go.Proofs.Try.prog 21 (c21 N):=
 z2b (fn:=Go.Proofs.Try.f21) (body:=b21) (c:=x21 N) Go.Proofs.Try.func21 (by kernel_rfl) (by kernel_rfl) ⟨ttL_ok,z0q,z0t,z0u,z0r,z03 (z01 (k57 N)) (z0f)⟩ mixed (by kernel_rfl) (zL (by kernel_rfl)) (by kernel_rfl) (by decide)
  (z0a (by kernel_rfl:z00 b21=[z02 3 (z00 b21)]) (.cons (l21_3 N) .nil)) fun d=>e21 N d.1
def f5 (N:Nat) (a0:Ye) (a1:List Ya) (a2:Int):Option (Bool):=
 (f11 N).bind fun r=>
 cond (!r)
  (some false)
  ((f12 N a0 a1 6 4).bind fun r_1=>
  (cond (!r_1)
    (some true)
    ((f15 N a0 a1 a2).bind fun r_2=>
    some (!r_2))).bind fun b=>
  (cond b
    (some true)
    (some (decide (a2=8)))).bind fun b_1=>
  cond b_1
   (some true)
   ((f19 N a0 a1 a2).bind fun r_3=>
   (f20 N a0 a1 a2).bind fun r_4=>
   (f20 N a0 a1 (z0l (a2+1))).bind fun r_5=>
   (cond (!(decide (r_3.2.2=0)))
     (some true)
     (some (!(decide (r_4.2.2.2=0))))).bind fun b_2=>
   (cond b_2
     (some true)
     (some (!(decide (r_5.2.2.2=0))))).bind fun b_3=>
   cond b_3
    (some false)
    ((cond (decide (r_3.1≤r_4.1))
      ((cond (decide (1 < a2))
        (some true)
        (some (decide (r_3.1=r_4.1)))).bind fun b_4=>
      some b_4)
      (some false)).bind fun b_5=>
    (cond b_5
      (some (decide (r_4.1≤r_5.1)))
      (some false)).bind fun b_6=>
    (cond b_6
      ((f21 N a0).bind fun r_6=>
      (f18 N a0 a1 r_6).bind fun r_7=>
      some (decide (r_5.1≤r_7)))
      (some false)).bind fun b_7=>
    (cond b_7
      ((cond (decide (a2 < (len a0.2.1)))
        (some true)
        (some (decide (r_4.1=r_5.1)))).bind fun b_8=>
      some b_8)
      (some false)).bind fun b_9=>
    some b_9)))
def c5 (N:Nat):Callee:=.pure (.pr (.val .yg) (.pr (.val .yc) (.pr (.val .ya) .un))) [.bool] fun d=>f5 N d.1 d.2.1 d.2.2.1
def lp5 (N:Nat):Nat->Option z0p:=fun r=>none
def x5 (N:Nat):Ctx:=(mkX N 110 [(11,[c11 N]),(12,[c12 N]),(15,[c15 N]),(19,[c19 N]),(20,[c20 N]),(21,[c21 N]),(18,[c18 N])] [] [] ⟨[6],[]⟩ (fun _=>none) (lp5 N))
noncomputable def b5:Code:=((Go.Proofs.Try.f5).body).getD .skip
theorem e5 (N:Nat) (a0:Ye) (a1:List Ya) (a2:Int):z29 (x5 N) [.bool] [.tmp 6] b5 (entry (.pr (.val .yg) (.pr (.val .yc) (.pr (.val .ya) .un))) (a0,(a1,(a2,()))))=f5 N a0 a1 a2:=by kernel_rfl
theorem k5 (N:Nat):z04 Go.Proofs.Try.prog 5 (c5 N):=
 z2b (fn:=Go.Proofs.Try.f5) (body:=b5) (c:=x5 N) Go.Proofs.Try.func5 (by kernel_rfl) (by kernel_rfl) ⟨ttL_ok,z0q,z0t,z0u,z0r,z03 (z01 (k11 N)) (z03 (z01 (k12 N)) (z03 (z01 (k15 N)) (z03 (z01 (k19 N)) (z03 (z01 (k20 N)) (z03 (z01 (k21 N)) (z03 (z01 (k18 N)) (z0f)))))))⟩ mixed (by kernel_rfl) (zL (by kernel_rfl)) (by kernel_rfl) (by decide)
  (z0a (by kernel_rfl:z00 b5=[]) .nil) fun d=>e5 N d.1 d.2.1 d.2.2.1
end
end Go.Kz
