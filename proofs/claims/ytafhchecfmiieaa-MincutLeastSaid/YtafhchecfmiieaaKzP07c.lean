/-
  The functions of the program as plain functions on lists and numbers, and the proofs that the program computes them. Printed by a program.
-/
import Derived.Test.YtafhchecfmiieaaKzP07b
set_option linter.unusedSimpArgs false
set_option maxRecDepth 100000
set_option linter.unusedVariables false
namespace Go.Kz
open Go.Proofs
noncomputable section
def f33_L3 {R:Type} (N:Nat) (t1:List Int) (t3:List Int) (t2:List Int) (o1:(Int×(List (List Int)×Unit))) (kb:Int×List Int→Option R) (kx0:(List Int)→Option R):Int×List Int→Option R:=
 fun (t10,o0)=>
  cond (decide (t10 < (len t1)))
   ((idx t1 t10).bind fun x=>
   (f40 N t3 x).bind fun r=>
   (cond (!r)
     ((idx t1 t10).bind fun x_1=>
     (f40 N o0 x_1).bind fun r_1=>
     some (!r_1))
     (some false)).bind fun b=>
   cond b
    ((idx t1 t10).bind fun x_2=>
    chk (decide ((Nat.succ (List.length o0))≤room)) <|
    kb ((wi64 (t10+1)),(o0++(x_2 :: ([]:List Int)))))
    (kb ((wi64 (t10+1)),o0)))
   (kx0 o0)
def f33_L13 {R:Type} (N:Nat) (t3_2:List Int) (t11_1:Int) (t2_2:List Int) (o1_2:(Int×(List (List Int)×Unit))) (kb:Int×List Int→Option R) (kx4:(List Int)→Option R):Int×List Int→Option R:=
 fun (t12,o0_3)=>
  cond (decide (t12 < (len o1_2.2.1)))
   ((idx o1_2.2.1 t12).bind fun x_4=>
   (idx x_4 1).bind fun x_5=>
   (idx o1_2.2.1 t12).bind fun x_6=>
   (idx x_6 0).bind fun x_7=>
   chk (inb o0_3 t11_1) <|
   (idx o0_3 t11_1).bind fun x_8=>
   (cond (decide (x_7=x_8))
     ((f40 N t3_2 x_5).bind fun r_3=>
     some (!r_3))
     (some false)).bind fun b_1=>
   (cond b_1
     ((f40 N o0_3 x_5).bind fun r_4=>
     some (!r_4))
     (some false)).bind fun b_2=>
   cond b_2
    (chk (decide ((Nat.succ (List.length o0_3))≤room)) <|
    kb ((wi64 (t12+1)),(o0_3++(x_5 :: ([]:List Int)))))
    (kb ((wi64 (t12+1)),o0_3)))
   (kx4 o0_3)
def f33_L8 {R:Type} (N:Nat) (t3_1:List Int) (t2_1:List Int) (o1_1:(Int×(List (List Int)×Unit))) (kb:Int×List Int→Option R) (kret:Bool→Option R) (kx2:Unit→Option R):Int×List Int→Option R:=
 fun (t11,o0_2)=>
  cond (decide (t11 < (len o0_2)))
   (chk (inb o0_2 t11) <|
   (idx o0_2 t11).bind fun x_3=>
   (f40 N t2_1 x_3).bind fun r_2=>
   cond r_2
    (kret true)
    (iter (fun w=>f33_L13 N t3_1 t11 t2_1 o1_1 w
     (fun o0_4=>
      kb ((wi64 (t11+1)),o0_4))) N (0,o0_2)))
   (kx2 ())
def f33 (N:Nat) (a0:(Int×(List (List Int)×Unit))) (a1:List Int) (a2:List Int) (a3:List Int):Option (Bool):=
 iter (fun w=>f33_L3 N a1 a3 a2 a0 w
  (fun o0_1=>
   iter (fun w=>f33_L8 N a3 a2 a0 w
    (fun t8=>
     some t8)
    (fun (_:Unit)=>
     some false)) N (0,o0_1))) N (0,([]:List Int))
def c33 (N:Nat):Callee:=.pure (.pr (.val (.pair (.int .i64) (.pair (.sl false (.arr 2 (.int .i64))) .unit))) (.pr (.val (.sl false (.int .i64))) (.pr (.val (.sl false (.int .i64))) (.pr (.val (.sl false (.int .i64))) .un)))) [.bool] fun d=>f33 N d.1 d.2.1 d.2.2.1 d.2.2.2.1
def F33_3:SForm:=⟨[(10,(.val (.int .i64))),(1,(.val (.sl false (.int .i64)))),(9,(.ref 0)),(3,(.val (.sl false (.int .i64)))),(4,(.bptr 1 [])),(2,(.val (.sl false (.int .i64))))],[.row (.int .i64),.cell (.val (.pair (.int .i64) (.pair (.sl false (.arr 2 (.int .i64))) .unit)))]⟩
def G33_3 (N:Nat):(R:Type)→F33_3.den→(AExit→St→Option R)→Option R:=fun R d k=>iter (fun kb=>f33_L3 N d.1.2.1 d.1.2.2.2.1 d.1.2.2.2.2.2.1 d.2.2.1 kb
  (fun y2=>k (.exit 0) (St.of [(9,(.ref 0 [] 0)),(3,(.data (.sl false (.int .i64)) d.1.2.2.2.1)),(4,(.bptr 1 [])),(2,(.data (.sl false (.int .i64)) d.1.2.2.2.2.2.1))] [.row (.int .i64) y2 0,.cell (.data (.pair (.int .i64) (.pair (.sl false (.arr 2 (.int .i64))) .unit)) d.2.2.1)]))) N (d.1.1,d.2.1)
def F33_13:SForm:=⟨[(12,(.val (.int .i64))),(9,(.ref 0)),(3,(.val (.sl false (.int .i64)))),(11,(.val (.int .i64))),(4,(.bptr 1 [])),(2,(.val (.sl false (.int .i64))))],[.row (.int .i64),.cell (.val (.pair (.int .i64) (.pair (.sl false (.arr 2 (.int .i64))) .unit)))]⟩
def G33_13 (N:Nat):(R:Type)→F33_13.den→(AExit→St→Option R)→Option R:=fun R d k=>iter (fun kb=>f33_L13 N d.1.2.2.1 d.1.2.2.2.1 d.1.2.2.2.2.2.1 d.2.2.1 kb
  (fun y3=>k (.exit 4) (St.of [(9,(.ref 0 [] 0)),(3,(.data (.sl false (.int .i64)) d.1.2.2.1)),(4,(.bptr 1 [])),(2,(.data (.sl false (.int .i64)) d.1.2.2.2.2.2.1)),(11,(.data (.int .i64) d.1.2.2.2.1))] [.row (.int .i64) y3 0,.cell (.data (.pair (.int .i64) (.pair (.sl false (.arr 2 (.int .i64))) .unit)) d.2.2.1)]))) N (d.1.1,d.2.1)
def F33_8:SForm:=⟨[(9,(.ref 0)),(3,(.val (.sl false (.int .i64)))),(11,(.val (.int .i64))),(4,(.bptr 1 [])),(2,(.val (.sl false (.int .i64))))],[.row (.int .i64),.cell (.val (.pair (.int .i64) (.pair (.sl false (.arr 2 (.int .i64))) .unit)))]⟩
def G33_8 (N:Nat):(R:Type)→F33_8.den→(AExit→St→Option R)→Option R:=fun R d k=>iter (fun kb=>f33_L8 N d.1.2.1 d.1.2.2.2.2.1 d.2.2.1 kb
  (fun y0=>k .ret (St.of [(8,(.data .bool y0))] []))
  (fun _=>k (.exit 2) (St.of [] []))) N (d.1.2.2.1,d.2.1)
def lp33 (N:Nat):Nat→Option LoopFn:=fun r=>cond (Nat.beq r 3) (some fun R sl os k=>F33_3.take sl os fun d=>G33_3 N R d k) (cond (Nat.beq r 13) (some fun R sl os k=>F33_13.take sl os fun d=>G33_13 N R d k) (cond (Nat.beq r 8) (some fun R sl os k=>F33_8.take sl os fun d=>G33_8 N R d k) (none)))
def x33 (N:Nat):Ctx:={ fuel:=N,tt:=getL ttL,mt:=getL mtL,ntmps:=96,env:=fun f=>(getL [(40,[c40 N])] f).getD [],cut:=getL [(3,⟨[10,1,9,3,4,2],[]⟩),(8,⟨[9,3,11,4,2],[]⟩),(13,⟨[12,9,3,11,4,2],[]⟩)],exits:=fun r=>getL ((getL [(3,[(0,⟨[9,3,4,2],[]⟩)]),(8,[(2,⟨[],[]⟩)]),(13,[(4,⟨[9,3,4,2,11],[]⟩)])] r).getD []),res:=⟨[8],[]⟩,own:=fun _=>none,lp:=lp33 N,eqs:=fun T=>memN T eqL,ct:=fun T=>memN T ctL,ms:=getMs msL }
noncomputable def b33:Code:=((Go.Proofs.Try.f33).body).getD .skip
theorem s33_3 (N:Nat) {R:Type} (k:AExit→St→Option R) (t1:List Int) (t3:List Int) (t2:List Int) (o1:(Int×(List (List Int)×Unit))) (kb:List (Nat×AVal)→List Obj→Option R) (x:Int×List Int):codeK (x33 N) (loopAt 3 (loopsOf b33)) (St.of [(10,(.data (.int .i64) x.1)),(1,(.data (.sl false (.int .i64)) t1)),(9,(.ref 0 [] 0)),(3,(.data (.sl false (.int .i64)) t3)),(4,(.bptr 1 [])),(2,(.data (.sl false (.int .i64)) t2))] [.row (.int .i64) x.2 0,.cell (.data (.pair (.int .i64) (.pair (.sl false (.arr 2 (.int .i64))) .unit)) o1)]) (kLoop (x33 N) 3 ⟨[10,1,9,3,4,2],[]⟩ kb k)=f33_L3 N t1 t3 t2 o1 (fun y=>kb [(10,(.data (.int .i64) y.1)),(1,(.data (.sl false (.int .i64)) t1)),(9,(.ref 0 [] 0)),(3,(.data (.sl false (.int .i64)) t3)),(4,(.bptr 1 [])),(2,(.data (.sl false (.int .i64)) t2))] [.row (.int .i64) y.2 0,.cell (.data (.pair (.int .i64) (.pair (.sl false (.arr 2 (.int .i64))) .unit)) o1)])
  (fun y2=>k (.exit 0) (St.of [(9,(.ref 0 [] 0)),(3,(.data (.sl false (.int .i64)) t3)),(4,(.bptr 1 [])),(2,(.data (.sl false (.int .i64)) t2))] [.row (.int .i64) y2 0,.cell (.data (.pair (.int .i64) (.pair (.sl false (.arr 2 (.int .i64))) .unit)) o1)])) x:=by kernel_rfl
theorem l33_3 (N:Nat):LoopOK (x33 N) (loopAt 3 (loopsOf b33)):=
 loop_mk (G33_3 N) (by kernel_rfl) (by kernel_rfl) (by kernel_rfl) fun R k d=>
  loop_eq (st:=fun (x:Int×List Int)=>([(10,(.data (.int .i64) x.1)),(1,(.data (.sl false (.int .i64)) d.1.2.1)),(9,(.ref 0 [] 0)),(3,(.data (.sl false (.int .i64)) d.1.2.2.2.1)),(4,(.bptr 1 [])),(2,(.data (.sl false (.int .i64)) d.1.2.2.2.2.2.1))],[.row (.int .i64) x.2 0,.cell (.data (.pair (.int .i64) (.pair (.sl false (.arr 2 (.int .i64))) .unit)) d.2.2.1)])) (s33_3 N k d.1.2.1 d.1.2.2.2.1 d.1.2.2.2.2.2.1 d.2.2.1) N (d.1.1,d.2.1)
theorem s33_13 (N:Nat) {R:Type} (k:AExit→St→Option R) (t3_2:List Int) (t11_1:Int) (t2_2:List Int) (o1_2:(Int×(List (List Int)×Unit))) (kb:List (Nat×AVal)→List Obj→Option R) (x:Int×List Int):codeK (x33 N) (loopAt 13 (loopsOf b33)) (St.of [(12,(.data (.int .i64) x.1)),(9,(.ref 0 [] 0)),(3,(.data (.sl false (.int .i64)) t3_2)),(11,(.data (.int .i64) t11_1)),(4,(.bptr 1 [])),(2,(.data (.sl false (.int .i64)) t2_2))] [.row (.int .i64) x.2 0,.cell (.data (.pair (.int .i64) (.pair (.sl false (.arr 2 (.int .i64))) .unit)) o1_2)]) (kLoop (x33 N) 13 ⟨[12,9,3,11,4,2],[]⟩ kb k)=f33_L13 N t3_2 t11_1 t2_2 o1_2 (fun y=>kb [(12,(.data (.int .i64) y.1)),(9,(.ref 0 [] 0)),(3,(.data (.sl false (.int .i64)) t3_2)),(11,(.data (.int .i64) t11_1)),(4,(.bptr 1 [])),(2,(.data (.sl false (.int .i64)) t2_2))] [.row (.int .i64) y.2 0,.cell (.data (.pair (.int .i64) (.pair (.sl false (.arr 2 (.int .i64))) .unit)) o1_2)])
  (fun y3=>k (.exit 4) (St.of [(9,(.ref 0 [] 0)),(3,(.data (.sl false (.int .i64)) t3_2)),(4,(.bptr 1 [])),(2,(.data (.sl false (.int .i64)) t2_2)),(11,(.data (.int .i64) t11_1))] [.row (.int .i64) y3 0,.cell (.data (.pair (.int .i64) (.pair (.sl false (.arr 2 (.int .i64))) .unit)) o1_2)])) x:=by kernel_rfl
theorem l33_13 (N:Nat):LoopOK (x33 N) (loopAt 13 (loopsOf b33)):=
 loop_mk (G33_13 N) (by kernel_rfl) (by kernel_rfl) (by kernel_rfl) fun R k d=>
  loop_eq (st:=fun (x:Int×List Int)=>([(12,(.data (.int .i64) x.1)),(9,(.ref 0 [] 0)),(3,(.data (.sl false (.int .i64)) d.1.2.2.1)),(11,(.data (.int .i64) d.1.2.2.2.1)),(4,(.bptr 1 [])),(2,(.data (.sl false (.int .i64)) d.1.2.2.2.2.2.1))],[.row (.int .i64) x.2 0,.cell (.data (.pair (.int .i64) (.pair (.sl false (.arr 2 (.int .i64))) .unit)) d.2.2.1)])) (s33_13 N k d.1.2.2.1 d.1.2.2.2.1 d.1.2.2.2.2.2.1 d.2.2.1) N (d.1.1,d.2.1)
theorem s33_8 (N:Nat) {R:Type} (k:AExit→St→Option R) (t3_1:List Int) (t2_1:List Int) (o1_1:(Int×(List (List Int)×Unit))) (kb:List (Nat×AVal)→List Obj→Option R) (x:Int×List Int):codeK (x33 N) (loopAt 8 (loopsOf b33)) (St.of [(9,(.ref 0 [] 0)),(3,(.data (.sl false (.int .i64)) t3_1)),(11,(.data (.int .i64) x.1)),(4,(.bptr 1 [])),(2,(.data (.sl false (.int .i64)) t2_1))] [.row (.int .i64) x.2 0,.cell (.data (.pair (.int .i64) (.pair (.sl false (.arr 2 (.int .i64))) .unit)) o1_1)]) (kLoop (x33 N) 8 ⟨[9,3,11,4,2],[]⟩ kb k)=f33_L8 N t3_1 t2_1 o1_1 (fun y=>kb [(9,(.ref 0 [] 0)),(3,(.data (.sl false (.int .i64)) t3_1)),(11,(.data (.int .i64) y.1)),(4,(.bptr 1 [])),(2,(.data (.sl false (.int .i64)) t2_1))] [.row (.int .i64) y.2 0,.cell (.data (.pair (.int .i64) (.pair (.sl false (.arr 2 (.int .i64))) .unit)) o1_1)])
  (fun y0=>k .ret (St.of [(8,(.data .bool y0))] []))
  (fun _=>k (.exit 2) (St.of [] [])) x:=by kernel_rfl
theorem l33_8 (N:Nat):LoopOK (x33 N) (loopAt 8 (loopsOf b33)):=
 loop_mk (G33_8 N) (by kernel_rfl) (by kernel_rfl) (by kernel_rfl) fun R k d=>
  loop_eq (st:=fun (x:Int×List Int)=>([(9,(.ref 0 [] 0)),(3,(.data (.sl false (.int .i64)) d.1.2.1)),(11,(.data (.int .i64) x.1)),(4,(.bptr 1 [])),(2,(.data (.sl false (.int .i64)) d.1.2.2.2.2.1))],[.row (.int .i64) x.2 0,.cell (.data (.pair (.int .i64) (.pair (.sl false (.arr 2 (.int .i64))) .unit)) d.2.2.1)])) (s33_8 N k d.1.2.1 d.1.2.2.2.2.1 d.2.2.1) N (d.1.2.2.1,d.2.1)
theorem e33 (N:Nat) (a0:(Int×(List (List Int)×Unit))) (a1:List Int) (a2:List Int) (a3:List Int):bodyK (x33 N) [.bool] [.tmp 8] b33 (entry (.pr (.val (.pair (.int .i64) (.pair (.sl false (.arr 2 (.int .i64))) .unit))) (.pr (.val (.sl false (.int .i64))) (.pr (.val (.sl false (.int .i64))) (.pr (.val (.sl false (.int .i64))) .un)))) (a0,(a1,(a2,(a3,())))))=f33 N a0 a1 a2 a3:=by kernel_rfl
theorem k33 (N:Nat):CalleeOK Go.Proofs.Try.prog 33 (c33 N):=
 fn_ok (fn:=Go.Proofs.Try.f33) (body:=b33) (c:=x33 N) Go.Proofs.Try.func33 (by kernel_rfl) (by kernel_rfl) ⟨ttL_ok,mtL_ok,eqL_ok,ctL_ok,msL_ok,env_cons (forall_mem1 (k40 N)) (env_nil)⟩ mixed (by kernel_rfl) (Nat.le_of_ble_eq_true (by kernel_rfl)) (by kernel_rfl) (by decide)
  (loops_ok (by kernel_rfl:loopsOf b33=[loopAt 3 (loopsOf b33),loopAt 8 (loopsOf b33),loopAt 13 (loopsOf b33)]) (.cons (l33_3 N) (.cons (l33_8 N) (.cons (l33_13 N) .nil)))) fun d=>e33 N d.1 d.2.1 d.2.2.1 d.2.2.2.1
def f14 (N:Nat) (a0:(Int×(List (List Int)×Unit))) (a1:List Int) (a2:List Int) (a3:List Int):Option (Int):=
 (f17 N a0 a1 a2 a3).bind fun r=>
 cond (!(decide (r=0)))
  (some r)
  ((f34 N a1).bind fun r_1=>
  (f33 N a0 a2 a3 r_1).bind fun r_2=>
  cond r_2
   (some 11)
   (some 0))
def c14 (N:Nat):Callee:=.pure (.pr (.val (.pair (.int .i64) (.pair (.sl false (.arr 2 (.int .i64))) .unit))) (.pr (.val (.sl false (.int .i64))) (.pr (.val (.sl false (.int .i64))) (.pr (.val (.sl false (.int .i64))) .un)))) [(.int .i64)] fun d=>f14 N d.1 d.2.1 d.2.2.1 d.2.2.2.1
def lp14 (N:Nat):Nat→Option LoopFn:=fun r=>none
def x14 (N:Nat):Ctx:={ fuel:=N,tt:=getL ttL,mt:=getL mtL,ntmps:=24,env:=fun f=>(getL [(17,[c17 N]),(34,[c34 N]),(33,[c33 N])] f).getD [],cut:=getL [],exits:=fun r=>getL ((getL [] r).getD []),res:=⟨[8],[]⟩,own:=fun _=>none,lp:=lp14 N,eqs:=fun T=>memN T eqL,ct:=fun T=>memN T ctL,ms:=getMs msL }
noncomputable def b14:Code:=((Go.Proofs.Try.f14).body).getD .skip
theorem e14 (N:Nat) (a0:(Int×(List (List Int)×Unit))) (a1:List Int) (a2:List Int) (a3:List Int):bodyK (x14 N) [(.int .i64)] [.tmp 8] b14 (entry (.pr (.val (.pair (.int .i64) (.pair (.sl false (.arr 2 (.int .i64))) .unit))) (.pr (.val (.sl false (.int .i64))) (.pr (.val (.sl false (.int .i64))) (.pr (.val (.sl false (.int .i64))) .un)))) (a0,(a1,(a2,(a3,())))))=f14 N a0 a1 a2 a3:=by kernel_rfl
theorem k14 (N:Nat):CalleeOK Go.Proofs.Try.prog 14 (c14 N):=
 fn_ok (fn:=Go.Proofs.Try.f14) (body:=b14) (c:=x14 N) Go.Proofs.Try.func14 (by kernel_rfl) (by kernel_rfl) ⟨ttL_ok,mtL_ok,eqL_ok,ctL_ok,msL_ok,env_cons (forall_mem1 (k17 N)) (env_cons (forall_mem1 (k34 N)) (env_cons (forall_mem1 (k33 N)) (env_nil)))⟩ mixed (by kernel_rfl) (Nat.le_of_ble_eq_true (by kernel_rfl)) (by kernel_rfl) (by decide)
  (loops_ok (by kernel_rfl:loopsOf b14=[]) .nil) fun d=>e14 N d.1 d.2.1 d.2.2.1 d.2.2.2.1
def f15_L3 {R:Type} (N:Nat) (t1:List Int) (t0:List Int) (kb:Int×Int→Option R) (kret:Int→Bool→Option R) (kx0:Int→Option R):Int×Int→Option R:=
 fun (t7,t6)=>
  cond (decide (t7 < (len t1)))
   ((idx t1 t7).bind fun x=>
   (cond (decide (x < 0))
     (some true)
     ((idx t1 t7).bind fun x_1=>
     some (decide ((len t0)≤x_1)))).bind fun b=>
   (cond b
     (some true)
     ((cond (decide (0 < t7))
       ((idx t1 t7).bind fun x_2=>
       (idx t1 (wi64 (t7-1))).bind fun x_3=>
       some (decide (x_2≤x_3)))
       (some false)).bind fun b_1=>
     some b_1)).bind fun b_2=>
   (cond b_2
     (some true)
     ((idx t1 t7).bind fun x_4=>
     (idx t0 x_4).bind fun x_5=>
     some (decide (x_5 < 0)))).bind fun b_3=>
   cond b_3
    (kret 0 false)
    ((idx t1 t7).bind fun x_6=>
    (idx t0 x_6).bind fun x_7=>
    kb ((wi64 (t7+1)),(wi64 (t6+x_7)))))
   (kx0 t6)
def f15 (N:Nat) (a0:List Int) (a1:List Int):Option (Int×Bool):=
 iter (fun w=>f15_L3 N a1 a0 w
  (fun t4 t5=>
   some (t4,t5))
  (fun t6_1=>
   some (t6_1,true))) N (0,0)
def c15 (N:Nat):Callee:=.pure (.pr (.val (.sl false (.int .i64))) (.pr (.val (.sl false (.int .i64))) .un)) [(.int .i64),.bool] fun d=>f15 N d.1 d.2.1
def F15_3:SForm:=⟨[(7,(.val (.int .i64))),(1,(.val (.sl false (.int .i64)))),(0,(.val (.sl false (.int .i64)))),(6,(.val (.int .i64)))],[]⟩
def G15_3 (N:Nat):(R:Type)→F15_3.den→(AExit→St→Option R)→Option R:=fun R d k=>iter (fun kb=>f15_L3 N d.1.2.1 d.1.2.2.1 kb
  (fun y0 y1=>k .ret (St.of [(4,(.data (.int .i64) y0)),(5,(.data .bool y1))] []))
  (fun y0=>k (.exit 0) (St.of [(6,(.data (.int .i64) y0))] []))) N (d.1.1,d.1.2.2.2.1)
def lp15 (N:Nat):Nat→Option LoopFn:=fun r=>cond (Nat.beq r 3) (some fun R sl os k=>F15_3.take sl os fun d=>G15_3 N R d k) (none)
def x15 (N:Nat):Ctx:={ fuel:=N,tt:=getL ttL,mt:=getL mtL,ntmps:=64,env:=fun f=>(getL [] f).getD [],cut:=getL [(3,⟨[7,1,0,6],[]⟩)],exits:=fun r=>getL ((getL [(3,[(0,⟨[6],[]⟩)])] r).getD []),res:=⟨[4,5],[]⟩,own:=fun _=>none,lp:=lp15 N,eqs:=fun T=>memN T eqL,ct:=fun T=>memN T ctL,ms:=getMs msL }
noncomputable def b15:Code:=((Go.Proofs.Try.f15).body).getD .skip
theorem s15_3 (N:Nat) {R:Type} (k:AExit→St→Option R) (t1:List Int) (t0:List Int) (kb:List (Nat×AVal)→List Obj→Option R) (x:Int×Int):codeK (x15 N) (loopAt 3 (loopsOf b15)) (St.of [(7,(.data (.int .i64) x.1)),(1,(.data (.sl false (.int .i64)) t1)),(0,(.data (.sl false (.int .i64)) t0)),(6,(.data (.int .i64) x.2))] []) (kLoop (x15 N) 3 ⟨[7,1,0,6],[]⟩ kb k)=f15_L3 N t1 t0 (fun y=>kb [(7,(.data (.int .i64) y.1)),(1,(.data (.sl false (.int .i64)) t1)),(0,(.data (.sl false (.int .i64)) t0)),(6,(.data (.int .i64) y.2))] [])
  (fun y0 y1=>k .ret (St.of [(4,(.data (.int .i64) y0)),(5,(.data .bool y1))] []))
  (fun y0=>k (.exit 0) (St.of [(6,(.data (.int .i64) y0))] [])) x:=by kernel_rfl
theorem l15_3 (N:Nat):LoopOK (x15 N) (loopAt 3 (loopsOf b15)):=
 loop_mk (G15_3 N) (by kernel_rfl) (by kernel_rfl) (by kernel_rfl) fun R k d=>
  loop_eq (st:=fun (x:Int×Int)=>([(7,(.data (.int .i64) x.1)),(1,(.data (.sl false (.int .i64)) d.1.2.1)),(0,(.data (.sl false (.int .i64)) d.1.2.2.1)),(6,(.data (.int .i64) x.2))],[])) (s15_3 N k d.1.2.1 d.1.2.2.1) N (d.1.1,d.1.2.2.2.1)
theorem e15 (N:Nat) (a0:List Int) (a1:List Int):bodyK (x15 N) [(.int .i64),.bool] [.tmp 4,.tmp 5] b15 (entry (.pr (.val (.sl false (.int .i64))) (.pr (.val (.sl false (.int .i64))) .un)) (a0,(a1,())))=f15 N a0 a1:=by kernel_rfl
theorem k15 (N:Nat):CalleeOK Go.Proofs.Try.prog 15 (c15 N):=
 fn_ok (fn:=Go.Proofs.Try.f15) (body:=b15) (c:=x15 N) Go.Proofs.Try.func15 (by kernel_rfl) (by kernel_rfl) ⟨ttL_ok,mtL_ok,eqL_ok,ctL_ok,msL_ok,env_nil⟩ mixed (by kernel_rfl) (Nat.le_of_ble_eq_true (by kernel_rfl)) (by kernel_rfl) (by decide)
  (loops_ok (by kernel_rfl:loopsOf b15=[loopAt 3 (loopsOf b15)]) (.cons (l15_3 N) .nil)) fun d=>e15 N d.1 d.2.1
def f52_L2 {R:Type} (N:Nat) (t2:Int) (t1:Int) (o0:(Int×(List (List Int)×Unit))) (kb:Int→Option R) (kret:Bool→Option R) (kx0:Unit→Option R):Int→Option R:=
 fun t7=>
  cond (decide (t7 < (len o0.2.1)))
   ((idx o0.2.1 t7).bind fun x=>
   (idx x 0).bind fun x_1=>
   (cond (decide (x_1=t1))
     ((idx o0.2.1 t7).bind fun x_2=>
     (idx x_2 1).bind fun x_3=>
     some (decide (x_3=t2)))
     (some false)).bind fun b=>
   cond b
    (kret true)
    (kb (wi64 (t7+1))))
   (kx0 ())
def f52 (N:Nat) (a0:(Int×(List (List Int)×Unit))) (a1:Int) (a2:Int):Option (Bool):=
 iter (fun w=>f52_L2 N a2 a1 a0 w
  (fun t6=>
   some t6)
  (fun (_:Unit)=>
   some false)) N 0
def c52 (N:Nat):Callee:=.pure (.pr (.val (.pair (.int .i64) (.pair (.sl false (.arr 2 (.int .i64))) .unit))) (.pr (.val (.int .i64)) (.pr (.val (.int .i64)) .un))) [.bool] fun d=>f52 N d.1 d.2.1 d.2.2.1
def F52_2:SForm:=⟨[(7,(.val (.int .i64))),(2,(.val (.int .i64))),(3,(.bptr 0 [])),(1,(.val (.int .i64)))],[.cell (.val (.pair (.int .i64) (.pair (.sl false (.arr 2 (.int .i64))) .unit)))]⟩
def G52_2 (N:Nat):(R:Type)→F52_2.den→(AExit→St→Option R)→Option R:=fun R d k=>iter (fun kb=>f52_L2 N d.1.2.1 d.1.2.2.2.1 d.2.1 kb
  (fun y0=>k .ret (St.of [(6,(.data .bool y0))] []))
  (fun _=>k (.exit 0) (St.of [] []))) N d.1.1
def lp52 (N:Nat):Nat→Option LoopFn:=fun r=>cond (Nat.beq r 2) (some fun R sl os k=>F52_2.take sl os fun d=>G52_2 N R d k) (none)
def x52 (N:Nat):Ctx:={ fuel:=N,tt:=getL ttL,mt:=getL mtL,ntmps:=33,env:=fun f=>(getL [] f).getD [],cut:=getL [(2,⟨[7,2,3,1],[]⟩)],exits:=fun r=>getL ((getL [(2,[(0,⟨[],[]⟩)])] r).getD []),res:=⟨[6],[]⟩,own:=fun _=>none,lp:=lp52 N,eqs:=fun T=>memN T eqL,ct:=fun T=>memN T ctL,ms:=getMs msL }
noncomputable def b52:Code:=((Go.Proofs.Try.f52).body).getD .skip
theorem s52_2 (N:Nat) {R:Type} (k:AExit→St→Option R) (t2:Int) (t1:Int) (o0:(Int×(List (List Int)×Unit))) (kb:List (Nat×AVal)→List Obj→Option R) (x:Int):codeK (x52 N) (loopAt 2 (loopsOf b52)) (St.of [(7,(.data (.int .i64) x)),(2,(.data (.int .i64) t2)),(3,(.bptr 0 [])),(1,(.data (.int .i64) t1))] [.cell (.data (.pair (.int .i64) (.pair (.sl false (.arr 2 (.int .i64))) .unit)) o0)]) (kLoop (x52 N) 2 ⟨[7,2,3,1],[]⟩ kb k)=f52_L2 N t2 t1 o0 (fun y=>kb [(7,(.data (.int .i64) y)),(2,(.data (.int .i64) t2)),(3,(.bptr 0 [])),(1,(.data (.int .i64) t1))] [.cell (.data (.pair (.int .i64) (.pair (.sl false (.arr 2 (.int .i64))) .unit)) o0)])
  (fun y0=>k .ret (St.of [(6,(.data .bool y0))] []))
  (fun _=>k (.exit 0) (St.of [] [])) x:=by kernel_rfl
theorem l52_2 (N:Nat):LoopOK (x52 N) (loopAt 2 (loopsOf b52)):=
 loop_mk (G52_2 N) (by kernel_rfl) (by kernel_rfl) (by kernel_rfl) fun R k d=>
  loop_eq (st:=fun (x:Int)=>([(7,(.data (.int .i64) x)),(2,(.data (.int .i64) d.1.2.1)),(3,(.bptr 0 [])),(1,(.data (.int .i64) d.1.2.2.2.1))],[.cell (.data (.pair (.int .i64) (.pair (.sl false (.arr 2 (.int .i64))) .unit)) d.2.1)])) (s52_2 N k d.1.2.1 d.1.2.2.2.1 d.2.1) N d.1.1
theorem e52 (N:Nat) (a0:(Int×(List (List Int)×Unit))) (a1:Int) (a2:Int):bodyK (x52 N) [.bool] [.tmp 6] b52 (entry (.pr (.val (.pair (.int .i64) (.pair (.sl false (.arr 2 (.int .i64))) .unit))) (.pr (.val (.int .i64)) (.pr (.val (.int .i64)) .un))) (a0,(a1,(a2,()))))=f52 N a0 a1 a2:=by kernel_rfl
theorem k52 (N:Nat):CalleeOK Go.Proofs.Try.prog 52 (c52 N):=
 fn_ok (fn:=Go.Proofs.Try.f52) (body:=b52) (c:=x52 N) Go.Proofs.Try.func52 (by kernel_rfl) (by kernel_rfl) ⟨ttL_ok,mtL_ok,eqL_ok,ctL_ok,msL_ok,env_nil⟩ mixed (by kernel_rfl) (Nat.le_of_ble_eq_true (by kernel_rfl)) (by kernel_rfl) (by decide)
  (loops_ok (by kernel_rfl:loopsOf b52=[loopAt 2 (loopsOf b52)]) (.cons (l52_2 N) .nil)) fun d=>e52 N d.1 d.2.1 d.2.2.1
def f35_L4 {R:Type} (N:Nat) (t3:List Int) (o0:(Int×(List (List Int)×Unit))) (kb:Int→Option R) (kret:Bool→Option R) (kx0:Unit→Option R):Int→Option R:=
 fun t9=>
  cond (decide (t9 < (len t3)))
   ((cond (decide (0 < t9))
     ((idx t3 (wi64 (t9-1))).bind fun x_2=>
     (idx t3 t9).bind fun x_3=>
     (f52 N o0 x_2 x_3).bind fun r_3=>
     some (!r_3))
     (some false)).bind fun b_4=>
   (cond b_4
     (some true)
     (chk ((decide (0≤t9)) && (decide (t9≤(len t3)))) <|
     (idx t3 t9).bind fun x_4=>
     (f40 N (sub t3 0 t9) x_4).bind fun r_4=>
     some r_4)).bind fun b_5=>
   cond b_5
    (kret false)
    (kb (wi64 (t9+1))))
   (kx0 ())
def f35 (N:Nat) (a0:(Int×(List (List Int)×Unit))) (a1:List Int) (a2:List Int) (a3:List Int):Option (Bool):=
 (cond (decide ((len a3)=0))
   (some true)
   (some (decide (a0.1 < (len a3))))).bind fun b=>
 (cond b
   (some true)
   ((f37 N a0 a3).bind fun r=>
   some (!r))).bind fun b_1=>
 (cond b_1
   (some true)
   ((idx a3 0).bind fun x=>
   (f40 N a1 x).bind fun r_1=>
   some (!r_1))).bind fun b_2=>
 (cond b_2
   (some true)
   ((idx a3 (wi64 ((len a3)-1))).bind fun x_1=>
   (f40 N a2 x_1).bind fun r_2=>
   some (!r_2))).bind fun b_3=>
 cond b_3
  (some false)
  (iter (fun w=>f35_L4 N a3 a0 w
   (fun t8=>
    some t8)
   (fun (_:Unit)=>
    some true)) N 0)
def c35 (N:Nat):Callee:=.pure (.pr (.val (.pair (.int .i64) (.pair (.sl false (.arr 2 (.int .i64))) .unit))) (.pr (.val (.sl false (.int .i64))) (.pr (.val (.sl false (.int .i64))) (.pr (.val (.sl false (.int .i64))) .un)))) [.bool] fun d=>f35 N d.1 d.2.1 d.2.2.1 d.2.2.2.1
def F35_4:SForm:=⟨[(9,(.val (.int .i64))),(3,(.val (.sl false (.int .i64)))),(4,(.bptr 0 []))],[.cell (.val (.pair (.int .i64) (.pair (.sl false (.arr 2 (.int .i64))) .unit)))]⟩
def G35_4 (N:Nat):(R:Type)→F35_4.den→(AExit→St→Option R)→Option R:=fun R d k=>iter (fun kb=>f35_L4 N d.1.2.1 d.2.1 kb
  (fun y0=>k .ret (St.of [(8,(.data .bool y0))] []))
  (fun _=>k (.exit 0) (St.of [] []))) N d.1.1
def lp35 (N:Nat):Nat→Option LoopFn:=fun r=>cond (Nat.beq r 4) (some fun R sl os k=>F35_4.take sl os fun d=>G35_4 N R d k) (none)
def x35 (N:Nat):Ctx:={ fuel:=N,tt:=getL ttL,mt:=getL mtL,ntmps:=77,env:=fun f=>(getL [(37,[c37 N]),(40,[c40 N]),(52,[c52 N])] f).getD [],cut:=getL [(4,⟨[9,3,4],[]⟩)],exits:=fun r=>getL ((getL [(4,[(0,⟨[],[]⟩)])] r).getD []),res:=⟨[8],[]⟩,own:=fun _=>none,lp:=lp35 N,eqs:=fun T=>memN T eqL,ct:=fun T=>memN T ctL,ms:=getMs msL }
noncomputable def b35:Code:=((Go.Proofs.Try.f35).body).getD .skip
theorem s35_4 (N:Nat) {R:Type} (k:AExit→St→Option R) (t3:List Int) (o0:(Int×(List (List Int)×Unit))) (kb:List (Nat×AVal)→List Obj→Option R) (x:Int):codeK (x35 N) (loopAt 4 (loopsOf b35)) (St.of [(9,(.data (.int .i64) x)),(3,(.data (.sl false (.int .i64)) t3)),(4,(.bptr 0 []))] [.cell (.data (.pair (.int .i64) (.pair (.sl false (.arr 2 (.int .i64))) .unit)) o0)]) (kLoop (x35 N) 4 ⟨[9,3,4],[]⟩ kb k)=f35_L4 N t3 o0 (fun y=>kb [(9,(.data (.int .i64) y)),(3,(.data (.sl false (.int .i64)) t3)),(4,(.bptr 0 []))] [.cell (.data (.pair (.int .i64) (.pair (.sl false (.arr 2 (.int .i64))) .unit)) o0)])
  (fun y0=>k .ret (St.of [(8,(.data .bool y0))] []))
  (fun _=>k (.exit 0) (St.of [] [])) x:=by kernel_rfl
theorem l35_4 (N:Nat):LoopOK (x35 N) (loopAt 4 (loopsOf b35)):=
 loop_mk (G35_4 N) (by kernel_rfl) (by kernel_rfl) (by kernel_rfl) fun R k d=>
  loop_eq (st:=fun (x:Int)=>([(9,(.data (.int .i64) x)),(3,(.data (.sl false (.int .i64)) d.1.2.1)),(4,(.bptr 0 []))],[.cell (.data (.pair (.int .i64) (.pair (.sl false (.arr 2 (.int .i64))) .unit)) d.2.1)])) (s35_4 N k d.1.2.1 d.2.1) N d.1.1
theorem e35 (N:Nat) (a0:(Int×(List (List Int)×Unit))) (a1:List Int) (a2:List Int) (a3:List Int):bodyK (x35 N) [.bool] [.tmp 8] b35 (entry (.pr (.val (.pair (.int .i64) (.pair (.sl false (.arr 2 (.int .i64))) .unit))) (.pr (.val (.sl false (.int .i64))) (.pr (.val (.sl false (.int .i64))) (.pr (.val (.sl false (.int .i64))) .un)))) (a0,(a1,(a2,(a3,())))))=f35 N a0 a1 a2 a3:=by kernel_rfl
theorem k35 (N:Nat):CalleeOK Go.Proofs.Try.prog 35 (c35 N):=
 fn_ok (fn:=Go.Proofs.Try.f35) (body:=b35) (c:=x35 N) Go.Proofs.Try.func35 (by kernel_rfl) (by kernel_rfl) ⟨ttL_ok,mtL_ok,eqL_ok,ctL_ok,msL_ok,env_cons (forall_mem1 (k37 N)) (env_cons (forall_mem1 (k40 N)) (env_cons (forall_mem1 (k52 N)) (env_nil)))⟩ mixed (by kernel_rfl) (Nat.le_of_ble_eq_true (by kernel_rfl)) (by kernel_rfl) (by decide)
  (loops_ok (by kernel_rfl:loopsOf b35=[loopAt 4 (loopsOf b35)]) (.cons (l35_4 N) .nil)) fun d=>e35 N d.1 d.2.1 d.2.2.1 d.2.2.2.1
def f16_L17 {R:Type} (N:Nat) (t1_1:List Int) (t16_1:Int) (t3_1:List Int) (t2_1:List Int) (t14_1:Int) (t5_1:List (List Int×(Int×Unit))) (t18_1:Int) (o1_1:(List Int×(Int×Unit))) (o2:(Int×(List (List Int)×Unit))) (kb:Int×List Int→Option R) (kret:Int→Option R) (kx2:(List Int)→Option R):Int×List Int→Option R:=
 fun (t20,o0_1)=>
  cond (decide (t20 < (len o1_1.1)))
   ((idx o1_1.1 t20).bind fun x_1=>
   chk (inb o0_1 x_1) <|
   (idx o0_1 x_1).bind fun x_2=>
   chk (inb o0_1 x_1) <|
   (idx o0_1 x_1).bind fun x_3=>
   (idx o0_1 x_1).bind fun x_4=>
   (idx t1_1 x_1).bind fun x_5=>
   (cond (decide (0≤x_5))
     (chk (inb (setI o0_1 x_1 (wi64 (x_2+o1_1.2.1))) x_1) <|
     (idx (setI o0_1 x_1 (wi64 (x_2+o1_1.2.1))) x_1).bind fun x_6=>
     (idx t1_1 x_1).bind fun x_7=>
     some (decide (x_7 < x_6)))
     (some false)).bind fun b_3=>
   cond b_3
    (kret 13)
    (kb ((wi64 (t20+1)),(setI o0_1 x_1 (wi64 (x_2+o1_1.2.1))))))
   (kx2 o0_1)
def f16_L10 {R:Type} (N:Nat) (t1:List Int) (t3:List Int) (t2:List Int) (t14:Int) (t5:List (List Int×(Int×Unit))) (o1:(Int×(List (List Int)×Unit))) (kb:Int×Int×List Int→Option R) (kret:Int→Option R) (kx0:Int→Option R):Int×Int×List Int→Option R:=
 fun (t18,t16,o0)=>
  cond (decide (t18 < (len t5)))
   ((idx t5 t18).bind fun x=>
   (cond (decide (x.2.1 < 1))
     (some true)
     (some (decide ((wi64 (t14-t16)) < x.2.1)))).bind fun b_1=>
   (cond b_1
     (some true)
     ((f35 N o1 t2 t3 x.1).bind fun r_3=>
     some (!r_3))).bind fun b_2=>
   cond b_2
    (kret 13)
    (iter (fun w=>f16_L17 N t1 (wi64 (t16+x.2.1)) t3 t2 t14 t5 t18 x o1 w
     (fun t12=>
      kret t12)
     (fun o0_2=>
      kb ((wi64 (t18+1)),(wi64 (t16+x.2.1)),o0_2))) N (0,o0)))
   (kx0 t16)
def f16 (N:Nat) (a0:(Int×(List (List Int)×Unit))) (a1:List Int) (a2:List Int) (a3:List Int) (a4:List Int) (a5:List (List Int×(Int×Unit))):Option (Int):=
 (f17 N a0 a1 a2 a3).bind fun r=>
 cond (!(decide (r=0)))
  (some r)
  ((f15 N a1 a4).bind fun r_1=>
  (cond (!r_1.2)
    (some true)
    ((f33 N a0 a2 a3 a4).bind fun r_2=>
    some r_2)).bind fun b=>
  cond b
   (some 13)
   (chk (((decide (0≤a0.1)) && (decide (a0.1≤a0.1))) && (decide (a0.1≤((room:Nat):Int)))) <|
   iter (fun w=>f16_L10 N a1 a3 a2 r_1.1 a5 a0 w
    (fun t12_1=>
     some t12_1)
    (fun t16_2=>
     cond (!(decide (t16_2=r_1.1)))
      (some 13)
      (some 0))) N (0,0,(List.replicate (Int.toNat a0.1) 0:List Int))))
def c16 (N:Nat):Callee:=.pure (.pr (.val (.pair (.int .i64) (.pair (.sl false (.arr 2 (.int .i64))) .unit))) (.pr (.val (.sl false (.int .i64))) (.pr (.val (.sl false (.int .i64))) (.pr (.val (.sl false (.int .i64))) (.pr (.val (.sl false (.int .i64))) (.pr (.val (.sl false (.pair (.sl false (.int .i64)) (.pair (.int .i64) .unit)))) .un)))))) [(.int .i64)] fun d=>f16 N d.1 d.2.1 d.2.2.1 d.2.2.2.1 d.2.2.2.2.1 d.2.2.2.2.2.1
def F16_17:SForm:=⟨[(20,(.val (.int .i64))),(1,(.val (.sl false (.int .i64)))),(17,(.ref 0)),(19,(.bptr 1 [])),(16,(.val (.int .i64))),(3,(.val (.sl false (.int .i64)))),(2,(.val (.sl false (.int .i64)))),(6,(.bptr 2 [])),(14,(.val (.int .i64))),(5,(.val (.sl false (.pair (.sl false (.int .i64)) (.pair (.int .i64) .unit))))),(18,(.val (.int .i64)))],[.row (.int .i64),.cell (.val (.pair (.sl false (.int .i64)) (.pair (.int .i64) .unit))),.cell (.val (.pair (.int .i64) (.pair (.sl false (.arr 2 (.int .i64))) .unit)))]⟩
def G16_17 (N:Nat):(R:Type)→F16_17.den→(AExit→St→Option R)→Option R:=fun R d k=>iter (fun kb=>f16_L17 N d.1.2.1 d.1.2.2.2.2.1 d.1.2.2.2.2.2.1 d.1.2.2.2.2.2.2.1 d.1.2.2.2.2.2.2.2.2.1 d.1.2.2.2.2.2.2.2.2.2.1 d.1.2.2.2.2.2.2.2.2.2.2.1 d.2.2.1 d.2.2.2.1 kb
  (fun y0=>k .ret (St.of [(12,(.data (.int .i64) y0))] []))
  (fun y7=>k (.exit 2) (St.of [(1,(.data (.sl false (.int .i64)) d.1.2.1)),(17,(.ref 0 [] 0)),(16,(.data (.int .i64) d.1.2.2.2.2.1)),(3,(.data (.sl false (.int .i64)) d.1.2.2.2.2.2.1)),(2,(.data (.sl false (.int .i64)) d.1.2.2.2.2.2.2.1)),(6,(.bptr 1 [])),(14,(.data (.int .i64) d.1.2.2.2.2.2.2.2.2.1)),(5,(.data (.sl false (.pair (.sl false (.int .i64)) (.pair (.int .i64) .unit))) d.1.2.2.2.2.2.2.2.2.2.1)),(18,(.data (.int .i64) d.1.2.2.2.2.2.2.2.2.2.2.1))] [.row (.int .i64) y7 0,.cell (.data (.pair (.int .i64) (.pair (.sl false (.arr 2 (.int .i64))) .unit)) d.2.2.2.1)]))) N (d.1.1,d.2.1)
def F16_10:SForm:=⟨[(1,(.val (.sl false (.int .i64)))),(17,(.ref 0)),(18,(.val (.int .i64))),(16,(.val (.int .i64))),(3,(.val (.sl false (.int .i64)))),(2,(.val (.sl false (.int .i64)))),(6,(.bptr 1 [])),(14,(.val (.int .i64))),(5,(.val (.sl false (.pair (.sl false (.int .i64)) (.pair (.int .i64) .unit)))))],[.row (.int .i64),.cell (.val (.pair (.int .i64) (.pair (.sl false (.arr 2 (.int .i64))) .unit)))]⟩
def G16_10 (N:Nat):(R:Type)→F16_10.den→(AExit→St→Option R)→Option R:=fun R d k=>iter (fun kb=>f16_L10 N d.1.1 d.1.2.2.2.2.1 d.1.2.2.2.2.2.1 d.1.2.2.2.2.2.2.2.1 d.1.2.2.2.2.2.2.2.2.1 d.2.2.1 kb
  (fun y0=>k .ret (St.of [(12,(.data (.int .i64) y0))] []))
  (fun y1=>k (.exit 0) (St.of [(14,(.data (.int .i64) d.1.2.2.2.2.2.2.2.1)),(16,(.data (.int .i64) y1))] []))) N (d.1.2.2.1,d.1.2.2.2.1,d.2.1)
def lp16 (N:Nat):Nat→Option LoopFn:=fun r=>cond (Nat.beq r 17) (some fun R sl os k=>F16_17.take sl os fun d=>G16_17 N R d k) (cond (Nat.beq r 10) (some fun R sl os k=>F16_10.take sl os fun d=>G16_10 N R d k) (none))
def x16 (N:Nat):Ctx:={ fuel:=N,tt:=getL ttL,mt:=getL mtL,ntmps:=123,env:=fun f=>(getL [(17,[c17 N]),(15,[c15 N]),(33,[c33 N]),(35,[c35 N])] f).getD [],cut:=getL [(10,⟨[1,17,18,16,3,2,6,14,5],[]⟩),(17,⟨[20,1,17,19,16,3,2,6,14,5,18],[]⟩)],exits:=fun r=>getL ((getL [(10,[(0,⟨[14,16],[]⟩)]),(17,[(2,⟨[1,17,16,3,2,6,14,5,18],[]⟩)])] r).getD []),res:=⟨[12],[]⟩,own:=fun _=>none,lp:=lp16 N,eqs:=fun T=>memN T eqL,ct:=fun T=>memN T ctL,ms:=getMs msL }
noncomputable def b16:Code:=((Go.Proofs.Try.f16).body).getD .skip
theorem s16_17 (N:Nat) {R:Type} (k:AExit→St→Option R) (t1_1:List Int) (t16_1:Int) (t3_1:List Int) (t2_1:List Int) (t14_1:Int) (t5_1:List (List Int×(Int×Unit))) (t18_1:Int) (o1_1:(List Int×(Int×Unit))) (o2:(Int×(List (List Int)×Unit))) (kb:List (Nat×AVal)→List Obj→Option R) (x:Int×List Int):codeK (x16 N) (loopAt 17 (loopsOf b16)) (St.of [(20,(.data (.int .i64) x.1)),(1,(.data (.sl false (.int .i64)) t1_1)),(17,(.ref 0 [] 0)),(19,(.bptr 1 [])),(16,(.data (.int .i64) t16_1)),(3,(.data (.sl false (.int .i64)) t3_1)),(2,(.data (.sl false (.int .i64)) t2_1)),(6,(.bptr 2 [])),(14,(.data (.int .i64) t14_1)),(5,(.data (.sl false (.pair (.sl false (.int .i64)) (.pair (.int .i64) .unit))) t5_1)),(18,(.data (.int .i64) t18_1))] [.row (.int .i64) x.2 0,.cell (.data (.pair (.sl false (.int .i64)) (.pair (.int .i64) .unit)) o1_1),.cell (.data (.pair (.int .i64) (.pair (.sl false (.arr 2 (.int .i64))) .unit)) o2)]) (kLoop (x16 N) 17 ⟨[20,1,17,19,16,3,2,6,14,5,18],[]⟩ kb k)=f16_L17 N t1_1 t16_1 t3_1 t2_1 t14_1 t5_1 t18_1 o1_1 o2 (fun y=>kb [(20,(.data (.int .i64) y.1)),(1,(.data (.sl false (.int .i64)) t1_1)),(17,(.ref 0 [] 0)),(19,(.bptr 1 [])),(16,(.data (.int .i64) t16_1)),(3,(.data (.sl false (.int .i64)) t3_1)),(2,(.data (.sl false (.int .i64)) t2_1)),(6,(.bptr 2 [])),(14,(.data (.int .i64) t14_1)),(5,(.data (.sl false (.pair (.sl false (.int .i64)) (.pair (.int .i64) .unit))) t5_1)),(18,(.data (.int .i64) t18_1))] [.row (.int .i64) y.2 0,.cell (.data (.pair (.sl false (.int .i64)) (.pair (.int .i64) .unit)) o1_1),.cell (.data (.pair (.int .i64) (.pair (.sl false (.arr 2 (.int .i64))) .unit)) o2)])
  (fun y0=>k .ret (St.of [(12,(.data (.int .i64) y0))] []))
  (fun y7=>k (.exit 2) (St.of [(1,(.data (.sl false (.int .i64)) t1_1)),(17,(.ref 0 [] 0)),(16,(.data (.int .i64) t16_1)),(3,(.data (.sl false (.int .i64)) t3_1)),(2,(.data (.sl false (.int .i64)) t2_1)),(6,(.bptr 1 [])),(14,(.data (.int .i64) t14_1)),(5,(.data (.sl false (.pair (.sl false (.int .i64)) (.pair (.int .i64) .unit))) t5_1)),(18,(.data (.int .i64) t18_1))] [.row (.int .i64) y7 0,.cell (.data (.pair (.int .i64) (.pair (.sl false (.arr 2 (.int .i64))) .unit)) o2)])) x:=by kernel_rfl
theorem l16_17 (N:Nat):LoopOK (x16 N) (loopAt 17 (loopsOf b16)):=
 loop_mk (G16_17 N) (by kernel_rfl) (by kernel_rfl) (by kernel_rfl) fun R k d=>
  loop_eq (st:=fun (x:Int×List Int)=>([(20,(.data (.int .i64) x.1)),(1,(.data (.sl false (.int .i64)) d.1.2.1)),(17,(.ref 0 [] 0)),(19,(.bptr 1 [])),(16,(.data (.int .i64) d.1.2.2.2.2.1)),(3,(.data (.sl false (.int .i64)) d.1.2.2.2.2.2.1)),(2,(.data (.sl false (.int .i64)) d.1.2.2.2.2.2.2.1)),(6,(.bptr 2 [])),(14,(.data (.int .i64) d.1.2.2.2.2.2.2.2.2.1)),(5,(.data (.sl false (.pair (.sl false (.int .i64)) (.pair (.int .i64) .unit))) d.1.2.2.2.2.2.2.2.2.2.1)),(18,(.data (.int .i64) d.1.2.2.2.2.2.2.2.2.2.2.1))],[.row (.int .i64) x.2 0,.cell (.data (.pair (.sl false (.int .i64)) (.pair (.int .i64) .unit)) d.2.2.1),.cell (.data (.pair (.int .i64) (.pair (.sl false (.arr 2 (.int .i64))) .unit)) d.2.2.2.1)])) (s16_17 N k d.1.2.1 d.1.2.2.2.2.1 d.1.2.2.2.2.2.1 d.1.2.2.2.2.2.2.1 d.1.2.2.2.2.2.2.2.2.1 d.1.2.2.2.2.2.2.2.2.2.1 d.1.2.2.2.2.2.2.2.2.2.2.1 d.2.2.1 d.2.2.2.1) N (d.1.1,d.2.1)
theorem s16_10 (N:Nat) {R:Type} (k:AExit→St→Option R) (t1:List Int) (t3:List Int) (t2:List Int) (t14:Int) (t5:List (List Int×(Int×Unit))) (o1:(Int×(List (List Int)×Unit))) (kb:List (Nat×AVal)→List Obj→Option R) (x:Int×Int×List Int):codeK (x16 N) (loopAt 10 (loopsOf b16)) (St.of [(1,(.data (.sl false (.int .i64)) t1)),(17,(.ref 0 [] 0)),(18,(.data (.int .i64) x.1)),(16,(.data (.int .i64) x.2.1)),(3,(.data (.sl false (.int .i64)) t3)),(2,(.data (.sl false (.int .i64)) t2)),(6,(.bptr 1 [])),(14,(.data (.int .i64) t14)),(5,(.data (.sl false (.pair (.sl false (.int .i64)) (.pair (.int .i64) .unit))) t5))] [.row (.int .i64) x.2.2 0,.cell (.data (.pair (.int .i64) (.pair (.sl false (.arr 2 (.int .i64))) .unit)) o1)]) (kLoop (x16 N) 10 ⟨[1,17,18,16,3,2,6,14,5],[]⟩ kb k)=f16_L10 N t1 t3 t2 t14 t5 o1 (fun y=>kb [(1,(.data (.sl false (.int .i64)) t1)),(17,(.ref 0 [] 0)),(18,(.data (.int .i64) y.1)),(16,(.data (.int .i64) y.2.1)),(3,(.data (.sl false (.int .i64)) t3)),(2,(.data (.sl false (.int .i64)) t2)),(6,(.bptr 1 [])),(14,(.data (.int .i64) t14)),(5,(.data (.sl false (.pair (.sl false (.int .i64)) (.pair (.int .i64) .unit))) t5))] [.row (.int .i64) y.2.2 0,.cell (.data (.pair (.int .i64) (.pair (.sl false (.arr 2 (.int .i64))) .unit)) o1)])
  (fun y0=>k .ret (St.of [(12,(.data (.int .i64) y0))] []))
  (fun y1=>k (.exit 0) (St.of [(14,(.data (.int .i64) t14)),(16,(.data (.int .i64) y1))] [])) x:=by kernel_rfl
theorem l16_10 (N:Nat):LoopOK (x16 N) (loopAt 10 (loopsOf b16)):=
 loop_mk (G16_10 N) (by kernel_rfl) (by kernel_rfl) (by kernel_rfl) fun R k d=>
  loop_eq (st:=fun (x:Int×Int×List Int)=>([(1,(.data (.sl false (.int .i64)) d.1.1)),(17,(.ref 0 [] 0)),(18,(.data (.int .i64) x.1)),(16,(.data (.int .i64) x.2.1)),(3,(.data (.sl false (.int .i64)) d.1.2.2.2.2.1)),(2,(.data (.sl false (.int .i64)) d.1.2.2.2.2.2.1)),(6,(.bptr 1 [])),(14,(.data (.int .i64) d.1.2.2.2.2.2.2.2.1)),(5,(.data (.sl false (.pair (.sl false (.int .i64)) (.pair (.int .i64) .unit))) d.1.2.2.2.2.2.2.2.2.1))],[.row (.int .i64) x.2.2 0,.cell (.data (.pair (.int .i64) (.pair (.sl false (.arr 2 (.int .i64))) .unit)) d.2.2.1)])) (s16_10 N k d.1.1 d.1.2.2.2.2.1 d.1.2.2.2.2.2.1 d.1.2.2.2.2.2.2.2.1 d.1.2.2.2.2.2.2.2.2.1 d.2.2.1) N (d.1.2.2.1,d.1.2.2.2.1,d.2.1)
theorem e16 (N:Nat) (a0:(Int×(List (List Int)×Unit))) (a1:List Int) (a2:List Int) (a3:List Int) (a4:List Int) (a5:List (List Int×(Int×Unit))):bodyK (x16 N) [(.int .i64)] [.tmp 12] b16 (entry (.pr (.val (.pair (.int .i64) (.pair (.sl false (.arr 2 (.int .i64))) .unit))) (.pr (.val (.sl false (.int .i64))) (.pr (.val (.sl false (.int .i64))) (.pr (.val (.sl false (.int .i64))) (.pr (.val (.sl false (.int .i64))) (.pr (.val (.sl false (.pair (.sl false (.int .i64)) (.pair (.int .i64) .unit)))) .un)))))) (a0,(a1,(a2,(a3,(a4,(a5,())))))))=f16 N a0 a1 a2 a3 a4 a5:=by kernel_rfl
theorem k16 (N:Nat):CalleeOK Go.Proofs.Try.prog 16 (c16 N):=
 fn_ok (fn:=Go.Proofs.Try.f16) (body:=b16) (c:=x16 N) Go.Proofs.Try.func16 (by kernel_rfl) (by kernel_rfl) ⟨ttL_ok,mtL_ok,eqL_ok,ctL_ok,msL_ok,env_cons (forall_mem1 (k17 N)) (env_cons (forall_mem1 (k15 N)) (env_cons (forall_mem1 (k33 N)) (env_cons (forall_mem1 (k35 N)) (env_nil))))⟩ mixed (by kernel_rfl) (Nat.le_of_ble_eq_true (by kernel_rfl)) (by kernel_rfl) (by decide)
  (loops_ok (by kernel_rfl:loopsOf b16=[loopAt 10 (loopsOf b16),loopAt 17 (loopsOf b16)]) (.cons (l16_10 N) (.cons (l16_17 N) .nil))) fun d=>e16 N d.1 d.2.1 d.2.2.1 d.2.2.2.1 d.2.2.2.2.1 d.2.2.2.2.2.1
def f3 (N:Nat) (a0:((Int×(List (List Int)×Unit))×(List Int×(List Int×(List Int×Unit))))):Option (Bool):=
 (f11 N).bind fun r=>
 cond (!r)
  (some false)
  ((f12 N a0 12 60).bind fun r_1=>
  cond (!r_1)
   (some true)
   ((f13 N (a0.1.1,a0.1.2) a0.2.1 a0.2.2.1 a0.2.2.2.1).bind fun r_2=>
   (f14 N (a0.1.1,a0.1.2) a0.2.1 a0.2.2.1 a0.2.2.2.1).bind fun r_3=>
   cond (!(decide (r_2.2.2.2=r_3)))
    (some false)
    (cond (!(decide (r_2.2.2.2=0)))
     ((cond (decide ((len r_2.1)=0))
       (some (decide ((len r_2.2.1)=0)))
       (some false)).bind fun b=>
     (cond b
       (some (decide (r_2.2.2.1=0)))
       (some false)).bind fun b_1=>
     some b_1)
     ((f15 N a0.2.1 r_2.1).bind fun r_4=>
     (cond r_4.2
       (some (decide (r_2.2.2.1=r_4.1)))
       (some false)).bind fun b_2=>
     (cond b_2
       ((f16 N (a0.1.1,a0.1.2) a0.2.1 a0.2.2.1 a0.2.2.2.1 r_2.1 r_2.2.1).bind fun r_5=>
       some (decide (r_5=0)))
       (some false)).bind fun b_3=>
     some b_3))))
def c3 (N:Nat):Callee:=.pure (.pr (.val (.pair (.pair (.int .i64) (.pair (.sl false (.arr 2 (.int .i64))) .unit)) (.pair (.sl false (.int .i64)) (.pair (.sl false (.int .i64)) (.pair (.sl false (.int .i64)) .unit))))) .un) [.bool] fun d=>f3 N d.1
def lp3 (N:Nat):Nat→Option LoopFn:=fun r=>none
def x3 (N:Nat):Ctx:={ fuel:=N,tt:=getL ttL,mt:=getL mtL,ntmps:=80,env:=fun f=>(getL [(11,[c11 N]),(12,[c12 N]),(13,[c13 N]),(14,[c14 N]),(15,[c15 N]),(16,[c16 N])] f).getD [],cut:=getL [],exits:=fun r=>getL ((getL [] r).getD []),res:=⟨[2],[]⟩,own:=fun _=>none,lp:=lp3 N,eqs:=fun T=>memN T eqL,ct:=fun T=>memN T ctL,ms:=getMs msL }
noncomputable def b3:Code:=((Go.Proofs.Try.f3).body).getD .skip
theorem e3 (N:Nat) (a0:((Int×(List (List Int)×Unit))×(List Int×(List Int×(List Int×Unit))))):bodyK (x3 N) [.bool] [.tmp 2] b3 (entry (.pr (.val (.pair (.pair (.int .i64) (.pair (.sl false (.arr 2 (.int .i64))) .unit)) (.pair (.sl false (.int .i64)) (.pair (.sl false (.int .i64)) (.pair (.sl false (.int .i64)) .unit))))) .un) (a0,()))=f3 N a0:=by kernel_rfl
theorem k3 (N:Nat):CalleeOK Go.Proofs.Try.prog 3 (c3 N):=
 fn_ok (fn:=Go.Proofs.Try.f3) (body:=b3) (c:=x3 N) Go.Proofs.Try.func3 (by kernel_rfl) (by kernel_rfl) ⟨ttL_ok,mtL_ok,eqL_ok,ctL_ok,msL_ok,env_cons (forall_mem1 (k11 N)) (env_cons (forall_mem1 (k12 N)) (env_cons (forall_mem1 (k13 N)) (env_cons (forall_mem1 (k14 N)) (env_cons (forall_mem1 (k15 N)) (env_cons (forall_mem1 (k16 N)) (env_nil))))))⟩ mixed (by kernel_rfl) (Nat.le_of_ble_eq_true (by kernel_rfl)) (by kernel_rfl) (by decide)
  (loops_ok (by kernel_rfl:loopsOf b3=[]) .nil) fun d=>e3 N d.1
def f18_L4 {R:Type} (N:Nat) (t3:List Int) (t2:List Int) (t9:Int) (t1:List Int) (o0:(Int×(List (List Int)×Unit))) (kb:Int×Int→Option R) (kx0:Int→Option R):Int×Int→Option R:=
 fun (t11,t10)=>
  cond (decide (t11 < o0.1))
   (kb ((wi64 (t11+1)),(wi64 (2*t10))))
   (kx0 t10)
def f18_L13 {R:Type} (N:Nat) (t3_2:List Int) (t2_2:List Int) (t1_2:List Int) (t10_3:Int) (t12_1:Int) (t9_2:Int) (o1:(Int×(List (List Int)×Unit))) (kb:Int×Int×List Int→Option R) (kx4:(List Int)→Option R):Int×Int×List Int→Option R:=
 fun (t16,t15,o0_2)=>
  cond (decide (t16 < o1.1))
   (cond (decide ((Int.tmod t15 2)=1))
    (chk (decide ((Nat.succ (List.length o0_2))≤room)) <|
    kb ((wi64 (t16+1)),(wi64 (Int.tdiv t15 2)),(o0_2++(t16 :: ([]:List Int)))))
    (kb ((wi64 (t16+1)),(wi64 (Int.tdiv t15 2)),o0_2)))
   (kx4 o0_2)
def f18_L8 {R:Type} (N:Nat) (t3_1:List Int) (t2_1:List Int) (t1_1:List Int) (t10_2:Int) (o0_1:(Int×(List (List Int)×Unit))) (kb:Int×Int→Option R) (kx2:Int→Option R):Int×Int→Option R:=
 fun (t12,t9_1)=>
  cond (decide (t12 < t10_2))
   (iter (fun w=>f18_L13 N t3_1 t2_1 t1_1 t10_2 t12 t9_1 o0_1 w
    (fun o1_1=>
     (f15 N t1_1 o1_1).bind fun r=>
     (cond r.2
       ((cond (decide (t9_1 < 0))
         (some true)
         (some (decide (r.1 < t9_1)))).bind fun b=>
       some b)
       (some false)).bind fun b_1=>
     (cond b_1
       ((f33 N o0_1 t2_1 t3_1 o1_1).bind fun r_1=>
       some (!r_1))
       (some false)).bind fun b_2=>
     cond b_2
      (kb ((wi64 (t12+1)),r.1))
      (kb ((wi64 (t12+1)),t9_1)))) N (0,t12,([]:List Int)))
   (kx2 t9_1)
def f18 (N:Nat) (a0:(Int×(List (List Int)×Unit))) (a1:List Int) (a2:List Int) (a3:List Int):Option (Int):=
 iter (fun w=>f18_L4 N a3 a2 (-1) a1 a0 w
  (fun t10_1=>
   iter (fun w=>f18_L8 N a3 a2 a1 t10_1 a0 w
    (fun t9_3=>
     some t9_3)) N (0,(-1)))) N (0,1)
def c18 (N:Nat):Callee:=.pure (.pr (.val (.pair (.int .i64) (.pair (.sl false (.arr 2 (.int .i64))) .unit))) (.pr (.val (.sl false (.int .i64))) (.pr (.val (.sl false (.int .i64))) (.pr (.val (.sl false (.int .i64))) .un)))) [(.int .i64)] fun d=>f18 N d.1 d.2.1 d.2.2.1 d.2.2.2.1
def F18_4:SForm:=⟨[(11,(.val (.int .i64))),(10,(.val (.int .i64))),(3,(.val (.sl false (.int .i64)))),(2,(.val (.sl false (.int .i64)))),(4,(.bptr 0 [])),(9,(.val (.int .i64))),(1,(.val (.sl false (.int .i64))))],[.cell (.val (.pair (.int .i64) (.pair (.sl false (.arr 2 (.int .i64))) .unit)))]⟩
def G18_4 (N:Nat):(R:Type)→F18_4.den→(AExit→St→Option R)→Option R:=fun R d k=>iter (fun kb=>f18_L4 N d.1.2.2.1 d.1.2.2.2.1 d.1.2.2.2.2.2.1 d.1.2.2.2.2.2.2.1 d.2.1 kb
  (fun y4=>k (.exit 0) (St.of [(3,(.data (.sl false (.int .i64)) d.1.2.2.1)),(2,(.data (.sl false (.int .i64)) d.1.2.2.2.1)),(4,(.bptr 0 [])),(9,(.data (.int .i64) d.1.2.2.2.2.2.1)),(1,(.data (.sl false (.int .i64)) d.1.2.2.2.2.2.2.1)),(10,(.data (.int .i64) y4))] [.cell (.data (.pair (.int .i64) (.pair (.sl false (.arr 2 (.int .i64))) .unit)) d.2.1)]))) N (d.1.1,d.1.2.1)
def F18_13:SForm:=⟨[(16,(.val (.int .i64))),(15,(.val (.int .i64))),(13,(.ref 0)),(3,(.val (.sl false (.int .i64)))),(2,(.val (.sl false (.int .i64)))),(4,(.bptr 1 [])),(1,(.val (.sl false (.int .i64)))),(10,(.val (.int .i64))),(12,(.val (.int .i64))),(9,(.val (.int .i64)))],[.row (.int .i64),.cell (.val (.pair (.int .i64) (.pair (.sl false (.arr 2 (.int .i64))) .unit)))]⟩
def G18_13 (N:Nat):(R:Type)→F18_13.den→(AExit→St→Option R)→Option R:=fun R d k=>iter (fun kb=>f18_L13 N d.1.2.2.2.1 d.1.2.2.2.2.1 d.1.2.2.2.2.2.2.1 d.1.2.2.2.2.2.2.2.1 d.1.2.2.2.2.2.2.2.2.1 d.1.2.2.2.2.2.2.2.2.2.1 d.2.2.1 kb
  (fun y7=>k (.exit 4) (St.of [(3,(.data (.sl false (.int .i64)) d.1.2.2.2.1)),(2,(.data (.sl false (.int .i64)) d.1.2.2.2.2.1)),(4,(.bptr 0 [])),(1,(.data (.sl false (.int .i64)) d.1.2.2.2.2.2.2.1)),(10,(.data (.int .i64) d.1.2.2.2.2.2.2.2.1)),(12,(.data (.int .i64) d.1.2.2.2.2.2.2.2.2.1)),(9,(.data (.int .i64) d.1.2.2.2.2.2.2.2.2.2.1)),(13,(.ref 1 [] 0))] [.cell (.data (.pair (.int .i64) (.pair (.sl false (.arr 2 (.int .i64))) .unit)) d.2.2.1),.row (.int .i64) y7 0]))) N (d.1.1,d.1.2.1,d.2.1)
def F18_8:SForm:=⟨[(12,(.val (.int .i64))),(3,(.val (.sl false (.int .i64)))),(2,(.val (.sl false (.int .i64)))),(4,(.bptr 0 [])),(9,(.val (.int .i64))),(1,(.val (.sl false (.int .i64)))),(10,(.val (.int .i64)))],[.cell (.val (.pair (.int .i64) (.pair (.sl false (.arr 2 (.int .i64))) .unit)))]⟩
def G18_8 (N:Nat):(R:Type)→F18_8.den→(AExit→St→Option R)→Option R:=fun R d k=>iter (fun kb=>f18_L8 N d.1.2.1 d.1.2.2.1 d.1.2.2.2.2.2.1 d.1.2.2.2.2.2.2.1 d.2.1 kb
  (fun y0=>k (.exit 2) (St.of [(9,(.data (.int .i64) y0))] []))) N (d.1.1,d.1.2.2.2.2.1)
def lp18 (N:Nat):Nat→Option LoopFn:=fun r=>cond (Nat.beq r 4) (some fun R sl os k=>F18_4.take sl os fun d=>G18_4 N R d k) (cond (Nat.beq r 13) (some fun R sl os k=>F18_13.take sl os fun d=>G18_13 N R d k) (cond (Nat.beq r 8) (some fun R sl os k=>F18_8.take sl os fun d=>G18_8 N R d k) (none)))
def x18 (N:Nat):Ctx:={ fuel:=N,tt:=getL ttL,mt:=getL mtL,ntmps:=74,env:=fun f=>(getL [(15,[c15 N]),(33,[c33 N])] f).getD [],cut:=getL [(4,⟨[11,10,3,2,4,9,1],[]⟩),(8,⟨[12,3,2,4,9,1,10],[]⟩),(13,⟨[16,15,13,3,2,4,1,10,12,9],[]⟩)],exits:=fun r=>getL ((getL [(4,[(0,⟨[3,2,4,9,1,10],[]⟩)]),(8,[(2,⟨[9],[]⟩)]),(13,[(4,⟨[3,2,4,1,10,12,9,13],[]⟩)])] r).getD []),res:=⟨[8],[]⟩,own:=fun _=>none,lp:=lp18 N,eqs:=fun T=>memN T eqL,ct:=fun T=>memN T ctL,ms:=getMs msL }
noncomputable def b18:Code:=((Go.Proofs.Try.f18).body).getD .skip
theorem s18_4 (N:Nat) {R:Type} (k:AExit→St→Option R) (t3:List Int) (t2:List Int) (t9:Int) (t1:List Int) (o0:(Int×(List (List Int)×Unit))) (kb:List (Nat×AVal)→List Obj→Option R) (x:Int×Int):codeK (x18 N) (loopAt 4 (loopsOf b18)) (St.of [(11,(.data (.int .i64) x.1)),(10,(.data (.int .i64) x.2)),(3,(.data (.sl false (.int .i64)) t3)),(2,(.data (.sl false (.int .i64)) t2)),(4,(.bptr 0 [])),(9,(.data (.int .i64) t9)),(1,(.data (.sl false (.int .i64)) t1))] [.cell (.data (.pair (.int .i64) (.pair (.sl false (.arr 2 (.int .i64))) .unit)) o0)]) (kLoop (x18 N) 4 ⟨[11,10,3,2,4,9,1],[]⟩ kb k)=f18_L4 N t3 t2 t9 t1 o0 (fun y=>kb [(11,(.data (.int .i64) y.1)),(10,(.data (.int .i64) y.2)),(3,(.data (.sl false (.int .i64)) t3)),(2,(.data (.sl false (.int .i64)) t2)),(4,(.bptr 0 [])),(9,(.data (.int .i64) t9)),(1,(.data (.sl false (.int .i64)) t1))] [.cell (.data (.pair (.int .i64) (.pair (.sl false (.arr 2 (.int .i64))) .unit)) o0)])
  (fun y4=>k (.exit 0) (St.of [(3,(.data (.sl false (.int .i64)) t3)),(2,(.data (.sl false (.int .i64)) t2)),(4,(.bptr 0 [])),(9,(.data (.int .i64) t9)),(1,(.data (.sl false (.int .i64)) t1)),(10,(.data (.int .i64) y4))] [.cell (.data (.pair (.int .i64) (.pair (.sl false (.arr 2 (.int .i64))) .unit)) o0)])) x:=by kernel_rfl
theorem l18_4 (N:Nat):LoopOK (x18 N) (loopAt 4 (loopsOf b18)):=
 loop_mk (G18_4 N) (by kernel_rfl) (by kernel_rfl) (by kernel_rfl) fun R k d=>
  loop_eq (st:=fun (x:Int×Int)=>([(11,(.data (.int .i64) x.1)),(10,(.data (.int .i64) x.2)),(3,(.data (.sl false (.int .i64)) d.1.2.2.1)),(2,(.data (.sl false (.int .i64)) d.1.2.2.2.1)),(4,(.bptr 0 [])),(9,(.data (.int .i64) d.1.2.2.2.2.2.1)),(1,(.data (.sl false (.int .i64)) d.1.2.2.2.2.2.2.1))],[.cell (.data (.pair (.int .i64) (.pair (.sl false (.arr 2 (.int .i64))) .unit)) d.2.1)])) (s18_4 N k d.1.2.2.1 d.1.2.2.2.1 d.1.2.2.2.2.2.1 d.1.2.2.2.2.2.2.1 d.2.1) N (d.1.1,d.1.2.1)
theorem s18_13 (N:Nat) {R:Type} (k:AExit→St→Option R) (t3_2:List Int) (t2_2:List Int) (t1_2:List Int) (t10_3:Int) (t12_1:Int) (t9_2:Int) (o1:(Int×(List (List Int)×Unit))) (kb:List (Nat×AVal)→List Obj→Option R) (x:Int×Int×List Int):codeK (x18 N) (loopAt 13 (loopsOf b18)) (St.of [(16,(.data (.int .i64) x.1)),(15,(.data (.int .i64) x.2.1)),(13,(.ref 0 [] 0)),(3,(.data (.sl false (.int .i64)) t3_2)),(2,(.data (.sl false (.int .i64)) t2_2)),(4,(.bptr 1 [])),(1,(.data (.sl false (.int .i64)) t1_2)),(10,(.data (.int .i64) t10_3)),(12,(.data (.int .i64) t12_1)),(9,(.data (.int .i64) t9_2))] [.row (.int .i64) x.2.2 0,.cell (.data (.pair (.int .i64) (.pair (.sl false (.arr 2 (.int .i64))) .unit)) o1)]) (kLoop (x18 N) 13 ⟨[16,15,13,3,2,4,1,10,12,9],[]⟩ kb k)=f18_L13 N t3_2 t2_2 t1_2 t10_3 t12_1 t9_2 o1 (fun y=>kb [(16,(.data (.int .i64) y.1)),(15,(.data (.int .i64) y.2.1)),(13,(.ref 0 [] 0)),(3,(.data (.sl false (.int .i64)) t3_2)),(2,(.data (.sl false (.int .i64)) t2_2)),(4,(.bptr 1 [])),(1,(.data (.sl false (.int .i64)) t1_2)),(10,(.data (.int .i64) t10_3)),(12,(.data (.int .i64) t12_1)),(9,(.data (.int .i64) t9_2))] [.row (.int .i64) y.2.2 0,.cell (.data (.pair (.int .i64) (.pair (.sl false (.arr 2 (.int .i64))) .unit)) o1)])
  (fun y7=>k (.exit 4) (St.of [(3,(.data (.sl false (.int .i64)) t3_2)),(2,(.data (.sl false (.int .i64)) t2_2)),(4,(.bptr 0 [])),(1,(.data (.sl false (.int .i64)) t1_2)),(10,(.data (.int .i64) t10_3)),(12,(.data (.int .i64) t12_1)),(9,(.data (.int .i64) t9_2)),(13,(.ref 1 [] 0))] [.cell (.data (.pair (.int .i64) (.pair (.sl false (.arr 2 (.int .i64))) .unit)) o1),.row (.int .i64) y7 0])) x:=by kernel_rfl
theorem l18_13 (N:Nat):LoopOK (x18 N) (loopAt 13 (loopsOf b18)):=
 loop_mk (G18_13 N) (by kernel_rfl) (by kernel_rfl) (by kernel_rfl) fun R k d=>
  loop_eq (st:=fun (x:Int×Int×List Int)=>([(16,(.data (.int .i64) x.1)),(15,(.data (.int .i64) x.2.1)),(13,(.ref 0 [] 0)),(3,(.data (.sl false (.int .i64)) d.1.2.2.2.1)),(2,(.data (.sl false (.int .i64)) d.1.2.2.2.2.1)),(4,(.bptr 1 [])),(1,(.data (.sl false (.int .i64)) d.1.2.2.2.2.2.2.1)),(10,(.data (.int .i64) d.1.2.2.2.2.2.2.2.1)),(12,(.data (.int .i64) d.1.2.2.2.2.2.2.2.2.1)),(9,(.data (.int .i64) d.1.2.2.2.2.2.2.2.2.2.1))],[.row (.int .i64) x.2.2 0,.cell (.data (.pair (.int .i64) (.pair (.sl false (.arr 2 (.int .i64))) .unit)) d.2.2.1)])) (s18_13 N k d.1.2.2.2.1 d.1.2.2.2.2.1 d.1.2.2.2.2.2.2.1 d.1.2.2.2.2.2.2.2.1 d.1.2.2.2.2.2.2.2.2.1 d.1.2.2.2.2.2.2.2.2.2.1 d.2.2.1) N (d.1.1,d.1.2.1,d.2.1)
theorem s18_8 (N:Nat) {R:Type} (k:AExit→St→Option R) (t3_1:List Int) (t2_1:List Int) (t1_1:List Int) (t10_2:Int) (o0_1:(Int×(List (List Int)×Unit))) (kb:List (Nat×AVal)→List Obj→Option R) (x:Int×Int):codeK (x18 N) (loopAt 8 (loopsOf b18)) (St.of [(12,(.data (.int .i64) x.1)),(3,(.data (.sl false (.int .i64)) t3_1)),(2,(.data (.sl false (.int .i64)) t2_1)),(4,(.bptr 0 [])),(9,(.data (.int .i64) x.2)),(1,(.data (.sl false (.int .i64)) t1_1)),(10,(.data (.int .i64) t10_2))] [.cell (.data (.pair (.int .i64) (.pair (.sl false (.arr 2 (.int .i64))) .unit)) o0_1)]) (kLoop (x18 N) 8 ⟨[12,3,2,4,9,1,10],[]⟩ kb k)=f18_L8 N t3_1 t2_1 t1_1 t10_2 o0_1 (fun y=>kb [(12,(.data (.int .i64) y.1)),(3,(.data (.sl false (.int .i64)) t3_1)),(2,(.data (.sl false (.int .i64)) t2_1)),(4,(.bptr 0 [])),(9,(.data (.int .i64) y.2)),(1,(.data (.sl false (.int .i64)) t1_1)),(10,(.data (.int .i64) t10_2))] [.cell (.data (.pair (.int .i64) (.pair (.sl false (.arr 2 (.int .i64))) .unit)) o0_1)])
  (fun y0=>k (.exit 2) (St.of [(9,(.data (.int .i64) y0))] [])) x:=by kernel_rfl
theorem l18_8 (N:Nat):LoopOK (x18 N) (loopAt 8 (loopsOf b18)):=
 loop_mk (G18_8 N) (by kernel_rfl) (by kernel_rfl) (by kernel_rfl) fun R k d=>
  loop_eq (st:=fun (x:Int×Int)=>([(12,(.data (.int .i64) x.1)),(3,(.data (.sl false (.int .i64)) d.1.2.1)),(2,(.data (.sl false (.int .i64)) d.1.2.2.1)),(4,(.bptr 0 [])),(9,(.data (.int .i64) x.2)),(1,(.data (.sl false (.int .i64)) d.1.2.2.2.2.2.1)),(10,(.data (.int .i64) d.1.2.2.2.2.2.2.1))],[.cell (.data (.pair (.int .i64) (.pair (.sl false (.arr 2 (.int .i64))) .unit)) d.2.1)])) (s18_8 N k d.1.2.1 d.1.2.2.1 d.1.2.2.2.2.2.1 d.1.2.2.2.2.2.2.1 d.2.1) N (d.1.1,d.1.2.2.2.2.1)
theorem e18 (N:Nat) (a0:(Int×(List (List Int)×Unit))) (a1:List Int) (a2:List Int) (a3:List Int):bodyK (x18 N) [(.int .i64)] [.tmp 8] b18 (entry (.pr (.val (.pair (.int .i64) (.pair (.sl false (.arr 2 (.int .i64))) .unit))) (.pr (.val (.sl false (.int .i64))) (.pr (.val (.sl false (.int .i64))) (.pr (.val (.sl false (.int .i64))) .un)))) (a0,(a1,(a2,(a3,())))))=f18 N a0 a1 a2 a3:=by kernel_rfl
theorem k18 (N:Nat):CalleeOK Go.Proofs.Try.prog 18 (c18 N):=
 fn_ok (fn:=Go.Proofs.Try.f18) (body:=b18) (c:=x18 N) Go.Proofs.Try.func18 (by kernel_rfl) (by kernel_rfl) ⟨ttL_ok,mtL_ok,eqL_ok,ctL_ok,msL_ok,env_cons (forall_mem1 (k15 N)) (env_cons (forall_mem1 (k33 N)) (env_nil))⟩ mixed (by kernel_rfl) (Nat.le_of_ble_eq_true (by kernel_rfl)) (by kernel_rfl) (by decide)
  (loops_ok (by kernel_rfl:loopsOf b18=[loopAt 4 (loopsOf b18),loopAt 8 (loopsOf b18),loopAt 13 (loopsOf b18)]) (.cons (l18_4 N) (.cons (l18_8 N) (.cons (l18_13 N) .nil)))) fun d=>e18 N d.1 d.2.1 d.2.2.1 d.2.2.2.1
def f4 (N:Nat) (a0:((Int×(List (List Int)×Unit))×(List Int×(List Int×(List Int×Unit))))):Option (Bool):=
 (f11 N).bind fun r=>
 cond (!r)
  (some false)
  ((f12 N a0 6 20).bind fun r_1=>
  (cond (!r_1)
    (some true)
    ((f17 N (a0.1.1,a0.1.2) a0.2.1 a0.2.2.1 a0.2.2.2.1).bind fun r_2=>
    some (!(decide (r_2=0))))).bind fun b=>
  cond b
   (some true)
   ((f13 N (a0.1.1,a0.1.2) a0.2.1 a0.2.2.1 a0.2.2.2.1).bind fun r_3=>
   (f18 N (a0.1.1,a0.1.2) a0.2.1 a0.2.2.1 a0.2.2.2.1).bind fun r_4=>
   cond (decide (r_4 < 0))
    (some (decide (r_3.2.2.2=11)))
    ((cond (decide (r_3.2.2.2=0))
      (some (decide (r_3.2.2.1=r_4)))
      (some false)).bind fun b_1=>
    some b_1)))
def c4 (N:Nat):Callee:=.pure (.pr (.val (.pair (.pair (.int .i64) (.pair (.sl false (.arr 2 (.int .i64))) .unit)) (.pair (.sl false (.int .i64)) (.pair (.sl false (.int .i64)) (.pair (.sl false (.int .i64)) .unit))))) .un) [.bool] fun d=>f4 N d.1
def lp4 (N:Nat):Nat→Option LoopFn:=fun r=>none
def x4 (N:Nat):Ctx:={ fuel:=N,tt:=getL ttL,mt:=getL mtL,ntmps:=59,env:=fun f=>(getL [(11,[c11 N]),(12,[c12 N]),(17,[c17 N]),(13,[c13 N]),(18,[c18 N])] f).getD [],cut:=getL [],exits:=fun r=>getL ((getL [] r).getD []),res:=⟨[2],[]⟩,own:=fun _=>none,lp:=lp4 N,eqs:=fun T=>memN T eqL,ct:=fun T=>memN T ctL,ms:=getMs msL }
noncomputable def b4:Code:=((Go.Proofs.Try.f4).body).getD .skip
theorem e4 (N:Nat) (a0:((Int×(List (List Int)×Unit))×(List Int×(List Int×(List Int×Unit))))):bodyK (x4 N) [.bool] [.tmp 2] b4 (entry (.pr (.val (.pair (.pair (.int .i64) (.pair (.sl false (.arr 2 (.int .i64))) .unit)) (.pair (.sl false (.int .i64)) (.pair (.sl false (.int .i64)) (.pair (.sl false (.int .i64)) .unit))))) .un) (a0,()))=f4 N a0:=by kernel_rfl
theorem k4 (N:Nat):CalleeOK Go.Proofs.Try.prog 4 (c4 N):=
 fn_ok (fn:=Go.Proofs.Try.f4) (body:=b4) (c:=x4 N) Go.Proofs.Try.func4 (by kernel_rfl) (by kernel_rfl) ⟨ttL_ok,mtL_ok,eqL_ok,ctL_ok,msL_ok,env_cons (forall_mem1 (k11 N)) (env_cons (forall_mem1 (k12 N)) (env_cons (forall_mem1 (k17 N)) (env_cons (forall_mem1 (k13 N)) (env_cons (forall_mem1 (k18 N)) (env_nil)))))⟩ mixed (by kernel_rfl) (Nat.le_of_ble_eq_true (by kernel_rfl)) (by kernel_rfl) (by decide)
  (loops_ok (by kernel_rfl:loopsOf b4=[]) .nil) fun d=>e4 N d.1
def f20_L8 {R:Type} (N:Nat) (t10_1:Int) (t3_1:List (List Int)) (t2_1:List Int) (t1_1:List Int) (o1_1:(Int×(List (List Int)×Unit))) (kb:Int×List Int→Option R) (kret:Bool→Option R) (kx2:(List Int)→Option R):Int×List Int→Option R:=
 fun (t11,o0_1)=>
  (idx t3_1 t10_1).bind fun x_1=>
  cond (decide (t11 < (len x_1)))
   ((idx t3_1 t10_1).bind fun x_2=>
   (idx x_2 t11).bind fun x_3=>
   (f40 N o0_1 x_3).bind fun r_1=>
   cond r_1
    (kret false)
    ((idx t3_1 t10_1).bind fun x_4=>
    (idx x_4 t11).bind fun x_5=>
    chk (decide ((Nat.succ (List.length o0_1))≤room)) <|
    kb ((wi64 (t11+1)),(o0_1++(x_5 :: ([]:List Int))))))
   (kx2 o0_1)
def f20_L3 {R:Type} (N:Nat) (t3:List (List Int)) (t2:List Int) (t1:List Int) (o1:(Int×(List (List Int)×Unit))) (kb:Int×List Int→Option R) (kret:Bool→Option R) (kx0:Unit→Option R):Int×List Int→Option R:=
 fun (t10,o0)=>
  cond (decide (t10 < (len t3)))
   ((idx t3 t10).bind fun x=>
   (f35 N o1 t1 t2 x).bind fun r=>
   cond (!r)
    (kret false)
    (iter (fun w=>f20_L8 N t10 t3 t2 t1 o1 w
     (fun t8=>
      kret t8)
     (fun o0_2=>
      kb ((wi64 (t10+1)),o0_2))) N (0,o0)))
   (kx0 ())
def f20 (N:Nat) (a0:(Int×(List (List Int)×Unit))) (a1:List Int) (a2:List Int) (a3:List (List Int)):Option (Bool):=
 iter (fun w=>f20_L3 N a3 a2 a1 a0 w
  (fun t8_1=>
   some t8_1)
  (fun (_:Unit)=>
   some true)) N (0,([]:List Int))
def c20 (N:Nat):Callee:=.pure (.pr (.val (.pair (.int .i64) (.pair (.sl false (.arr 2 (.int .i64))) .unit))) (.pr (.val (.sl false (.int .i64))) (.pr (.val (.sl false (.int .i64))) (.pr (.val (.sl false (.sl false (.int .i64)))) .un)))) [.bool] fun d=>f20 N d.1 d.2.1 d.2.2.1 d.2.2.2.1
def F20_8:SForm:=⟨[(11,(.val (.int .i64))),(10,(.val (.int .i64))),(3,(.val (.sl false (.sl false (.int .i64))))),(9,(.ref 0)),(2,(.val (.sl false (.int .i64)))),(1,(.val (.sl false (.int .i64)))),(4,(.bptr 1 []))],[.row (.int .i64),.cell (.val (.pair (.int .i64) (.pair (.sl false (.arr 2 (.int .i64))) .unit)))]⟩
def G20_8 (N:Nat):(R:Type)→F20_8.den→(AExit→St→Option R)→Option R:=fun R d k=>iter (fun kb=>f20_L8 N d.1.2.1 d.1.2.2.1 d.1.2.2.2.2.1 d.1.2.2.2.2.2.1 d.2.2.1 kb
  (fun y0=>k .ret (St.of [(8,(.data .bool y0))] []))
  (fun y4=>k (.exit 2) (St.of [(3,(.data (.sl false (.sl false (.int .i64))) d.1.2.2.1)),(9,(.ref 0 [] 0)),(2,(.data (.sl false (.int .i64)) d.1.2.2.2.2.1)),(1,(.data (.sl false (.int .i64)) d.1.2.2.2.2.2.1)),(4,(.bptr 1 [])),(10,(.data (.int .i64) d.1.2.1))] [.row (.int .i64) y4 0,.cell (.data (.pair (.int .i64) (.pair (.sl false (.arr 2 (.int .i64))) .unit)) d.2.2.1)]))) N (d.1.1,d.2.1)
def F20_3:SForm:=⟨[(10,(.val (.int .i64))),(3,(.val (.sl false (.sl false (.int .i64))))),(9,(.ref 0)),(2,(.val (.sl false (.int .i64)))),(1,(.val (.sl false (.int .i64)))),(4,(.bptr 1 []))],[.row (.int .i64),.cell (.val (.pair (.int .i64) (.pair (.sl false (.arr 2 (.int .i64))) .unit)))]⟩
def G20_3 (N:Nat):(R:Type)→F20_3.den→(AExit→St→Option R)→Option R:=fun R d k=>iter (fun kb=>f20_L3 N d.1.2.1 d.1.2.2.2.1 d.1.2.2.2.2.1 d.2.2.1 kb
  (fun y0=>k .ret (St.of [(8,(.data .bool y0))] []))
  (fun _=>k (.exit 0) (St.of [] []))) N (d.1.1,d.2.1)
def lp20 (N:Nat):Nat→Option LoopFn:=fun r=>cond (Nat.beq r 8) (some fun R sl os k=>F20_8.take sl os fun d=>G20_8 N R d k) (cond (Nat.beq r 3) (some fun R sl os k=>F20_3.take sl os fun d=>G20_3 N R d k) (none))
def x20 (N:Nat):Ctx:={ fuel:=N,tt:=getL ttL,mt:=getL mtL,ntmps:=56,env:=fun f=>(getL [(35,[c35 N]),(40,[c40 N])] f).getD [],cut:=getL [(3,⟨[10,3,9,2,1,4],[]⟩),(8,⟨[11,10,3,9,2,1,4],[]⟩)],exits:=fun r=>getL ((getL [(3,[(0,⟨[],[]⟩)]),(8,[(2,⟨[3,9,2,1,4,10],[]⟩)])] r).getD []),res:=⟨[8],[]⟩,own:=fun _=>none,lp:=lp20 N,eqs:=fun T=>memN T eqL,ct:=fun T=>memN T ctL,ms:=getMs msL }
noncomputable def b20:Code:=((Go.Proofs.Try.f20).body).getD .skip
theorem s20_8 (N:Nat) {R:Type} (k:AExit→St→Option R) (t10_1:Int) (t3_1:List (List Int)) (t2_1:List Int) (t1_1:List Int) (o1_1:(Int×(List (List Int)×Unit))) (kb:List (Nat×AVal)→List Obj→Option R) (x:Int×List Int):codeK (x20 N) (loopAt 8 (loopsOf b20)) (St.of [(11,(.data (.int .i64) x.1)),(10,(.data (.int .i64) t10_1)),(3,(.data (.sl false (.sl false (.int .i64))) t3_1)),(9,(.ref 0 [] 0)),(2,(.data (.sl false (.int .i64)) t2_1)),(1,(.data (.sl false (.int .i64)) t1_1)),(4,(.bptr 1 []))] [.row (.int .i64) x.2 0,.cell (.data (.pair (.int .i64) (.pair (.sl false (.arr 2 (.int .i64))) .unit)) o1_1)]) (kLoop (x20 N) 8 ⟨[11,10,3,9,2,1,4],[]⟩ kb k)=f20_L8 N t10_1 t3_1 t2_1 t1_1 o1_1 (fun y=>kb [(11,(.data (.int .i64) y.1)),(10,(.data (.int .i64) t10_1)),(3,(.data (.sl false (.sl false (.int .i64))) t3_1)),(9,(.ref 0 [] 0)),(2,(.data (.sl false (.int .i64)) t2_1)),(1,(.data (.sl false (.int .i64)) t1_1)),(4,(.bptr 1 []))] [.row (.int .i64) y.2 0,.cell (.data (.pair (.int .i64) (.pair (.sl false (.arr 2 (.int .i64))) .unit)) o1_1)])
  (fun y0=>k .ret (St.of [(8,(.data .bool y0))] []))
  (fun y4=>k (.exit 2) (St.of [(3,(.data (.sl false (.sl false (.int .i64))) t3_1)),(9,(.ref 0 [] 0)),(2,(.data (.sl false (.int .i64)) t2_1)),(1,(.data (.sl false (.int .i64)) t1_1)),(4,(.bptr 1 [])),(10,(.data (.int .i64) t10_1))] [.row (.int .i64) y4 0,.cell (.data (.pair (.int .i64) (.pair (.sl false (.arr 2 (.int .i64))) .unit)) o1_1)])) x:=by kernel_rfl
theorem l20_8 (N:Nat):LoopOK (x20 N) (loopAt 8 (loopsOf b20)):=
 loop_mk (G20_8 N) (by kernel_rfl) (by kernel_rfl) (by kernel_rfl) fun R k d=>
  loop_eq (st:=fun (x:Int×List Int)=>([(11,(.data (.int .i64) x.1)),(10,(.data (.int .i64) d.1.2.1)),(3,(.data (.sl false (.sl false (.int .i64))) d.1.2.2.1)),(9,(.ref 0 [] 0)),(2,(.data (.sl false (.int .i64)) d.1.2.2.2.2.1)),(1,(.data (.sl false (.int .i64)) d.1.2.2.2.2.2.1)),(4,(.bptr 1 []))],[.row (.int .i64) x.2 0,.cell (.data (.pair (.int .i64) (.pair (.sl false (.arr 2 (.int .i64))) .unit)) d.2.2.1)])) (s20_8 N k d.1.2.1 d.1.2.2.1 d.1.2.2.2.2.1 d.1.2.2.2.2.2.1 d.2.2.1) N (d.1.1,d.2.1)
theorem s20_3 (N:Nat) {R:Type} (k:AExit→St→Option R) (t3:List (List Int)) (t2:List Int) (t1:List Int) (o1:(Int×(List (List Int)×Unit))) (kb:List (Nat×AVal)→List Obj→Option R) (x:Int×List Int):codeK (x20 N) (loopAt 3 (loopsOf b20)) (St.of [(10,(.data (.int .i64) x.1)),(3,(.data (.sl false (.sl false (.int .i64))) t3)),(9,(.ref 0 [] 0)),(2,(.data (.sl false (.int .i64)) t2)),(1,(.data (.sl false (.int .i64)) t1)),(4,(.bptr 1 []))] [.row (.int .i64) x.2 0,.cell (.data (.pair (.int .i64) (.pair (.sl false (.arr 2 (.int .i64))) .unit)) o1)]) (kLoop (x20 N) 3 ⟨[10,3,9,2,1,4],[]⟩ kb k)=f20_L3 N t3 t2 t1 o1 (fun y=>kb [(10,(.data (.int .i64) y.1)),(3,(.data (.sl false (.sl false (.int .i64))) t3)),(9,(.ref 0 [] 0)),(2,(.data (.sl false (.int .i64)) t2)),(1,(.data (.sl false (.int .i64)) t1)),(4,(.bptr 1 []))] [.row (.int .i64) y.2 0,.cell (.data (.pair (.int .i64) (.pair (.sl false (.arr 2 (.int .i64))) .unit)) o1)])
  (fun y0=>k .ret (St.of [(8,(.data .bool y0))] []))
  (fun _=>k (.exit 0) (St.of [] [])) x:=by kernel_rfl
theorem l20_3 (N:Nat):LoopOK (x20 N) (loopAt 3 (loopsOf b20)):=
 loop_mk (G20_3 N) (by kernel_rfl) (by kernel_rfl) (by kernel_rfl) fun R k d=>
  loop_eq (st:=fun (x:Int×List Int)=>([(10,(.data (.int .i64) x.1)),(3,(.data (.sl false (.sl false (.int .i64))) d.1.2.1)),(9,(.ref 0 [] 0)),(2,(.data (.sl false (.int .i64)) d.1.2.2.2.1)),(1,(.data (.sl false (.int .i64)) d.1.2.2.2.2.1)),(4,(.bptr 1 []))],[.row (.int .i64) x.2 0,.cell (.data (.pair (.int .i64) (.pair (.sl false (.arr 2 (.int .i64))) .unit)) d.2.2.1)])) (s20_3 N k d.1.2.1 d.1.2.2.2.1 d.1.2.2.2.2.1 d.2.2.1) N (d.1.1,d.2.1)
theorem e20 (N:Nat) (a0:(Int×(List (List Int)×Unit))) (a1:List Int) (a2:List Int) (a3:List (List Int)):bodyK (x20 N) [.bool] [.tmp 8] b20 (entry (.pr (.val (.pair (.int .i64) (.pair (.sl false (.arr 2 (.int .i64))) .unit))) (.pr (.val (.sl false (.int .i64))) (.pr (.val (.sl false (.int .i64))) (.pr (.val (.sl false (.sl false (.int .i64)))) .un)))) (a0,(a1,(a2,(a3,())))))=f20 N a0 a1 a2 a3:=by kernel_rfl
theorem k20 (N:Nat):CalleeOK Go.Proofs.Try.prog 20 (c20 N):=
 fn_ok (fn:=Go.Proofs.Try.f20) (body:=b20) (c:=x20 N) Go.Proofs.Try.func20 (by kernel_rfl) (by kernel_rfl) ⟨ttL_ok,mtL_ok,eqL_ok,ctL_ok,msL_ok,env_cons (forall_mem1 (k35 N)) (env_cons (forall_mem1 (k40 N)) (env_nil))⟩ mixed (by kernel_rfl) (Nat.le_of_ble_eq_true (by kernel_rfl)) (by kernel_rfl) (by decide)
  (loops_ok (by kernel_rfl:loopsOf b20=[loopAt 3 (loopsOf b20),loopAt 8 (loopsOf b20)]) (.cons (l20_3 N) (.cons (l20_8 N) .nil))) fun d=>e20 N d.1 d.2.1 d.2.2.1 d.2.2.2.1
def f5_L8 {R:Type} (N:Nat) (t7:List (List Int)) (t8:Int) (t2:List Int) (t1:List Int) (t32:Int) (o1:(Int×(List (List Int)×Unit))) (kb:Int×List Int→Option R) (kx0:(List Int)→Option R):Int×List Int→Option R:=
 fun (t33,o0)=>
  cond (decide (t33 < t32))
   (chk (decide ((Nat.succ (List.length o0))≤room)) <|
   kb ((wi64 (t33+1)),(o0++(1 :: ([]:List Int)))))
   (kx0 o0)
def f5 (N:Nat) (a0:(Int×(List (List Int)×Unit))) (a1:List Int) (a2:List Int):Option (Bool):=
 (f11 N).bind fun r=>
 cond (!r)
  (some false)
  ((f12 N (a0,(([]:List Int),(a1,(a2,())))) 12 60).bind fun r_1=>
  cond (!r_1)
   (some true)
   ((f19 N a0 a1 a2).bind fun r_2=>
   iter (fun w=>f5_L8 N r_2.1 r_2.2 a2 a1 a0.1 a0 w
    (fun o1_1=>
     (f17 N a0 o1_1 a1 a2).bind fun r_3=>
     cond (!(decide (r_3=0)))
      ((cond (decide (r_2.2=r_3))
        (some (decide ((len r_2.1)=0)))
        (some false)).bind fun b=>
      some b)
      ((f13 N a0 o1_1 a1 a2).bind fun r_4=>
      (cond (decide (r_2.2=0))
        (some (decide (r_4.2.2.2=0)))
        (some false)).bind fun b_1=>
      (cond b_1
        ((f20 N a0 a1 a2 r_2.1).bind fun r_5=>
        some r_5)
        (some false)).bind fun b_2=>
      (cond b_2
        (some (decide ((len r_2.1)=r_4.2.2.1)))
        (some false)).bind fun b_3=>
      (cond b_3
        (some (decide ((len r_4.1)=r_4.2.2.1)))
        (some false)).bind fun b_4=>
      some b_4))) N (0,([]:List Int))))
def c5 (N:Nat):Callee:=.pure (.pr (.val (.pair (.int .i64) (.pair (.sl false (.arr 2 (.int .i64))) .unit))) (.pr (.val (.sl false (.int .i64))) (.pr (.val (.sl false (.int .i64))) .un))) [.bool] fun d=>f5 N d.1 d.2.1 d.2.2.1
def F5_8:SForm:=⟨[(33,(.val (.int .i64))),(9,(.ref 0)),(7,(.val (.sl false (.sl false (.int .i64))))),(8,(.val (.int .i64))),(2,(.val (.sl false (.int .i64)))),(1,(.val (.sl false (.int .i64)))),(3,(.bptr 1 [])),(32,(.val (.int .i64)))],[.row (.int .i64),.cell (.val (.pair (.int .i64) (.pair (.sl false (.arr 2 (.int .i64))) .unit)))]⟩
def G5_8 (N:Nat):(R:Type)→F5_8.den→(AExit→St→Option R)→Option R:=fun R d k=>iter (fun kb=>f5_L8 N d.1.2.2.1 d.1.2.2.2.1 d.1.2.2.2.2.1 d.1.2.2.2.2.2.1 d.1.2.2.2.2.2.2.2.1 d.2.2.1 kb
  (fun y5=>k (.exit 0) (St.of [(7,(.data (.sl false (.sl false (.int .i64))) d.1.2.2.1)),(8,(.data (.int .i64) d.1.2.2.2.1)),(2,(.data (.sl false (.int .i64)) d.1.2.2.2.2.1)),(1,(.data (.sl false (.int .i64)) d.1.2.2.2.2.2.1)),(3,(.bptr 0 [])),(9,(.ref 1 [] 0))] [.cell (.data (.pair (.int .i64) (.pair (.sl false (.arr 2 (.int .i64))) .unit)) d.2.2.1),.row (.int .i64) y5 0]))) N (d.1.1,d.2.1)
def lp5 (N:Nat):Nat→Option LoopFn:=fun r=>cond (Nat.beq r 8) (some fun R sl os k=>F5_8.take sl os fun d=>G5_8 N R d k) (none)
def x5 (N:Nat):Ctx:={ fuel:=N,tt:=getL ttL,mt:=getL mtL,ntmps:=89,env:=fun f=>(getL [(11,[c11 N]),(12,[c12 N]),(19,[c19 N]),(17,[c17 N]),(13,[c13 N]),(20,[c20 N])] f).getD [],cut:=getL [(8,⟨[33,9,7,8,2,1,3,32],[]⟩)],exits:=fun r=>getL ((getL [(8,[(0,⟨[7,8,2,1,3,9],[]⟩)])] r).getD []),res:=⟨[6],[]⟩,own:=fun _=>none,lp:=lp5 N,eqs:=fun T=>memN T eqL,ct:=fun T=>memN T ctL,ms:=getMs msL }
noncomputable def b5:Code:=((Go.Proofs.Try.f5).body).getD .skip
theorem s5_8 (N:Nat) {R:Type} (k:AExit→St→Option R) (t7:List (List Int)) (t8:Int) (t2:List Int) (t1:List Int) (t32:Int) (o1:(Int×(List (List Int)×Unit))) (kb:List (Nat×AVal)→List Obj→Option R) (x:Int×List Int):codeK (x5 N) (loopAt 8 (loopsOf b5)) (St.of [(33,(.data (.int .i64) x.1)),(9,(.ref 0 [] 0)),(7,(.data (.sl false (.sl false (.int .i64))) t7)),(8,(.data (.int .i64) t8)),(2,(.data (.sl false (.int .i64)) t2)),(1,(.data (.sl false (.int .i64)) t1)),(3,(.bptr 1 [])),(32,(.data (.int .i64) t32))] [.row (.int .i64) x.2 0,.cell (.data (.pair (.int .i64) (.pair (.sl false (.arr 2 (.int .i64))) .unit)) o1)]) (kLoop (x5 N) 8 ⟨[33,9,7,8,2,1,3,32],[]⟩ kb k)=f5_L8 N t7 t8 t2 t1 t32 o1 (fun y=>kb [(33,(.data (.int .i64) y.1)),(9,(.ref 0 [] 0)),(7,(.data (.sl false (.sl false (.int .i64))) t7)),(8,(.data (.int .i64) t8)),(2,(.data (.sl false (.int .i64)) t2)),(1,(.data (.sl false (.int .i64)) t1)),(3,(.bptr 1 [])),(32,(.data (.int .i64) t32))] [.row (.int .i64) y.2 0,.cell (.data (.pair (.int .i64) (.pair (.sl false (.arr 2 (.int .i64))) .unit)) o1)])
  (fun y5=>k (.exit 0) (St.of [(7,(.data (.sl false (.sl false (.int .i64))) t7)),(8,(.data (.int .i64) t8)),(2,(.data (.sl false (.int .i64)) t2)),(1,(.data (.sl false (.int .i64)) t1)),(3,(.bptr 0 [])),(9,(.ref 1 [] 0))] [.cell (.data (.pair (.int .i64) (.pair (.sl false (.arr 2 (.int .i64))) .unit)) o1),.row (.int .i64) y5 0])) x:=by kernel_rfl
theorem l5_8 (N:Nat):LoopOK (x5 N) (loopAt 8 (loopsOf b5)):=
 loop_mk (G5_8 N) (by kernel_rfl) (by kernel_rfl) (by kernel_rfl) fun R k d=>
  loop_eq (st:=fun (x:Int×List Int)=>([(33,(.data (.int .i64) x.1)),(9,(.ref 0 [] 0)),(7,(.data (.sl false (.sl false (.int .i64))) d.1.2.2.1)),(8,(.data (.int .i64) d.1.2.2.2.1)),(2,(.data (.sl false (.int .i64)) d.1.2.2.2.2.1)),(1,(.data (.sl false (.int .i64)) d.1.2.2.2.2.2.1)),(3,(.bptr 1 [])),(32,(.data (.int .i64) d.1.2.2.2.2.2.2.2.1))],[.row (.int .i64) x.2 0,.cell (.data (.pair (.int .i64) (.pair (.sl false (.arr 2 (.int .i64))) .unit)) d.2.2.1)])) (s5_8 N k d.1.2.2.1 d.1.2.2.2.1 d.1.2.2.2.2.1 d.1.2.2.2.2.2.1 d.1.2.2.2.2.2.2.2.1 d.2.2.1) N (d.1.1,d.2.1)
theorem e5 (N:Nat) (a0:(Int×(List (List Int)×Unit))) (a1:List Int) (a2:List Int):bodyK (x5 N) [.bool] [.tmp 6] b5 (entry (.pr (.val (.pair (.int .i64) (.pair (.sl false (.arr 2 (.int .i64))) .unit))) (.pr (.val (.sl false (.int .i64))) (.pr (.val (.sl false (.int .i64))) .un))) (a0,(a1,(a2,()))))=f5 N a0 a1 a2:=by kernel_rfl
theorem k5 (N:Nat):CalleeOK Go.Proofs.Try.prog 5 (c5 N):=
 fn_ok (fn:=Go.Proofs.Try.f5) (body:=b5) (c:=x5 N) Go.Proofs.Try.func5 (by kernel_rfl) (by kernel_rfl) ⟨ttL_ok,mtL_ok,eqL_ok,ctL_ok,msL_ok,env_cons (forall_mem1 (k11 N)) (env_cons (forall_mem1 (k12 N)) (env_cons (forall_mem1 (k19 N)) (env_cons (forall_mem1 (k17 N)) (env_cons (forall_mem1 (k13 N)) (env_cons (forall_mem1 (k20 N)) (env_nil))))))⟩ mixed (by kernel_rfl) (Nat.le_of_ble_eq_true (by kernel_rfl)) (by kernel_rfl) (by decide)
  (loops_ok (by kernel_rfl:loopsOf b5=[loopAt 8 (loopsOf b5)]) (.cons (l5_8 N) .nil)) fun d=>e5 N d.1 d.2.1 d.2.2.1
def f6_L7 {R:Type} (N:Nat) (t25:List (List Int)) (t26:Int) (o0:Int) (o2:((Int×(List (List Int)×Unit))×(List Int×(List Int×(List Int×Unit))))) (kb:Int×List (List Int)→Option R) (kx0:(List (List Int))→Option R):Int×List (List Int)→Option R:=
 fun (t27,o1)=>
  cond (decide (t27 < t26))
   ((idx t25 t27).bind fun x=>
   chk (inb x 1) <|
   (idx x 1).bind fun x_1=>
   chk (inb x 0) <|
   (idx x 0).bind fun x_2=>
   chk (decide ((Nat.succ (List.length o1))≤room)) <|
   kb ((wi64 (t27+1)),(o1++((x_1 :: (x_2 :: ([]:List Int))) :: ([]:List (List Int))))))
   (kx0 o1)
def f6 (N:Nat) (a0:((Int×(List (List Int)×Unit))×(List Int×(List Int×(List Int×Unit))))):Option (Bool):=
 (f11 N).bind fun r=>
 cond (!r)
  (some false)
  ((f12 N a0 12 60).bind fun r_1=>
  cond (!r_1)
   (some true)
   (iter (fun w=>f6_L7 N a0.1.2.1 (len a0.1.2.1) a0.1.1 a0 w
    (fun o2_1=>
     (f13 N (a0.1.1,a0.1.2) a0.2.1 a0.2.2.1 a0.2.2.2.1).bind fun r_2=>
     (f13 N (a0.1.1,(o2_1,())) a0.2.1 a0.2.2.2.1 a0.2.2.1).bind fun r_3=>
     (cond (decide (r_2.2.2.1=r_3.2.2.1))
       (some (decide (r_2.2.2.2=r_3.2.2.2)))
       (some false)).bind fun b=>
     some b)) N (0,([]:List (List Int)))))
def F6_7:SForm:=⟨[(27,(.val (.int .i64))),(3,(.bptr 0 [])),(25,(.val (.sl false (.arr 2 (.int .i64))))),(1,(.bptr 2 [])),(26,(.val (.int .i64)))],[.cell (.agg (.pr (.val (.int .i64)) (.pr (.ref 1) .un))),.row (.arr 2 (.int .i64)),.cell (.val (.pair (.pair (.int .i64) (.pair (.sl false (.arr 2 (.int .i64))) .unit)) (.pair (.sl false (.int .i64)) (.pair (.sl false (.int .i64)) (.pair (.sl false (.int .i64)) .unit)))))]⟩
def G6_7 (N:Nat):(R:Type)→F6_7.den→(AExit→St→Option R)→Option R:=fun R d k=>iter (fun kb=>f6_L7 N d.1.2.2.1 d.1.2.2.2.2.1 d.2.1.1 d.2.2.2.1 kb
  (fun y2=>k (.exit 0) (St.of [(1,(.bptr 0 [])),(3,(.bptr 1 []))] [.cell (.data (.pair (.pair (.int .i64) (.pair (.sl false (.arr 2 (.int .i64))) .unit)) (.pair (.sl false (.int .i64)) (.pair (.sl false (.int .i64)) (.pair (.sl false (.int .i64)) .unit)))) d.2.2.2.1),.cell (.agg (.pr (.data (.int .i64) d.2.1.1) (.pr (.ref 2 [] 0) .un))),.row (.arr 2 (.int .i64)) y2 0]))) N (d.1.1,d.2.2.1)
def lp6 (N:Nat):Nat→Option LoopFn:=fun r=>cond (Nat.beq r 7) (some fun R sl os k=>F6_7.take sl os fun d=>G6_7 N R d k) (none)
def x6 (N:Nat):Ctx:={ fuel:=N,tt:=getL ttL,mt:=getL mtL,ntmps:=77,env:=fun f=>(getL [(11,[c11 N]),(12,[c12 N]),(13,[c13 N])] f).getD [],cut:=getL [(7,⟨[27,3,25,1,26],[(3,some [.snd,.fst],.row (.arr 2 (.int .i64)))]⟩)],exits:=fun r=>getL ((getL [(7,[(0,⟨[1,3],[]⟩)])] r).getD []),res:=⟨[2],[]⟩,own:=fun _=>none,lp:=lp6 N,eqs:=fun T=>memN T eqL,ct:=fun T=>memN T ctL,ms:=getMs msL }
noncomputable def b6:Code:=((Go.Proofs.Try.f6).body).getD .skip
theorem e6 (N:Nat) (a0:((Int×(List (List Int)×Unit))×(List Int×(List Int×(List Int×Unit))))):bodyK (x6 N) [.bool] [.tmp 2] b6 (entry (.pr (.val (.pair (.pair (.int .i64) (.pair (.sl false (.arr 2 (.int .i64))) .unit)) (.pair (.sl false (.int .i64)) (.pair (.sl false (.int .i64)) (.pair (.sl false (.int .i64)) .unit))))) .un) (a0,()))=f6 N a0:=by kernel_rfl
def f7 (N:Nat) (a0:((Int×(List (List Int)×Unit))×(List Int×(List Int×(List Int×Unit))))) (a1:List Int) (a2:Int):Option (Bool):=
 (f11 N).bind fun r=>
 cond (!r)
  (some false)
  ((f12 N a0 12 60).bind fun r_1=>
  cond (!r_1)
   (some true)
   ((f21 N a0.1.2.1).bind fun r_2=>
   chk (decide ((Nat.succ (List.length r_2))≤room)) <|
   (f22 N a0.2.1).bind fun r_3=>
   (cond (decide (0≤a2))
     (some (decide (a2 < (len r_3))))
     (some false)).bind fun b=>
   (cond b
     (chk (inb r_3 a2) <|
     (idx r_3 a2).bind fun x=>
     some (decide (0≤x)))
     (some false)).bind fun b_1=>
   (cond b_1
     (chk (inb r_3 a2) <|
     (idx r_3 a2).bind fun x_1=>
     some (decide (x_1 < 1048576)))
     (some false)).bind fun b_2=>
   cond b_2
    (chk (inb r_3 a2) <|
    (idx r_3 a2).bind fun x_2=>
    chk (inb r_3 a2) <|
    (idx r_3 a2).bind fun x_3=>
    (idx r_3 a2).bind fun x_4=>
    (f13 N (a0.1.1,a0.1.2) a0.2.1 a0.2.2.1 a0.2.2.2.1).bind fun r_4=>
    (f13 N (a0.1.1,((r_2++(a1 :: ([]:List (List Int)))),())) (setI r_3 a2 (wi64 (x_2+1))) a0.2.2.1 a0.2.2.2.1).bind fun r_5=>
    (cond (!(decide (r_4.2.2.2=0)))
      (some true)
      (some (!(decide (r_5.2.2.2=0))))).bind fun b_3=>
    cond b_3
     (some (!(decide (r_5.2.2.2=0))))
     (some (decide (r_4.2.2.1≤r_5.2.2.1))))
    ((f13 N (a0.1.1,a0.1.2) a0.2.1 a0.2.2.1 a0.2.2.2.1).bind fun r_6=>
    (f13 N (a0.1.1,((r_2++(a1 :: ([]:List (List Int)))),())) r_3 a0.2.2.1 a0.2.2.2.1).bind fun r_7=>
    (cond (!(decide (r_6.2.2.2=0)))
      (some true)
      (some (!(decide (r_7.2.2.2=0))))).bind fun b_4=>
    cond b_4
     (some (!(decide (r_7.2.2.2=0))))
     (some (decide (r_6.2.2.1≤r_7.2.2.1))))))
def lp7 (N:Nat):Nat→Option LoopFn:=fun r=>none
def x7 (N:Nat):Ctx:={ fuel:=N,tt:=getL ttL,mt:=getL mtL,ntmps:=101,env:=fun f=>(getL [(11,[c11 N]),(12,[c12 N]),(21,[c21 N]),(22,[c22 N]),(13,[c13 N])] f).getD [],cut:=getL [],exits:=fun r=>getL ((getL [] r).getD []),res:=⟨[6],[]⟩,own:=fun _=>none,lp:=lp7 N,eqs:=fun T=>memN T eqL,ct:=fun T=>memN T ctL,ms:=getMs msL }
noncomputable def b7:Code:=((Go.Proofs.Try.f7).body).getD .skip
theorem e7 (N:Nat) (a0:((Int×(List (List Int)×Unit))×(List Int×(List Int×(List Int×Unit))))) (a1:List Int) (a2:Int):bodyK (x7 N) [.bool] [.tmp 6] b7 (entry (.pr (.val (.pair (.pair (.int .i64) (.pair (.sl false (.arr 2 (.int .i64))) .unit)) (.pair (.sl false (.int .i64)) (.pair (.sl false (.int .i64)) (.pair (.sl false (.int .i64)) .unit))))) (.pr (.val (.arr 2 (.int .i64))) (.pr (.val (.int .i64)) .un))) (a0,(a1,(a2,()))))=f7 N a0 a1 a2:=by kernel_rfl
def f23 (N:Nat) (a0:(Int×(List (List Int)×Unit))) (a1:List Int) (a2:List Int) (a3:List Int):Option (Bool×Int):=
 (f38 N a0).bind fun r=>
 cond (!(decide (r=0)))
  (some (false,1))
  (chk (((decide (0≤a0.1)) && (decide (a0.1≤a0.1))) && (decide (a0.1≤((room:Nat):Int)))) <|
  (f27 N a0 (List.replicate (Int.toNat a0.1) 0:List Int) (a1 :: (a2 :: (a3 :: ([]:List (List Int)))))).bind fun r_1=>
  cond (!(decide (r_1=0)))
   (some (false,r_1))
   ((f28 N a0).bind fun r_2=>
   (f41 N a0.1 a3).bind fun r_3=>
   (f29 N r_2.1 a1 a2 r_3).bind fun r_4=>
   some (r_4,0)))
def c23 (N:Nat):Callee:=.pure (.pr (.val (.pair (.int .i64) (.pair (.sl false (.arr 2 (.int .i64))) .unit))) (.pr (.val (.sl false (.int .i64))) (.pr (.val (.sl false (.int .i64))) (.pr (.val (.sl false (.int .i64))) .un)))) [.bool,(.int .i64)] fun d=>f23 N d.1 d.2.1 d.2.2.1 d.2.2.2.1
def f24 (N:Nat) (a0:(Int×(List (List Int)×Unit))) (a1:List Int) (a2:List Int) (a3:List Int):Option (Bool×Int):=
 (f36 N a0).bind fun r=>
 cond (!r)
  (some (false,1))
  ((f37 N a0 a1).bind fun r_1=>
  (cond (!r_1)
    (some true)
    ((f37 N a0 a2).bind fun r_2=>
    some (!r_2))).bind fun b=>
  (cond b
    (some true)
    ((f37 N a0 a3).bind fun r_3=>
    some (!r_3))).bind fun b_1=>
  cond b_1
   (some (false,3))
   ((f33 N a0 a1 a2 a3).bind fun r_4=>
   some ((!r_4),0)))
def c24 (N:Nat):Callee:=.pure (.pr (.val (.pair (.int .i64) (.pair (.sl false (.arr 2 (.int .i64))) .unit))) (.pr (.val (.sl false (.int .i64))) (.pr (.val (.sl false (.int .i64))) (.pr (.val (.sl false (.int .i64))) .un)))) [.bool,(.int .i64)] fun d=>f24 N d.1 d.2.1 d.2.2.1 d.2.2.2.1
def f8 (N:Nat) (a0:((Int×(List (List Int)×Unit))×(List Int×(List Int×(List Int×Unit))))) (a1:List Int):Option (Bool):=
 (f11 N).bind fun r=>
 cond (!r)
  (some false)
  ((f12 N a0 12 60).bind fun r_1=>
  (cond (!r_1)
    (some true)
    (some (decide (20 < (len a1))))).bind fun b=>
  cond b
   (some true)
   ((f23 N (a0.1.1,a0.1.2) a0.2.2.1 a0.2.2.2.1 a1).bind fun r_2=>
   (f24 N (a0.1.1,a0.1.2) a0.2.2.1 a0.2.2.2.1 a1).bind fun r_3=>
   (cond (decide (r_2.1=r_3.1))
     (some (decide (r_2.2=r_3.2)))
     (some false)).bind fun b_1=>
   some b_1))
def lp8 (N:Nat):Nat→Option LoopFn:=fun r=>none
def x8 (N:Nat):Ctx:={ fuel:=N,tt:=getL ttL,mt:=getL mtL,ntmps:=49,env:=fun f=>(getL [(11,[c11 N]),(12,[c12 N]),(23,[c23 N]),(24,[c24 N])] f).getD [],cut:=getL [],exits:=fun r=>getL ((getL [] r).getD []),res:=⟨[4],[]⟩,own:=fun _=>none,lp:=lp8 N,eqs:=fun T=>memN T eqL,ct:=fun T=>memN T ctL,ms:=getMs msL }
noncomputable def b8:Code:=((Go.Proofs.Try.f8).body).getD .skip
theorem e8 (N:Nat) (a0:((Int×(List (List Int)×Unit))×(List Int×(List Int×(List Int×Unit))))) (a1:List Int):bodyK (x8 N) [.bool] [.tmp 4] b8 (entry (.pr (.val (.pair (.pair (.int .i64) (.pair (.sl false (.arr 2 (.int .i64))) .unit)) (.pair (.sl false (.int .i64)) (.pair (.sl false (.int .i64)) (.pair (.sl false (.int .i64)) .unit))))) (.pr (.val (.sl false (.int .i64))) .un)) (a0,(a1,())))=f8 N a0 a1:=by kernel_rfl
end
end Go.Kz
