/-
  The functions of the program as plain functions on lists and numbers, and the proofs that the program computes them. Printed by a program.
-/
import Derived.Test.YtafhchecfmiieaaKzP07b
set_option linter.unusedSimpArgs false
set_option maxRecDepth 100000
set_option linter.unusedVariables false
namespace Go.Kz
open Go.Proofs
noncomputable section
def f33_L3 {R:Type} (N:Nat) (t1:List Int) (t3:List Int) (t2:List Int) (o1:(Int×(List (List Int)×Unit))) (kb:Int×List Int→Option R) (kx0:(List Int)→Option R):Int×List Int→Option R:=
 fun (t10,o0)=>
  cond (decide (t10 < (len t1)))
   ((idx t1 t10).bind fun x=>
   (f40 N t3 x).bind fun r=>
   (cond (!r)
     ((idx t1 t10).bind fun x_1=>
     (f40 N o0 x_1).bind fun r_1=>
     some (!r_1))
     (some false)).bind fun b=>
   cond b
    ((idx t1 t10).bind fun x_2=>
    chk (decide ((Nat.succ (List.length o0))≤room)) <|
    kb ((wi64 (t10+1)),(o0++(x_2 :: ([]:List Int)))))
    (kb ((wi64 (t10+1)),o0)))
   (kx0 o0)
def f33_L13 {R:Type} (N:Nat) (t3_2:List Int) (t11_1:Int) (t2_2:List Int) (o1_2:(Int×(List (List Int)×Unit))) (kb:Int×List Int→Option R) (kx4:(List Int)→Option R):Int×List Int→Option R:=
 fun (t12,o0_3)=>
  cond (decide (t12 < (len o1_2.2.1)))
   ((idx o1_2.2.1 t12).bind fun x_4=>
   (idx x_4 1).bind fun x_5=>
   (idx o1_2.2.1 t12).bind fun x_6=>
   (idx x_6 0).bind fun x_7=>
   chk (inb o0_3 t11_1) <|
   (idx o0_3 t11_1).bind fun x_8=>
   (cond (decide (x_7=x_8))
     ((f40 N t3_2 x_5).bind fun r_3=>
     some (!r_3))
     (some false)).bind fun b_1=>
   (cond b_1
     ((f40 N o0_3 x_5).bind fun r_4=>
     some (!r_4))
     (some false)).bind fun b_2=>
   cond b_2
    (chk (decide ((Nat.succ (List.length o0_3))≤room)) <|
    kb ((wi64 (t12+1)),(o0_3++(x_5 :: ([]:List Int)))))
    (kb ((wi64 (t12+1)),o0_3)))
   (kx4 o0_3)
def f33_L8 {R:Type} (N:Nat) (t3_1:List Int) (t2_1:List Int) (o1_1:(Int×(List (List Int)×Unit))) (kb:Int×List Int→Option R) (kret:Bool→Option R) (kx2:Unit→Option R):Int×List Int→Option R:=
 fun (t11,o0_2)=>
  cond (decide (t11 < (len o0_2)))
   (chk (inb o0_2 t11) <|
   (idx o0_2 t11).bind fun x_3=>
   (f40 N t2_1 x_3).bind fun r_2=>
   cond r_2
    (kret true)
    (iter (fun w=>f33_L13 N t3_1 t11 t2_1 o1_1 w
     (fun o0_4=>
      kb ((wi64 (t11+1)),o0_4))) N (0,o0_2)))
   (kx2 ())
def f33 (N:Nat) (a0:(Int×(List (List Int)×Unit))) (a1:List Int) (a2:List Int) (a3:List Int):Option (Bool):=
 iter (fun w=>f33_L3 N a1 a3 a2 a0 w
  (fun o0_1=>
   iter (fun w=>f33_L8 N a3 a2 a0 w
    (fun t8=>
     some t8)
    (fun (_:Unit)=>
     some false)) N (0,o0_1))) N (0,([]:List Int))
def f14 (N:Nat) (a0:(Int×(List (List Int)×Unit))) (a1:List Int) (a2:List Int) (a3:List Int):Option (Int):=
 (f17 N a0 a1 a2 a3).bind fun r=>
 cond (!(decide (r=0)))
  (some r)
  ((f34 N a1).bind fun r_1=>
  (f33 N a0 a2 a3 r_1).bind fun r_2=>
  cond r_2
   (some 11)
   (some 0))
def c14 (N:Nat):Callee:=.pure (.pr (.val (.pair (.int .i64) (.pair (.sl false (.arr 2 (.int .i64))) .unit))) (.pr (.val (.sl false (.int .i64))) (.pr (.val (.sl false (.int .i64))) (.pr (.val (.sl false (.int .i64))) .un)))) [(.int .i64)] fun d=>f14 N d.1 d.2.1 d.2.2.1 d.2.2.2.1
def f15_L3 {R:Type} (N:Nat) (t1:List Int) (t0:List Int) (kb:Int×Int→Option R) (kret:Int→Bool→Option R) (kx0:Int→Option R):Int×Int→Option R:=
 fun (t7,t6)=>
  cond (decide (t7 < (len t1)))
   ((idx t1 t7).bind fun x=>
   (cond (decide (x < 0))
     (some true)
     ((idx t1 t7).bind fun x_1=>
     some (decide ((len t0)≤x_1)))).bind fun b=>
   (cond b
     (some true)
     ((cond (decide (0 < t7))
       ((idx t1 t7).bind fun x_2=>
       (idx t1 (wi64 (t7-1))).bind fun x_3=>
       some (decide (x_2≤x_3)))
       (some false)).bind fun b_1=>
     some b_1)).bind fun b_2=>
   (cond b_2
     (some true)
     ((idx t1 t7).bind fun x_4=>
     (idx t0 x_4).bind fun x_5=>
     some (decide (x_5 < 0)))).bind fun b_3=>
   cond b_3
    (kret 0 false)
    ((idx t1 t7).bind fun x_6=>
    (idx t0 x_6).bind fun x_7=>
    kb ((wi64 (t7+1)),(wi64 (t6+x_7)))))
   (kx0 t6)
def f15 (N:Nat) (a0:List Int) (a1:List Int):Option (Int×Bool):=
 iter (fun w=>f15_L3 N a1 a0 w
  (fun t4 t5=>
   some (t4,t5))
  (fun t6_1=>
   some (t6_1,true))) N (0,0)
def c15 (N:Nat):Callee:=.pure (.pr (.val (.sl false (.int .i64))) (.pr (.val (.sl false (.int .i64))) .un)) [(.int .i64),.bool] fun d=>f15 N d.1 d.2.1
def F15_3:SForm:=⟨[(7,(.val (.int .i64))),(1,(.val (.sl false (.int .i64)))),(0,(.val (.sl false (.int .i64)))),(6,(.val (.int .i64)))],[]⟩
def G15_3 (N:Nat):(R:Type)→F15_3.den→(AExit→St→Option R)→Option R:=fun R d k=>iter (fun kb=>f15_L3 N d.1.2.1 d.1.2.2.1 kb
  (fun y0 y1=>k .ret (St.of [(4,(.data (.int .i64) y0)),(5,(.data .bool y1))] []))
  (fun y0=>k (.exit 0) (St.of [(6,(.data (.int .i64) y0))] []))) N (d.1.1,d.1.2.2.2.1)
def lp15 (N:Nat):Nat→Option LoopFn:=fun r=>cond (Nat.beq r 3) (some fun R sl os k=>F15_3.take sl os fun d=>G15_3 N R d k) (none)
def x15 (N:Nat):Ctx:={ fuel:=N,tt:=getL ttL,mt:=getL mtL,ntmps:=64,env:=fun f=>(getL [] f).getD [],cut:=getL [(3,⟨[7,1,0,6],[]⟩)],exits:=fun r=>getL ((getL [(3,[(0,⟨[6],[]⟩)])] r).getD []),res:=⟨[4,5],[]⟩,own:=fun _=>none,lp:=lp15 N,eqs:=fun T=>memN T eqL,ct:=fun T=>memN T ctL,ms:=getMs msL }
noncomputable def b15:Code:=((Go.Proofs.Try.f15).body).getD .skip
theorem s15_3 (N:Nat) {R:Type} (k:AExit→St→Option R) (t1:List Int) (t0:List Int) (kb:List (Nat×AVal)→List Obj→Option R) (x:Int×Int):codeK (x15 N) (loopAt 3 (loopsOf b15)) (St.of [(7,(.data (.int .i64) x.1)),(1,(.data (.sl false (.int .i64)) t1)),(0,(.data (.sl false (.int .i64)) t0)),(6,(.data (.int .i64) x.2))] []) (kLoop (x15 N) 3 ⟨[7,1,0,6],[]⟩ kb k)=f15_L3 N t1 t0 (fun y=>kb [(7,(.data (.int .i64) y.1)),(1,(.data (.sl false (.int .i64)) t1)),(0,(.data (.sl false (.int .i64)) t0)),(6,(.data (.int .i64) y.2))] [])
  (fun y0 y1=>k .ret (St.of [(4,(.data (.int .i64) y0)),(5,(.data .bool y1))] []))
  (fun y0=>k (.exit 0) (St.of [(6,(.data (.int .i64) y0))] [])) x:=by kernel_rfl
theorem l15_3 (N:Nat):LoopOK (x15 N) (loopAt 3 (loopsOf b15)):=
 loop_mk (G15_3 N) (by kernel_rfl) (by kernel_rfl) (by kernel_rfl) fun R k d=>
  loop_eq (st:=fun (x:Int×Int)=>([(7,(.data (.int .i64) x.1)),(1,(.data (.sl false (.int .i64)) d.1.2.1)),(0,(.data (.sl false (.int .i64)) d.1.2.2.1)),(6,(.data (.int .i64) x.2))],[])) (s15_3 N k d.1.2.1 d.1.2.2.1) N (d.1.1,d.1.2.2.2.1)
theorem e15 (N:Nat) (a0:List Int) (a1:List Int):bodyK (x15 N) [(.int .i64),.bool] [.tmp 4,.tmp 5] b15 (entry (.pr (.val (.sl false (.int .i64))) (.pr (.val (.sl false (.int .i64))) .un)) (a0,(a1,())))=f15 N a0 a1:=by kernel_rfl
theorem k15 (N:Nat):CalleeOK Go.Proofs.Try.prog 15 (c15 N):=
 fn_ok (fn:=Go.Proofs.Try.f15) (body:=b15) (c:=x15 N) Go.Proofs.Try.func15 (by kernel_rfl) (by kernel_rfl) ⟨ttL_ok,mtL_ok,eqL_ok,ctL_ok,msL_ok,env_nil⟩ mixed (by kernel_rfl) (Nat.le_of_ble_eq_true (by kernel_rfl)) (by kernel_rfl) (by decide)
  (loops_ok (by kernel_rfl:loopsOf b15=[loopAt 3 (loopsOf b15)]) (.cons (l15_3 N) .nil)) fun d=>e15 N d.1 d.2.1
def f52_L2 {R:Type} (N:Nat) (t2:Int) (t1:Int) (o0:(Int×(List (List Int)×Unit))) (kb:Int→Option R) (kret:Bool→Option R) (kx0:Unit→Option R):Int→Option R:=
 fun t7=>
  cond (decide (t7 < (len o0.2.1)))
   ((idx o0.2.1 t7).bind fun x=>
   (idx x 0).bind fun x_1=>
   (cond (decide (x_1=t1))
     ((idx o0.2.1 t7).bind fun x_2=>
     (idx x_2 1).bind fun x_3=>
     some (decide (x_3=t2)))
     (some false)).bind fun b=>
   cond b
    (kret true)
    (kb (wi64 (t7+1))))
   (kx0 ())
def f52 (N:Nat) (a0:(Int×(List (List Int)×Unit))) (a1:Int) (a2:Int):Option (Bool):=
 iter (fun w=>f52_L2 N a2 a1 a0 w
  (fun t6=>
   some t6)
  (fun (_:Unit)=>
   some false)) N 0
def f35_L4 {R:Type} (N:Nat) (t3:List Int) (o0:(Int×(List (List Int)×Unit))) (kb:Int→Option R) (kret:Bool→Option R) (kx0:Unit→Option R):Int→Option R:=
 fun t9=>
  cond (decide (t9 < (len t3)))
   ((cond (decide (0 < t9))
     ((idx t3 (wi64 (t9-1))).bind fun x_2=>
     (idx t3 t9).bind fun x_3=>
     (f52 N o0 x_2 x_3).bind fun r_3=>
     some (!r_3))
     (some false)).bind fun b_4=>
   (cond b_4
     (some true)
     (chk ((decide (0≤t9)) && (decide (t9≤(len t3)))) <|
     (idx t3 t9).bind fun x_4=>
     (f40 N (sub t3 0 t9) x_4).bind fun r_4=>
     some r_4)).bind fun b_5=>
   cond b_5
    (kret false)
    (kb (wi64 (t9+1))))
   (kx0 ())
def f35 (N:Nat) (a0:(Int×(List (List Int)×Unit))) (a1:List Int) (a2:List Int) (a3:List Int):Option (Bool):=
 (cond (decide ((len a3)=0))
   (some true)
   (some (decide (a0.1 < (len a3))))).bind fun b=>
 (cond b
   (some true)
   ((f37 N a0 a3).bind fun r=>
   some (!r))).bind fun b_1=>
 (cond b_1
   (some true)
   ((idx a3 0).bind fun x=>
   (f40 N a1 x).bind fun r_1=>
   some (!r_1))).bind fun b_2=>
 (cond b_2
   (some true)
   ((idx a3 (wi64 ((len a3)-1))).bind fun x_1=>
   (f40 N a2 x_1).bind fun r_2=>
   some (!r_2))).bind fun b_3=>
 cond b_3
  (some false)
  (iter (fun w=>f35_L4 N a3 a0 w
   (fun t8=>
    some t8)
   (fun (_:Unit)=>
    some true)) N 0)
def f16_L17 {R:Type} (N:Nat) (t1_1:List Int) (t16_1:Int) (t3_1:List Int) (t2_1:List Int) (t14_1:Int) (t5_1:List (List Int×(Int×Unit))) (t18_1:Int) (o1_1:(List Int×(Int×Unit))) (o2:(Int×(List (List Int)×Unit))) (kb:Int×List Int→Option R) (kret:Int→Option R) (kx2:(List Int)→Option R):Int×List Int→Option R:=
 fun (t20,o0_1)=>
  cond (decide (t20 < (len o1_1.1)))
   ((idx o1_1.1 t20).bind fun x_1=>
   chk (inb o0_1 x_1) <|
   (idx o0_1 x_1).bind fun x_2=>
   chk (inb o0_1 x_1) <|
   (idx o0_1 x_1).bind fun x_3=>
   (idx o0_1 x_1).bind fun x_4=>
   (idx t1_1 x_1).bind fun x_5=>
   (cond (decide (0≤x_5))
     (chk (inb (setI o0_1 x_1 (wi64 (x_2+o1_1.2.1))) x_1) <|
     (idx (setI o0_1 x_1 (wi64 (x_2+o1_1.2.1))) x_1).bind fun x_6=>
     (idx t1_1 x_1).bind fun x_7=>
     some (decide (x_7 < x_6)))
     (some false)).bind fun b_3=>
   cond b_3
    (kret 13)
    (kb ((wi64 (t20+1)),(setI o0_1 x_1 (wi64 (x_2+o1_1.2.1))))))
   (kx2 o0_1)
def f16_L10 {R:Type} (N:Nat) (t1:List Int) (t3:List Int) (t2:List Int) (t14:Int) (t5:List (List Int×(Int×Unit))) (o1:(Int×(List (List Int)×Unit))) (kb:Int×Int×List Int→Option R) (kret:Int→Option R) (kx0:Int→Option R):Int×Int×List Int→Option R:=
 fun (t18,t16,o0)=>
  cond (decide (t18 < (len t5)))
   ((idx t5 t18).bind fun x=>
   (cond (decide (x.2.1 < 1))
     (some true)
     (some (decide ((wi64 (t14-t16)) < x.2.1)))).bind fun b_1=>
   (cond b_1
     (some true)
     ((f35 N o1 t2 t3 x.1).bind fun r_3=>
     some (!r_3))).bind fun b_2=>
   cond b_2
    (kret 13)
    (iter (fun w=>f16_L17 N t1 (wi64 (t16+x.2.1)) t3 t2 t14 t5 t18 x o1 w
     (fun t12=>
      kret t12)
     (fun o0_2=>
      kb ((wi64 (t18+1)),(wi64 (t16+x.2.1)),o0_2))) N (0,o0)))
   (kx0 t16)
def f16 (N:Nat) (a0:(Int×(List (List Int)×Unit))) (a1:List Int) (a2:List Int) (a3:List Int) (a4:List Int) (a5:List (List Int×(Int×Unit))):Option (Int):=
 (f17 N a0 a1 a2 a3).bind fun r=>
 cond (!(decide (r=0)))
  (some r)
  ((f15 N a1 a4).bind fun r_1=>
  (cond (!r_1.2)
    (some true)
    ((f33 N a0 a2 a3 a4).bind fun r_2=>
    some r_2)).bind fun b=>
  cond b
   (some 13)
   (chk (((decide (0≤a0.1)) && (decide (a0.1≤a0.1))) && (decide (a0.1≤((room:Nat):Int)))) <|
   iter (fun w=>f16_L10 N a1 a3 a2 r_1.1 a5 a0 w
    (fun t12_1=>
     some t12_1)
    (fun t16_2=>
     cond (!(decide (t16_2=r_1.1)))
      (some 13)
      (some 0))) N (0,0,(List.replicate (Int.toNat a0.1) 0:List Int))))
def c16 (N:Nat):Callee:=.pure (.pr (.val (.pair (.int .i64) (.pair (.sl false (.arr 2 (.int .i64))) .unit))) (.pr (.val (.sl false (.int .i64))) (.pr (.val (.sl false (.int .i64))) (.pr (.val (.sl false (.int .i64))) (.pr (.val (.sl false (.int .i64))) (.pr (.val (.sl false (.pair (.sl false (.int .i64)) (.pair (.int .i64) .unit)))) .un)))))) [(.int .i64)] fun d=>f16 N d.1 d.2.1 d.2.2.1 d.2.2.2.1 d.2.2.2.2.1 d.2.2.2.2.2.1
def f3 (N:Nat) (a0:((Int×(List (List Int)×Unit))×(List Int×(List Int×(List Int×Unit))))):Option (Bool):=
 (f11 N).bind fun r=>
 cond (!r)
  (some false)
  ((f12 N a0 12 60).bind fun r_1=>
  cond (!r_1)
   (some true)
   ((f13 N (a0.1.1,a0.1.2) a0.2.1 a0.2.2.1 a0.2.2.2.1).bind fun r_2=>
   (f14 N (a0.1.1,a0.1.2) a0.2.1 a0.2.2.1 a0.2.2.2.1).bind fun r_3=>
   cond (!(decide (r_2.2.2.2=r_3)))
    (some false)
    (cond (!(decide (r_2.2.2.2=0)))
     ((cond (decide ((len r_2.1)=0))
       (some (decide ((len r_2.2.1)=0)))
       (some false)).bind fun b=>
     (cond b
       (some (decide (r_2.2.2.1=0)))
       (some false)).bind fun b_1=>
     some b_1)
     ((f15 N a0.2.1 r_2.1).bind fun r_4=>
     (cond r_4.2
       (some (decide (r_2.2.2.1=r_4.1)))
       (some false)).bind fun b_2=>
     (cond b_2
       ((f16 N (a0.1.1,a0.1.2) a0.2.1 a0.2.2.1 a0.2.2.2.1 r_2.1 r_2.2.1).bind fun r_5=>
       some (decide (r_5=0)))
       (some false)).bind fun b_3=>
     some b_3))))
def c3 (N:Nat):Callee:=.pure (.pr (.val (.pair (.pair (.int .i64) (.pair (.sl false (.arr 2 (.int .i64))) .unit)) (.pair (.sl false (.int .i64)) (.pair (.sl false (.int .i64)) (.pair (.sl false (.int .i64)) .unit))))) .un) [.bool] fun d=>f3 N d.1
def lp3 (N:Nat):Nat→Option LoopFn:=fun r=>none
def x3 (N:Nat):Ctx:={ fuel:=N,tt:=getL ttL,mt:=getL mtL,ntmps:=80,env:=fun f=>(getL [(11,[c11 N]),(12,[c12 N]),(13,[c13 N]),(14,[c14 N]),(15,[c15 N]),(16,[c16 N])] f).getD [],cut:=getL [],exits:=fun r=>getL ((getL [] r).getD []),res:=⟨[2],[]⟩,own:=fun _=>none,lp:=lp3 N,eqs:=fun T=>memN T eqL,ct:=fun T=>memN T ctL,ms:=getMs msL }
noncomputable def b3:Code:=((Go.Proofs.Try.f3).body).getD .skip
theorem e3 (N:Nat) (a0:((Int×(List (List Int)×Unit))×(List Int×(List Int×(List Int×Unit))))):bodyK (x3 N) [.bool] [.tmp 2] b3 (entry (.pr (.val (.pair (.pair (.int .i64) (.pair (.sl false (.arr 2 (.int .i64))) .unit)) (.pair (.sl false (.int .i64)) (.pair (.sl false (.int .i64)) (.pair (.sl false (.int .i64)) .unit))))) .un) (a0,()))=f3 N a0:=by kernel_rfl
def f18_L4 {R:Type} (N:Nat) (t3:List Int) (t2:List Int) (t9:Int) (t1:List Int) (o0:(Int×(List (List Int)×Unit))) (kb:Int×Int→Option R) (kx0:Int→Option R):Int×Int→Option R:=
 fun (t11,t10)=>
  cond (decide (t11 < o0.1))
   (kb ((wi64 (t11+1)),(wi64 (2*t10))))
   (kx0 t10)
def f18_L13 {R:Type} (N:Nat) (t3_2:List Int) (t2_2:List Int) (t1_2:List Int) (t10_3:Int) (t12_1:Int) (t9_2:Int) (o1:(Int×(List (List Int)×Unit))) (kb:Int×Int×List Int→Option R) (kx4:(List Int)→Option R):Int×Int×List Int→Option R:=
 fun (t16,t15,o0_2)=>
  cond (decide (t16 < o1.1))
   (cond (decide ((Int.tmod t15 2)=1))
    (chk (decide ((Nat.succ (List.length o0_2))≤room)) <|
    kb ((wi64 (t16+1)),(wi64 (Int.tdiv t15 2)),(o0_2++(t16 :: ([]:List Int)))))
    (kb ((wi64 (t16+1)),(wi64 (Int.tdiv t15 2)),o0_2)))
   (kx4 o0_2)
def f18_L8 {R:Type} (N:Nat) (t3_1:List Int) (t2_1:List Int) (t1_1:List Int) (t10_2:Int) (o0_1:(Int×(List (List Int)×Unit))) (kb:Int×Int→Option R) (kx2:Int→Option R):Int×Int→Option R:=
 fun (t12,t9_1)=>
  cond (decide (t12 < t10_2))
   (iter (fun w=>f18_L13 N t3_1 t2_1 t1_1 t10_2 t12 t9_1 o0_1 w
    (fun o1_1=>
     (f15 N t1_1 o1_1).bind fun r=>
     (cond r.2
       ((cond (decide (t9_1 < 0))
         (some true)
         (some (decide (r.1 < t9_1)))).bind fun b=>
       some b)
       (some false)).bind fun b_1=>
     (cond b_1
       ((f33 N o0_1 t2_1 t3_1 o1_1).bind fun r_1=>
       some (!r_1))
       (some false)).bind fun b_2=>
     cond b_2
      (kb ((wi64 (t12+1)),r.1))
      (kb ((wi64 (t12+1)),t9_1)))) N (0,t12,([]:List Int)))
   (kx2 t9_1)
def f18 (N:Nat) (a0:(Int×(List (List Int)×Unit))) (a1:List Int) (a2:List Int) (a3:List Int):Option (Int):=
 iter (fun w=>f18_L4 N a3 a2 (-1) a1 a0 w
  (fun t10_1=>
   iter (fun w=>f18_L8 N a3 a2 a1 t10_1 a0 w
    (fun t9_3=>
     some t9_3)) N (0,(-1)))) N (0,1)
def c18 (N:Nat):Callee:=.pure (.pr (.val (.pair (.int .i64) (.pair (.sl false (.arr 2 (.int .i64))) .unit))) (.pr (.val (.sl false (.int .i64))) (.pr (.val (.sl false (.int .i64))) (.pr (.val (.sl false (.int .i64))) .un)))) [(.int .i64)] fun d=>f18 N d.1 d.2.1 d.2.2.1 d.2.2.2.1
def f4 (N:Nat) (a0:((Int×(List (List Int)×Unit))×(List Int×(List Int×(List Int×Unit))))):Option (Bool):=
 (f11 N).bind fun r=>
 cond (!r)
  (some false)
  ((f12 N a0 6 20).bind fun r_1=>
  (cond (!r_1)
    (some true)
    ((f17 N (a0.1.1,a0.1.2) a0.2.1 a0.2.2.1 a0.2.2.2.1).bind fun r_2=>
    some (!(decide (r_2=0))))).bind fun b=>
  cond b
   (some true)
   ((f13 N (a0.1.1,a0.1.2) a0.2.1 a0.2.2.1 a0.2.2.2.1).bind fun r_3=>
   (f18 N (a0.1.1,a0.1.2) a0.2.1 a0.2.2.1 a0.2.2.2.1).bind fun r_4=>
   cond (decide (r_4 < 0))
    (some (decide (r_3.2.2.2=11)))
    ((cond (decide (r_3.2.2.2=0))
      (some (decide (r_3.2.2.1=r_4)))
      (some false)).bind fun b_1=>
    some b_1)))
def c4 (N:Nat):Callee:=.pure (.pr (.val (.pair (.pair (.int .i64) (.pair (.sl false (.arr 2 (.int .i64))) .unit)) (.pair (.sl false (.int .i64)) (.pair (.sl false (.int .i64)) (.pair (.sl false (.int .i64)) .unit))))) .un) [.bool] fun d=>f4 N d.1
def lp4 (N:Nat):Nat→Option LoopFn:=fun r=>none
def x4 (N:Nat):Ctx:={ fuel:=N,tt:=getL ttL,mt:=getL mtL,ntmps:=59,env:=fun f=>(getL [(11,[c11 N]),(12,[c12 N]),(17,[c17 N]),(13,[c13 N]),(18,[c18 N])] f).getD [],cut:=getL [],exits:=fun r=>getL ((getL [] r).getD []),res:=⟨[2],[]⟩,own:=fun _=>none,lp:=lp4 N,eqs:=fun T=>memN T eqL,ct:=fun T=>memN T ctL,ms:=getMs msL }
noncomputable def b4:Code:=((Go.Proofs.Try.f4).body).getD .skip
theorem e4 (N:Nat) (a0:((Int×(List (List Int)×Unit))×(List Int×(List Int×(List Int×Unit))))):bodyK (x4 N) [.bool] [.tmp 2] b4 (entry (.pr (.val (.pair (.pair (.int .i64) (.pair (.sl false (.arr 2 (.int .i64))) .unit)) (.pair (.sl false (.int .i64)) (.pair (.sl false (.int .i64)) (.pair (.sl false (.int .i64)) .unit))))) .un) (a0,()))=f4 N a0:=by kernel_rfl
def f23 (N:Nat) (a0:(Int×(List (List Int)×Unit))) (a1:List Int) (a2:List Int) (a3:List Int):Option (Bool×Int):=
 (f38 N a0).bind fun r=>
 cond (!(decide (r=0)))
  (some (false,1))
  (chk (((decide (0≤a0.1)) && (decide (a0.1≤a0.1))) && (decide (a0.1≤((room:Nat):Int)))) <|
  (f27 N a0 (List.replicate (Int.toNat a0.1) 0:List Int) (a1 :: (a2 :: (a3 :: ([]:List (List Int)))))).bind fun r_1=>
  cond (!(decide (r_1=0)))
   (some (false,r_1))
   ((f28 N a0).bind fun r_2=>
   (f41 N a0.1 a3).bind fun r_3=>
   (f29 N r_2.1 a1 a2 r_3).bind fun r_4=>
   some (r_4,0)))
def c23 (N:Nat):Callee:=.pure (.pr (.val (.pair (.int .i64) (.pair (.sl false (.arr 2 (.int .i64))) .unit))) (.pr (.val (.sl false (.int .i64))) (.pr (.val (.sl false (.int .i64))) (.pr (.val (.sl false (.int .i64))) .un)))) [.bool,(.int .i64)] fun d=>f23 N d.1 d.2.1 d.2.2.1 d.2.2.2.1
def lp23 (N:Nat):Nat→Option LoopFn:=fun r=>none
def x23 (N:Nat):Ctx:={ fuel:=N,tt:=getL ttL,mt:=getL mtL,ntmps:=41,env:=fun f=>(getL [(38,[c38 N]),(27,[c27 N]),(28,[c28 N]),(41,[c41 N]),(29,[c29 N])] f).getD [],cut:=getL [],exits:=fun r=>getL ((getL [] r).getD []),res:=⟨[8,9],[]⟩,own:=fun _=>none,lp:=lp23 N,eqs:=fun T=>memN T eqL,ct:=fun T=>memN T ctL,ms:=getMs msL }
noncomputable def b23:Code:=((Go.Proofs.Try.f23).body).getD .skip
theorem e23 (N:Nat) (a0:(Int×(List (List Int)×Unit))) (a1:List Int) (a2:List Int) (a3:List Int):bodyK (x23 N) [.bool,(.int .i64)] [.tmp 8,.tmp 9] b23 (entry (.pr (.val (.pair (.int .i64) (.pair (.sl false (.arr 2 (.int .i64))) .unit))) (.pr (.val (.sl false (.int .i64))) (.pr (.val (.sl false (.int .i64))) (.pr (.val (.sl false (.int .i64))) .un)))) (a0,(a1,(a2,(a3,())))))=f23 N a0 a1 a2 a3:=by kernel_rfl
theorem k23 (N:Nat):CalleeOK Go.Proofs.Try.prog 23 (c23 N):=
 fn_ok (fn:=Go.Proofs.Try.f23) (body:=b23) (c:=x23 N) Go.Proofs.Try.func23 (by kernel_rfl) (by kernel_rfl) ⟨ttL_ok,mtL_ok,eqL_ok,ctL_ok,msL_ok,env_cons (forall_mem1 (k38 N)) (env_cons (forall_mem1 (k27 N)) (env_cons (forall_mem1 (k28 N)) (env_cons (forall_mem1 (k41 N)) (env_cons (forall_mem1 (k29 N)) (env_nil)))))⟩ mixed (by kernel_rfl) (Nat.le_of_ble_eq_true (by kernel_rfl)) (by kernel_rfl) (by decide)
  (loops_ok (by kernel_rfl:loopsOf b23=[]) .nil) fun d=>e23 N d.1 d.2.1 d.2.2.1 d.2.2.2.1
def f24 (N:Nat) (a0:(Int×(List (List Int)×Unit))) (a1:List Int) (a2:List Int) (a3:List Int):Option (Bool×Int):=
 (f36 N a0).bind fun r=>
 cond (!r)
  (some (false,1))
  ((f37 N a0 a1).bind fun r_1=>
  (cond (!r_1)
    (some true)
    ((f37 N a0 a2).bind fun r_2=>
    some (!r_2))).bind fun b=>
  (cond b
    (some true)
    ((f37 N a0 a3).bind fun r_3=>
    some (!r_3))).bind fun b_1=>
  cond b_1
   (some (false,3))
   ((f33 N a0 a1 a2 a3).bind fun r_4=>
   some ((!r_4),0)))
def f42_L2 {R:Type} (N:Nat) (t4:List Int) (t1:List Int) (t0:List (List Int)) (t13:List Int) (t3:List Int) (t2:List Int) (t14:Int) (kb:Int→Option R) (kret:Bool→Option R) (kx0:Unit→Option R):Int→Option R:=
 fun t15=>
  cond (decide (t15 < t14))
   ((idx t13 t15).bind fun x=>
   (cond (decide (x < 0))
     (some true)
     (some (decide ((len t0)≤x)))).bind fun b=>
   (cond b
     (some true)
     ((idx t1 x).bind fun x_1=>
     some (decide (x_1 < 0)))).bind fun b_1=>
   (cond b_1
     (some true)
     ((cond (decide (0 < t15))
       ((idx t4 (wi64 (t15-1))).bind fun x_2=>
       some (decide (x≤x_2)))
       (some false)).bind fun b_2=>
     some b_2)).bind fun b_3=>
   cond b_3
    (kret false)
    (kb (wi64 (t15+1))))
   (kx0 ())
def f42 (N:Nat) (a0:List (List Int)) (a1:List Int) (a2:List Int) (a3:List Int) (a4:List Int):Option (Bool):=
 iter (fun w=>f42_L2 N a4 a1 a0 a4 a3 a2 (len a4) w
  (fun t10=>
   some t10)
  (fun (_:Unit)=>
   (f41 N (len a0) a4).bind fun r=>
   (f29 N a0 a2 a3 r).bind fun r_1=>
   some r_1)) N 0
def c42 (N:Nat):Callee:=.pure (.pr (.val (.sl false (.sl false (.int .i64)))) (.pr (.val (.sl false (.int .i64))) (.pr (.val (.sl false (.int .i64))) (.pr (.val (.sl false (.int .i64))) (.pr (.val (.sl false (.int .i64))) .un))))) [.bool] fun d=>f42 N d.1 d.2.1 d.2.2.1 d.2.2.2.1 d.2.2.2.2.1
def F42_2:SForm:=⟨[(15,(.val (.int .i64))),(4,(.val (.sl false (.int .i64)))),(1,(.val (.sl false (.int .i64)))),(0,(.val (.sl false (.sl false (.int .i64))))),(13,(.val (.sl false (.int .i64)))),(3,(.val (.sl false (.int .i64)))),(2,(.val (.sl false (.int .i64)))),(14,(.val (.int .i64)))],[]⟩
def G42_2 (N:Nat):(R:Type)→F42_2.den→(AExit→St→Option R)→Option R:=fun R d k=>iter (fun kb=>f42_L2 N d.1.2.1 d.1.2.2.1 d.1.2.2.2.1 d.1.2.2.2.2.1 d.1.2.2.2.2.2.1 d.1.2.2.2.2.2.2.1 d.1.2.2.2.2.2.2.2.1 kb
  (fun y0=>k .ret (St.of [(10,(.data .bool y0))] []))
  (fun _=>k (.exit 0) (St.of [(4,(.data (.sl false (.int .i64)) d.1.2.1)),(0,(.data (.sl false (.sl false (.int .i64))) d.1.2.2.2.1)),(3,(.data (.sl false (.int .i64)) d.1.2.2.2.2.2.1)),(2,(.data (.sl false (.int .i64)) d.1.2.2.2.2.2.2.1))] []))) N d.1.1
def lp42 (N:Nat):Nat→Option LoopFn:=fun r=>cond (Nat.beq r 2) (some fun R sl os k=>F42_2.take sl os fun d=>G42_2 N R d k) (none)
def x42 (N:Nat):Ctx:={ fuel:=N,tt:=getL ttL,mt:=getL mtL,ntmps:=57,env:=fun f=>(getL [(41,[c41 N]),(29,[c29 N])] f).getD [],cut:=getL [(2,⟨[15,4,1,0,13,3,2,14],[]⟩)],exits:=fun r=>getL ((getL [(2,[(0,⟨[4,0,3,2],[]⟩)])] r).getD []),res:=⟨[10],[]⟩,own:=fun _=>none,lp:=lp42 N,eqs:=fun T=>memN T eqL,ct:=fun T=>memN T ctL,ms:=getMs msL }
noncomputable def b42:Code:=((Go.Proofs.Try.f42).body).getD .skip
theorem s42_2 (N:Nat) {R:Type} (k:AExit→St→Option R) (t4:List Int) (t1:List Int) (t0:List (List Int)) (t13:List Int) (t3:List Int) (t2:List Int) (t14:Int) (kb:List (Nat×AVal)→List Obj→Option R) (x:Int):codeK (x42 N) (loopAt 2 (loopsOf b42)) (St.of [(15,(.data (.int .i64) x)),(4,(.data (.sl false (.int .i64)) t4)),(1,(.data (.sl false (.int .i64)) t1)),(0,(.data (.sl false (.sl false (.int .i64))) t0)),(13,(.data (.sl false (.int .i64)) t13)),(3,(.data (.sl false (.int .i64)) t3)),(2,(.data (.sl false (.int .i64)) t2)),(14,(.data (.int .i64) t14))] []) (kLoop (x42 N) 2 ⟨[15,4,1,0,13,3,2,14],[]⟩ kb k)=f42_L2 N t4 t1 t0 t13 t3 t2 t14 (fun y=>kb [(15,(.data (.int .i64) y)),(4,(.data (.sl false (.int .i64)) t4)),(1,(.data (.sl false (.int .i64)) t1)),(0,(.data (.sl false (.sl false (.int .i64))) t0)),(13,(.data (.sl false (.int .i64)) t13)),(3,(.data (.sl false (.int .i64)) t3)),(2,(.data (.sl false (.int .i64)) t2)),(14,(.data (.int .i64) t14))] [])
  (fun y0=>k .ret (St.of [(10,(.data .bool y0))] []))
  (fun _=>k (.exit 0) (St.of [(4,(.data (.sl false (.int .i64)) t4)),(0,(.data (.sl false (.sl false (.int .i64))) t0)),(3,(.data (.sl false (.int .i64)) t3)),(2,(.data (.sl false (.int .i64)) t2))] [])) x:=by kernel_rfl
theorem l42_2 (N:Nat):LoopOK (x42 N) (loopAt 2 (loopsOf b42)):=
 loop_mk (G42_2 N) (by kernel_rfl) (by kernel_rfl) (by kernel_rfl) fun R k d=>
  loop_eq (st:=fun (x:Int)=>([(15,(.data (.int .i64) x)),(4,(.data (.sl false (.int .i64)) d.1.2.1)),(1,(.data (.sl false (.int .i64)) d.1.2.2.1)),(0,(.data (.sl false (.sl false (.int .i64))) d.1.2.2.2.1)),(13,(.data (.sl false (.int .i64)) d.1.2.2.2.2.1)),(3,(.data (.sl false (.int .i64)) d.1.2.2.2.2.2.1)),(2,(.data (.sl false (.int .i64)) d.1.2.2.2.2.2.2.1)),(14,(.data (.int .i64) d.1.2.2.2.2.2.2.2.1))],[])) (s42_2 N k d.1.2.1 d.1.2.2.1 d.1.2.2.2.1 d.1.2.2.2.2.1 d.1.2.2.2.2.2.1 d.1.2.2.2.2.2.2.1 d.1.2.2.2.2.2.2.2.1) N d.1.1
theorem e42 (N:Nat) (a0:List (List Int)) (a1:List Int) (a2:List Int) (a3:List Int) (a4:List Int):bodyK (x42 N) [.bool] [.tmp 10] b42 (entry (.pr (.val (.sl false (.sl false (.int .i64)))) (.pr (.val (.sl false (.int .i64))) (.pr (.val (.sl false (.int .i64))) (.pr (.val (.sl false (.int .i64))) (.pr (.val (.sl false (.int .i64))) .un))))) (a0,(a1,(a2,(a3,(a4,()))))))=f42 N a0 a1 a2 a3 a4:=by kernel_rfl
theorem k42 (N:Nat):CalleeOK Go.Proofs.Try.prog 42 (c42 N):=
 fn_ok (fn:=Go.Proofs.Try.f42) (body:=b42) (c:=x42 N) Go.Proofs.Try.func42 (by kernel_rfl) (by kernel_rfl) ⟨ttL_ok,mtL_ok,eqL_ok,ctL_ok,msL_ok,env_cons (forall_mem1 (k41 N)) (env_cons (forall_mem1 (k29 N)) (env_nil))⟩ mixed (by kernel_rfl) (Nat.le_of_ble_eq_true (by kernel_rfl)) (by kernel_rfl) (by decide)
  (loops_ok (by kernel_rfl:loopsOf b42=[loopAt 2 (loopsOf b42)]) (.cons (l42_2 N) .nil)) fun d=>e42 N d.1 d.2.1 d.2.2.1 d.2.2.2.1 d.2.2.2.2.1
def f56 (N:Nat) (a0:List Int) (a1:Int):Option (Bool):=
 (f50 N a0 a1).bind fun r=>
 some (decide (0≤r))
def c56 (N:Nat):Callee:=.pure (.pr (.val (.sl false (.int .i64))) (.pr (.val (.int .i64)) .un)) [.bool] fun d=>f56 N d.1 d.2.1
def lp56 (N:Nat):Nat→Option LoopFn:=fun r=>none
def x56 (N:Nat):Ctx:={ fuel:=N,tt:=getL ttL,mt:=getL mtL,ntmps:=9,env:=fun f=>(getL [(50,[c50 N])] f).getD [],cut:=getL [],exits:=fun r=>getL ((getL [] r).getD []),res:=⟨[4],[]⟩,own:=fun _=>none,lp:=lp56 N,eqs:=fun T=>memN T eqL,ct:=fun T=>memN T ctL,ms:=getMs msL }
noncomputable def b56:Code:=((Go.Proofs.Try.f56).body).getD .skip
theorem e56 (N:Nat) (a0:List Int) (a1:Int):bodyK (x56 N) [.bool] [.tmp 4] b56 (entry (.pr (.val (.sl false (.int .i64))) (.pr (.val (.int .i64)) .un)) (a0,(a1,())))=f56 N a0 a1:=by kernel_rfl
theorem k56 (N:Nat):CalleeOK Go.Proofs.Try.prog 56 (c56 N):=
 fn_ok (fn:=Go.Proofs.Try.f56) (body:=b56) (c:=x56 N) Go.Proofs.Try.func56 (by kernel_rfl) (by kernel_rfl) ⟨ttL_ok,mtL_ok,eqL_ok,ctL_ok,msL_ok,env_cons (forall_mem1 (k50 N)) (env_nil)⟩ mixed (by kernel_rfl) (Nat.le_of_ble_eq_true (by kernel_rfl)) (by kernel_rfl) (by decide)
  (loops_ok (by kernel_rfl:loopsOf b56=[]) .nil) fun d=>e56 N d.1 d.2.1
def f43_L5 {R:Type} (N:Nat) (t1_1:List Int) (t0_1:List (List Int)) (t27:List Int) (t28:Int) (o0_1:List Bool) (o1_1:List Bool) (o3:(List Int×(Int×Unit))) (kb:Int×List Int×(List (Int×Bool))→Option R) (kret:Bool→(List Int)→Option R) (kx0:(List Int)→Option R):Int×List Int×(List (Int×Bool))→Option R:=
 fun (t29,o2_1,o4)=>
  cond (decide (t29 < t28))
   ((idx t27 t29).bind fun x=>
   (cond (decide (x < 0))
     (some true)
     (some (decide ((len t0_1)≤x)))).bind fun b_1=>
   (cond b_1
     (some true)
     (some (Option.getD (mget (keyEq (.int .i64)) o4 x) false))).bind fun b_2=>
   (cond b_2
     (some true)
     ((cond (decide (0 < t29))
       ((idx o3.1 (wi64 (t29-1))).bind fun x_1=>
       (idx t0_1 x_1).bind fun x_2=>
       (f56 N x_2 x).bind fun r=>
       some (!r))
       (some false)).bind fun b_3=>
     some b_3)).bind fun b_4=>
   cond b_4
    (kret false o2_1)
    ((idx t1_1 x).bind fun x_3=>
    cond (decide (x_3 < 0))
     (kb ((wi64 (t29+1)),o2_1,(mput (keyEq (.int .i64)) o4 x true)))
     ((idx t1_1 x).bind fun x_4=>
     chk (inb o2_1 x) <|
     (idx o2_1 x).bind fun x_5=>
     cond (decide ((wi64 (x_4-x_5)) < o3.2.1))
      (kret false o2_1)
      (chk (inb o2_1 x) <|
      (idx o2_1 x).bind fun x_6=>
      chk (inb o2_1 x) <|
      (idx o2_1 x).bind fun x_7=>
      (idx o2_1 x).bind fun x_8=>
      kb ((wi64 (t29+1)),(setI o2_1 x (wi64 (x_6+o3.2.1))),(mput (keyEq (.int .i64)) o4 x true))))))
   (kx0 o2_1)
def f43 (N:Nat) (t0:List (List Int)) (t1:List Int) (t5:(List Int×(Int×Unit))) (o0:List Bool) (o1:List Bool) (o2:List Int):Option (((Unit×(Unit×(Unit×(Bool×Unit))))×((List Bool)×((List Bool)×((List Int)×Unit))))):=
 (cond (decide (t5.2.1 < 1))
   (some true)
   (some (decide ((len t5.1)=0)))).bind fun b=>
 cond b
  (some (((),((),((),(false,())))),(o0,(o1,(o2,())))))
  (iter (fun w=>f43_L5 N t1 t0 t5.1 (len t5.1) o0 o1 t5 w
   (fun t12 o2_2=>
    some (((),((),((),(t12,())))),(o0,(o1,(o2_2,())))))
   (fun o2_3=>
    (idx t5.1 0).bind fun x_9=>
    chk (inb o0 x_9) <|
    (idx o0 x_9).bind fun x_10=>
    (cond x_10
      ((idx t5.1 (wi64 ((len t5.1)-1))).bind fun x_11=>
      chk (inb o1 x_11) <|
      (idx o1 x_11).bind fun x_12=>
      some x_12)
      (some false)).bind fun b_5=>
    some (((),((),((),(b_5,())))),(o0,(o1,(o2_3,())))))) N (0,o2,([]:List (Int×Bool))))
def fi43:SForm:=⟨[(0,(.val (.sl false (.sl false (.int .i64))))),(1,(.val (.sl false (.int .i64)))),(2,(.ref 0)),(3,(.ref 1)),(4,(.ref 2)),(5,(.val (.pair (.sl false (.int .i64)) (.pair (.int .i64) .unit))))],[.row .bool,.row .bool,.row (.int .i64)]⟩
def fo43:SForm:=⟨[(2,(.ref 0)),(3,(.ref 1)),(4,(.ref 2)),(12,(.val .bool))],[.row .bool,.row .bool,.row (.int .i64)]⟩
def c43 (N:Nat):Callee:=.mut fi43 [2,3,4] fo43 fun d=>f43 N d.1.1 d.1.2.1 d.1.2.2.2.2.2.1 d.2.1 d.2.2.1 d.2.2.2.1
def F43_5:SForm:=⟨[(2,(.ref 0)),(3,(.ref 1)),(4,(.ref 2)),(29,(.val (.int .i64))),(11,(.bptr 3 [])),(1,(.val (.sl false (.int .i64)))),(13,(.mref 4)),(0,(.val (.sl false (.sl false (.int .i64))))),(27,(.val (.sl false (.int .i64)))),(28,(.val (.int .i64)))],[.row .bool,.row .bool,.row (.int .i64),.cell (.val (.pair (.sl false (.int .i64)) (.pair (.int .i64) .unit))),.map (.int .i64) .bool]⟩
def G43_5 (N:Nat):(R:Type)→F43_5.den→(AExit→St→Option R)→Option R:=fun R d k=>iter (fun kb=>f43_L5 N d.1.2.2.2.2.2.1 d.1.2.2.2.2.2.2.2.1 d.1.2.2.2.2.2.2.2.2.1 d.1.2.2.2.2.2.2.2.2.2.1 d.2.1 d.2.2.1 d.2.2.2.2.1 kb
  (fun y0 y3=>k .ret (St.of [(2,(.ref 0 [] 0)),(3,(.ref 1 [] 0)),(4,(.ref 2 [] 0)),(12,(.data .bool y0))] [.row .bool d.2.1 0,.row .bool d.2.2.1 0,.row (.int .i64) y3 0]))
  (fun y2=>k (.exit 0) (St.of [(2,(.ref 0 [] 0)),(3,(.ref 1 [] 0)),(4,(.ref 2 [] 0)),(11,(.bptr 3 []))] [.row .bool d.2.1 0,.row .bool d.2.2.1 0,.row (.int .i64) y2 0,.cell (.data (.pair (.sl false (.int .i64)) (.pair (.int .i64) .unit)) d.2.2.2.2.1)]))) N (d.1.2.2.2.1,d.2.2.2.1,d.2.2.2.2.2.1)
def lp43 (N:Nat):Nat→Option LoopFn:=fun r=>cond (Nat.beq r 5) (some fun R sl os k=>F43_5.take sl os fun d=>G43_5 N R d k) (none)
def x43 (N:Nat):Ctx:={ fuel:=N,tt:=getL ttL,mt:=getL mtL,ntmps:=113,env:=fun f=>(getL [(56,[c56 N])] f).getD [],cut:=getL [(5,⟨[2,3,4,29,11,1,13,0,27,28],[]⟩)],exits:=fun r=>getL ((getL [(5,[(0,⟨[2,3,4,11],[]⟩)])] r).getD []),res:=⟨[2,3,4,12],[]⟩,own:=fun _=>none,lp:=lp43 N,eqs:=fun T=>memN T eqL,ct:=fun T=>memN T ctL,ms:=getMs msL }
noncomputable def b43:Code:=((Go.Proofs.Try.f43).body).getD .skip
theorem s43_5 (N:Nat) {R:Type} (k:AExit→St→Option R) (t1_1:List Int) (t0_1:List (List Int)) (t27:List Int) (t28:Int) (o0_1:List Bool) (o1_1:List Bool) (o3:(List Int×(Int×Unit))) (kb:List (Nat×AVal)→List Obj→Option R) (x:Int×List Int×(List (Int×Bool))):codeK (x43 N) (loopAt 5 (loopsOf b43)) (St.of [(2,(.ref 0 [] 0)),(3,(.ref 1 [] 0)),(4,(.ref 2 [] 0)),(29,(.data (.int .i64) x.1)),(11,(.bptr 3 [])),(1,(.data (.sl false (.int .i64)) t1_1)),(13,(.mref 4)),(0,(.data (.sl false (.sl false (.int .i64))) t0_1)),(27,(.data (.sl false (.int .i64)) t27)),(28,(.data (.int .i64) t28))] [.row .bool o0_1 0,.row .bool o1_1 0,.row (.int .i64) x.2.1 0,.cell (.data (.pair (.sl false (.int .i64)) (.pair (.int .i64) .unit)) o3),.map (.int .i64) .bool x.2.2]) (kLoop (x43 N) 5 ⟨[2,3,4,29,11,1,13,0,27,28],[]⟩ kb k)=f43_L5 N t1_1 t0_1 t27 t28 o0_1 o1_1 o3 (fun y=>kb [(2,(.ref 0 [] 0)),(3,(.ref 1 [] 0)),(4,(.ref 2 [] 0)),(29,(.data (.int .i64) y.1)),(11,(.bptr 3 [])),(1,(.data (.sl false (.int .i64)) t1_1)),(13,(.mref 4)),(0,(.data (.sl false (.sl false (.int .i64))) t0_1)),(27,(.data (.sl false (.int .i64)) t27)),(28,(.data (.int .i64) t28))] [.row .bool o0_1 0,.row .bool o1_1 0,.row (.int .i64) y.2.1 0,.cell (.data (.pair (.sl false (.int .i64)) (.pair (.int .i64) .unit)) o3),.map (.int .i64) .bool y.2.2])
  (fun y0 y3=>k .ret (St.of [(2,(.ref 0 [] 0)),(3,(.ref 1 [] 0)),(4,(.ref 2 [] 0)),(12,(.data .bool y0))] [.row .bool o0_1 0,.row .bool o1_1 0,.row (.int .i64) y3 0]))
  (fun y2=>k (.exit 0) (St.of [(2,(.ref 0 [] 0)),(3,(.ref 1 [] 0)),(4,(.ref 2 [] 0)),(11,(.bptr 3 []))] [.row .bool o0_1 0,.row .bool o1_1 0,.row (.int .i64) y2 0,.cell (.data (.pair (.sl false (.int .i64)) (.pair (.int .i64) .unit)) o3)])) x:=by kernel_rfl
theorem l43_5 (N:Nat):LoopOK (x43 N) (loopAt 5 (loopsOf b43)):=
 loop_mk (G43_5 N) (by kernel_rfl) (by kernel_rfl) (by kernel_rfl) fun R k d=>
  loop_eq (st:=fun (x:Int×List Int×(List (Int×Bool)))=>([(2,(.ref 0 [] 0)),(3,(.ref 1 [] 0)),(4,(.ref 2 [] 0)),(29,(.data (.int .i64) x.1)),(11,(.bptr 3 [])),(1,(.data (.sl false (.int .i64)) d.1.2.2.2.2.2.1)),(13,(.mref 4)),(0,(.data (.sl false (.sl false (.int .i64))) d.1.2.2.2.2.2.2.2.1)),(27,(.data (.sl false (.int .i64)) d.1.2.2.2.2.2.2.2.2.1)),(28,(.data (.int .i64) d.1.2.2.2.2.2.2.2.2.2.1))],[.row .bool d.2.1 0,.row .bool d.2.2.1 0,.row (.int .i64) x.2.1 0,.cell (.data (.pair (.sl false (.int .i64)) (.pair (.int .i64) .unit)) d.2.2.2.2.1),.map (.int .i64) .bool x.2.2])) (s43_5 N k d.1.2.2.2.2.2.1 d.1.2.2.2.2.2.2.2.1 d.1.2.2.2.2.2.2.2.2.1 d.1.2.2.2.2.2.2.2.2.2.1 d.2.1 d.2.2.1 d.2.2.2.2.1) N (d.1.2.2.2.1,d.2.2.2.1,d.2.2.2.2.2.1)
theorem e43 (N:Nat) (t0:List (List Int)) (t1:List Int) (t5:(List Int×(Int×Unit))) (o0:List Bool) (o1:List Bool) (o2:List Int):bodyM (x43 N) fo43 b43 (St.of [(0,(.data (.sl false (.sl false (.int .i64))) t0)),(1,(.data (.sl false (.int .i64)) t1)),(2,(.ref 0 [] 0)),(3,(.ref 1 [] 0)),(4,(.ref 2 [] 0)),(5,(.data (.pair (.sl false (.int .i64)) (.pair (.int .i64) .unit)) t5))] [.row .bool o0 0,.row .bool o1 0,.row (.int .i64) o2 0])=f43 N t0 t1 t5 o0 o1 o2:=by kernel_rfl
theorem k43 (N:Nat):CalleeOK Go.Proofs.Try.prog 43 (c43 N):=
 fn_ok_mut (fn:=Go.Proofs.Try.f43) (body:=b43) (c:=x43 N) (rs:=[12]) Go.Proofs.Try.func43 (by kernel_rfl) (by kernel_rfl) ⟨ttL_ok,mtL_ok,eqL_ok,ctL_ok,msL_ok,env_cons (forall_mem1 (k56 N)) (env_nil)⟩ mixed (by kernel_rfl) (Nat.le_of_ble_eq_true (by kernel_rfl)) (by kernel_rfl) (by kernel_rfl) (by kernel_rfl) (anchB_ok (by kernel_rfl))
  (loops_ok (by kernel_rfl:loopsOf b43=[loopAt 5 (loopsOf b43)]) (.cons (l43_5 N) .nil)) fun d=>e43 N d.1.1 d.1.2.1 d.1.2.2.2.2.2.1 d.2.1 d.2.2.1 d.2.2.2.1
end
end Go.Kz
