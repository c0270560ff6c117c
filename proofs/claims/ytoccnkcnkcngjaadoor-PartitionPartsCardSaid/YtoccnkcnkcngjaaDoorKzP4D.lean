/-
  The functions of the program as plain functions on lists and numbers, and the proofs that the program computes them. Printed by a program.
-/
import Derived.Test.YtoccnkcnkcngjaaDoorKzAR
import Derived.Test.YtoccnkcnkcngjaaDoorProg
set_option linter.unusedSimpArgs false
set_option maxRecDepth 100000
set_option linter.unusedVariables false
namespace Go.Kz
open Go.Proofs
noncomputable section
def ttL:List (Nat×Ty):=[(1,(.fn 0 .unit)),(2,(.int .i64)),(3,(.int .i64)),(4,.bool),(5,(.int .u8)),(6,(.int .u8)),(7,(.pair (.int .i64) (.pair (.int .i64) (.pair .bool (.pair (.int .u8) .unit))))),(8,(.pair (.int .i64) (.pair (.int .i64) (.pair .bool (.pair (.int .u8) .unit))))),(9,.str),(10,.str),(11,.str),(12,(.int .u64)),(13,(.pair .str (.pair (.int .u64) .unit))),(14,(.pair .str (.pair (.int .u64) .unit))),(21,(.int .i32)),(22,(.sl false (.int .i64))),(23,(.sl false (.int .u64))),(24,(.pair (.int .i64) (.pair (.sl false (.int .u64)) .unit))),(25,(.pair (.int .i64) (.pair (.sl false (.int .u64)) .unit))),(26,(.fn 0 .unit)),(27,(.int .i64)),(29,(.fn 0 .unit)),(31,(.fn 0 .unit)),(32,(.fn 0 .unit)),(33,(.int .u64)),(34,(.fn 0 .unit)),(35,(.fn 0 .unit)),(36,(.fn 0 .unit)),(37,(.fn 0 .unit)),(39,(.fn 0 .unit)),(40,(.fn 0 .unit)),(41,(.fn 0 .unit)),(43,(.fn 0 .unit)),(44,(.fn 0 .unit)),(45,(.fn 0 .unit)),(46,(.fn 0 .unit)),(49,(.fn 0 .unit)),(50,(.fn 0 .unit)),(51,(.sl false (.sl false (.int .i64)))),(52,(.fn 0 .unit)),(53,(.fn 0 .unit)),(54,(.fn 0 .unit)),(55,(.arr 64 (.int .u8))),(56,(.int .u64)),(57,(.fn 0 .unit)),(63,(.fn 0 .unit)),(64,(.int .u32)),(65,(.int .u8)),(66,(.int .u8)),(67,(.fn 0 .unit)),(69,(.int .i32)),(70,(.int .i32))]
def mtL:List (Nat×Ty×Ty):=[(42,(.int .i64),.bool),(47,(.int .i64),(.int .i64))]
def eqL:List Nat:=[7,8,55]
def ctL:List Nat:=[]
def msL:List (Nat×String×Nat×Option Nat):=[]
theorem ttL_ok:TtOK Go.Proofs.Tryd.prog (getL ttL):=ttB_ok (by kernel_rfl)
theorem mtL_ok:MtOK Go.Proofs.Tryd.prog (getL mtL):=mtB_ok (by kernel_rfl)
theorem eqL_ok:EqsOK Go.Proofs.Tryd.prog (fun T=>memN T eqL):=eqsB_ok (by kernel_rfl)
theorem ctL_ok:CtOK Go.Proofs.Tryd.prog (fun T=>memN T ctL):=ctB_ok (by kernel_rfl)
theorem msL_ok:MsOK Go.Proofs.Tryd.prog (getMs msL):=msB_ok (by kernel_rfl)
theorem mixed:Go.Proofs.Tryd.prog.follows .mixedOrders=true:=by kernel_rfl
def f13_L4 {R:Type} (N:Nat) (t13:List Int) (t14:Int) (kb:Int×List Int×(List (Int×Int))→Option R) (kx0:(List Int)→Option R):Int×List Int×(List (Int×Int))→Option R:=
 fun (t15,o0,o1)=>
  cond (decide (t15 < t14))
   ((idx t13 t15).bind fun x=>
   cond (!(Option.isSome (mget (keyEq (.int .i64)) o1 x)))
    (chk (decide ((List.length o1)≤room)) <|
    chk (decide ((Nat.succ (List.length o0))≤room)) <|
    kb ((wi64 (t15+1)),(o0++((len o1) :: ([]:List Int))),(mput (keyEq (.int .i64)) o1 x (len o1))))
    (chk (decide ((Nat.succ (List.length o0))≤room)) <|
    kb ((wi64 (t15+1)),(o0++((Option.getD (mget (keyEq (.int .i64)) o1 x) 0) :: ([]:List Int))),o1)))
   (kx0 o0)
def f13 (N:Nat) (a0:List Int):Option (List Int):=
 chk ((decide (0≤(len a0))) && (decide ((len a0)≤((room:Nat):Int)))) <|
 iter (fun w=>f13_L4 N a0 (len a0) w
  (fun o0_1=>
   some o0_1)) N (0,(List.replicate (Int.toNat 0) 0:List Int),([]:List (Int×Int)))
def c13 (N:Nat):Callee:=.pure (.pr (.val (.sl false (.int .i64))) .un) [(.sl true (.int .i64))] fun d=>f13 N d.1
def F13_4:SForm:=⟨[(15,(.val (.int .i64))),(4,(.ref 0)),(3,(.mref 1)),(13,(.val (.sl false (.int .i64)))),(14,(.val (.int .i64)))],[.row (.int .i64),.map (.int .i64) (.int .i64)]⟩
def G13_4 (N:Nat):(R:Type)→F13_4.den→(AExit→St→Option R)→Option R:=fun R d k=>iter (fun kb=>f13_L4 N d.1.2.2.2.1 d.1.2.2.2.2.1 kb
  (fun y0=>k (.exit 0) (St.of [(4,(.ref 0 [] 0))] [.row (.int .i64) y0 0]))) N (d.1.1,d.2.1,d.2.2.1)
def lp13 (N:Nat):Nat→Option LoopFn:=fun r=>cond (Nat.beq r 4) (some fun R sl os k=>F13_4.take sl os fun d=>G13_4 N R d k) (none)
def x13 (N:Nat):Ctx:={ fuel:=N,tt:=getL ttL,mt:=getL mtL,ntmps:=38,env:=fun f=>(getL [] f).getD [],cut:=getL [(4,⟨[15,4,3,13,14],[]⟩)],exits:=fun r=>getL ((getL [(4,[(0,⟨[4],[]⟩)])] r).getD []),res:=⟨[2],[]⟩,own:=fun _=>none,lp:=lp13 N,eqs:=fun T=>memN T eqL,ct:=fun T=>memN T ctL,ms:=getMs msL }
noncomputable def b13:Code:=((Go.Proofs.Tryd.f13).body).getD .skip
theorem s13_4 (N:Nat) {R:Type} (k:AExit→St→Option R) (t13:List Int) (t14:Int) (kb:List (Nat×AVal)→List Obj→Option R) (x:Int×List Int×(List (Int×Int))):codeK (x13 N) (loopAt 4 (loopsOf b13)) (St.of [(15,(.data (.int .i64) x.1)),(4,(.ref 0 [] 0)),(3,(.mref 1)),(13,(.data (.sl false (.int .i64)) t13)),(14,(.data (.int .i64) t14))] [.row (.int .i64) x.2.1 0,.map (.int .i64) (.int .i64) x.2.2]) (kLoop (x13 N) 4 ⟨[15,4,3,13,14],[]⟩ kb k)=f13_L4 N t13 t14 (fun y=>kb [(15,(.data (.int .i64) y.1)),(4,(.ref 0 [] 0)),(3,(.mref 1)),(13,(.data (.sl false (.int .i64)) t13)),(14,(.data (.int .i64) t14))] [.row (.int .i64) y.2.1 0,.map (.int .i64) (.int .i64) y.2.2])
  (fun y0=>k (.exit 0) (St.of [(4,(.ref 0 [] 0))] [.row (.int .i64) y0 0])) x:=by kernel_rfl
theorem l13_4 (N:Nat):LoopOK (x13 N) (loopAt 4 (loopsOf b13)):=
 loop_mk (G13_4 N) (by kernel_rfl) (by kernel_rfl) (by kernel_rfl) fun R k d=>
  loop_eq (st:=fun (x:Int×List Int×(List (Int×Int)))=>([(15,(.data (.int .i64) x.1)),(4,(.ref 0 [] 0)),(3,(.mref 1)),(13,(.data (.sl false (.int .i64)) d.1.2.2.2.1)),(14,(.data (.int .i64) d.1.2.2.2.2.1))],[.row (.int .i64) x.2.1 0,.map (.int .i64) (.int .i64) x.2.2])) (s13_4 N k d.1.2.2.2.1 d.1.2.2.2.2.1) N (d.1.1,d.2.1,d.2.2.1)
theorem e13 (N:Nat) (a0:List Int):bodyK (x13 N) [(.sl true (.int .i64))] [.tmp 2] b13 (entry (.pr (.val (.sl false (.int .i64))) .un) (a0,()))=f13 N a0:=by kernel_rfl
theorem k13 (N:Nat):CalleeOK Go.Proofs.Tryd.prog 13 (c13 N):=
 fn_ok (fn:=Go.Proofs.Tryd.f13) (body:=b13) (c:=x13 N) Go.Proofs.Tryd.func13 (by kernel_rfl) (by kernel_rfl) ⟨ttL_ok,mtL_ok,eqL_ok,ctL_ok,msL_ok,env_nil⟩ mixed (by kernel_rfl) (Nat.le_of_ble_eq_true (by kernel_rfl)) (by kernel_rfl) (by decide)
  (loops_ok (by kernel_rfl:loopsOf b13=[loopAt 4 (loopsOf b13)]) (.cons (l13_4 N) .nil)) fun d=>e13 N d.1
def f28_L3 {R:Type} (N:Nat) (t6:List Int) (t7:Int) (kb:Int×Int→Option R) (kret:Bool→Option R) (kx0:Unit→Option R):Int×Int→Option R:=
 fun (t8,t3)=>
  cond (decide (t8 < t7))
   ((idx t6 t8).bind fun x=>
   (cond (decide (x < 0))
     (some true)
     (some (decide (t3 < x)))).bind fun b=>
   cond b
    (kret false)
    (kb ((wi64 (t8+1)),(maxI t3 (wi64 (x+1))))))
   (kx0 ())
def f28 (N:Nat) (a0:List Int):Option (Bool):=
 iter (fun w=>f28_L3 N a0 (len a0) w
  (fun t2=>
   some t2)
  (fun (_:Unit)=>
   some true)) N (0,0)
def c28 (N:Nat):Callee:=.pure (.pr (.val (.sl false (.int .i64))) .un) [.bool] fun d=>f28 N d.1
def F28_3:SForm:=⟨[(8,(.val (.int .i64))),(3,(.val (.int .i64))),(6,(.val (.sl false (.int .i64)))),(7,(.val (.int .i64)))],[]⟩
def G28_3 (N:Nat):(R:Type)→F28_3.den→(AExit→St→Option R)→Option R:=fun R d k=>iter (fun kb=>f28_L3 N d.1.2.2.1 d.1.2.2.2.1 kb
  (fun y0=>k .ret (St.of [(2,(.data .bool y0))] []))
  (fun _=>k (.exit 0) (St.of [] []))) N (d.1.1,d.1.2.1)
def lp28 (N:Nat):Nat→Option LoopFn:=fun r=>cond (Nat.beq r 3) (some fun R sl os k=>F28_3.take sl os fun d=>G28_3 N R d k) (none)
def x28 (N:Nat):Ctx:={ fuel:=N,tt:=getL ttL,mt:=getL mtL,ntmps:=24,env:=fun f=>(getL [] f).getD [],cut:=getL [(3,⟨[8,3,6,7],[]⟩)],exits:=fun r=>getL ((getL [(3,[(0,⟨[],[]⟩)])] r).getD []),res:=⟨[2],[]⟩,own:=fun _=>none,lp:=lp28 N,eqs:=fun T=>memN T eqL,ct:=fun T=>memN T ctL,ms:=getMs msL }
noncomputable def b28:Code:=((Go.Proofs.Tryd.f28).body).getD .skip
theorem s28_3 (N:Nat) {R:Type} (k:AExit→St→Option R) (t6:List Int) (t7:Int) (kb:List (Nat×AVal)→List Obj→Option R) (x:Int×Int):codeK (x28 N) (loopAt 3 (loopsOf b28)) (St.of [(8,(.data (.int .i64) x.1)),(3,(.data (.int .i64) x.2)),(6,(.data (.sl false (.int .i64)) t6)),(7,(.data (.int .i64) t7))] []) (kLoop (x28 N) 3 ⟨[8,3,6,7],[]⟩ kb k)=f28_L3 N t6 t7 (fun y=>kb [(8,(.data (.int .i64) y.1)),(3,(.data (.int .i64) y.2)),(6,(.data (.sl false (.int .i64)) t6)),(7,(.data (.int .i64) t7))] [])
  (fun y0=>k .ret (St.of [(2,(.data .bool y0))] []))
  (fun _=>k (.exit 0) (St.of [] [])) x:=by kernel_rfl
theorem l28_3 (N:Nat):LoopOK (x28 N) (loopAt 3 (loopsOf b28)):=
 loop_mk (G28_3 N) (by kernel_rfl) (by kernel_rfl) (by kernel_rfl) fun R k d=>
  loop_eq (st:=fun (x:Int×Int)=>([(8,(.data (.int .i64) x.1)),(3,(.data (.int .i64) x.2)),(6,(.data (.sl false (.int .i64)) d.1.2.2.1)),(7,(.data (.int .i64) d.1.2.2.2.1))],[])) (s28_3 N k d.1.2.2.1 d.1.2.2.2.1) N (d.1.1,d.1.2.1)
theorem e28 (N:Nat) (a0:List Int):bodyK (x28 N) [.bool] [.tmp 2] b28 (entry (.pr (.val (.sl false (.int .i64))) .un) (a0,()))=f28 N a0:=by kernel_rfl
theorem k28 (N:Nat):CalleeOK Go.Proofs.Tryd.prog 28 (c28 N):=
 fn_ok (fn:=Go.Proofs.Tryd.f28) (body:=b28) (c:=x28 N) Go.Proofs.Tryd.func28 (by kernel_rfl) (by kernel_rfl) ⟨ttL_ok,mtL_ok,eqL_ok,ctL_ok,msL_ok,env_nil⟩ mixed (by kernel_rfl) (Nat.le_of_ble_eq_true (by kernel_rfl)) (by kernel_rfl) (by decide)
  (loops_ok (by kernel_rfl:loopsOf b28=[loopAt 3 (loopsOf b28)]) (.cons (l28_3 N) .nil)) fun d=>e28 N d.1
def f25 (N:Nat) (a0:List Int) (a1:List Int):Option (Int):=
 (f28 N a0).bind fun r=>
 (cond (!r)
   (some true)
   ((f28 N a1).bind fun r_1=>
   some (!r_1))).bind fun b=>
 cond b
  (some 1)
  (cond (!(decide ((len a0)=(len a1))))
   (some 2)
   (some 0))
def c25 (N:Nat):Callee:=.pure (.pr (.val (.sl false (.int .i64))) (.pr (.val (.sl false (.int .i64))) .un)) [(.int .i64)] fun d=>f25 N d.1 d.2.1
def lp25 (N:Nat):Nat→Option LoopFn:=fun r=>none
def x25 (N:Nat):Ctx:={ fuel:=N,tt:=getL ttL,mt:=getL mtL,ntmps:=18,env:=fun f=>(getL [(28,[c28 N])] f).getD [],cut:=getL [],exits:=fun r=>getL ((getL [] r).getD []),res:=⟨[4],[]⟩,own:=fun _=>none,lp:=lp25 N,eqs:=fun T=>memN T eqL,ct:=fun T=>memN T ctL,ms:=getMs msL }
noncomputable def b25:Code:=((Go.Proofs.Tryd.f25).body).getD .skip
theorem e25 (N:Nat) (a0:List Int) (a1:List Int):bodyK (x25 N) [(.int .i64)] [.tmp 4] b25 (entry (.pr (.val (.sl false (.int .i64))) (.pr (.val (.sl false (.int .i64))) .un)) (a0,(a1,())))=f25 N a0 a1:=by kernel_rfl
theorem k25 (N:Nat):CalleeOK Go.Proofs.Tryd.prog 25 (c25 N):=
 fn_ok (fn:=Go.Proofs.Tryd.f25) (body:=b25) (c:=x25 N) Go.Proofs.Tryd.func25 (by kernel_rfl) (by kernel_rfl) ⟨ttL_ok,mtL_ok,eqL_ok,ctL_ok,msL_ok,env_cons (forall_mem1 (k28 N)) (env_nil)⟩ mixed (by kernel_rfl) (Nat.le_of_ble_eq_true (by kernel_rfl)) (by kernel_rfl) (by decide)
  (loops_ok (by kernel_rfl:loopsOf b25=[]) .nil) fun d=>e25 N d.1 d.2.1
def f14_L6 {R:Type} (N:Nat) (t1:List Int) (t0:List Int) (t19:Int) (kb:Int×List Int→Option R) (kx0:(List Int)→Option R):Int×List Int→Option R:=
 fun (t20,o0)=>
  cond (decide (t20 < t19))
   ((idx t0 t20).bind fun x=>
   (idx t1 t20).bind fun x_1=>
   chk (inb o0 t20) <|
   (idx o0 t20).bind fun x_2=>
   (idx o0 t20).bind fun x_3=>
   kb ((wi64 (t20+1)),(setI o0 t20 (wi64 ((wi64 (x*(wi64 ((len t0)+1))))+x_1)))))
   (kx0 o0)
def f14 (N:Nat) (a0:List Int) (a1:List Int):Option (List Int×Int):=
 (f25 N a0 a1).bind fun r=>
 cond (!(decide (r=0)))
  (some (([]:List Int),r))
  (chk (((decide (0≤(len a0))) && (decide ((len a0)≤(len a0)))) && (decide ((len a0)≤((room:Nat):Int)))) <|
  iter (fun w=>f14_L6 N a1 a0 (len a0) w
   (fun o0_1=>
    (f13 N o0_1).bind fun r_1=>
    some (r_1,0))) N (0,(List.replicate (Int.toNat (len a0)) 0:List Int)))
def c14 (N:Nat):Callee:=.pure (.pr (.val (.sl false (.int .i64))) (.pr (.val (.sl false (.int .i64))) .un)) [(.sl true (.int .i64)),(.int .i64)] fun d=>f14 N d.1 d.2.1
def F14_6:SForm:=⟨[(20,(.val (.int .i64))),(1,(.val (.sl false (.int .i64)))),(0,(.val (.sl false (.int .i64)))),(7,(.ref 0)),(19,(.val (.int .i64)))],[.row (.int .i64)]⟩
def G14_6 (N:Nat):(R:Type)→F14_6.den→(AExit→St→Option R)→Option R:=fun R d k=>iter (fun kb=>f14_L6 N d.1.2.1 d.1.2.2.1 d.1.2.2.2.2.1 kb
  (fun y0=>k (.exit 0) (St.of [(7,(.ref 0 [] 0))] [.row (.int .i64) y0 0]))) N (d.1.1,d.2.1)
def lp14 (N:Nat):Nat→Option LoopFn:=fun r=>cond (Nat.beq r 6) (some fun R sl os k=>F14_6.take sl os fun d=>G14_6 N R d k) (none)
def x14 (N:Nat):Ctx:={ fuel:=N,tt:=getL ttL,mt:=getL mtL,ntmps:=42,env:=fun f=>(getL [(25,[c25 N]),(13,[c13 N])] f).getD [],cut:=getL [(6,⟨[20,1,0,7,19],[]⟩)],exits:=fun r=>getL ((getL [(6,[(0,⟨[7],[]⟩)])] r).getD []),res:=⟨[4,5],[]⟩,own:=fun _=>none,lp:=lp14 N,eqs:=fun T=>memN T eqL,ct:=fun T=>memN T ctL,ms:=getMs msL }
noncomputable def b14:Code:=((Go.Proofs.Tryd.f14).body).getD .skip
theorem s14_6 (N:Nat) {R:Type} (k:AExit→St→Option R) (t1:List Int) (t0:List Int) (t19:Int) (kb:List (Nat×AVal)→List Obj→Option R) (x:Int×List Int):codeK (x14 N) (loopAt 6 (loopsOf b14)) (St.of [(20,(.data (.int .i64) x.1)),(1,(.data (.sl false (.int .i64)) t1)),(0,(.data (.sl false (.int .i64)) t0)),(7,(.ref 0 [] 0)),(19,(.data (.int .i64) t19))] [.row (.int .i64) x.2 0]) (kLoop (x14 N) 6 ⟨[20,1,0,7,19],[]⟩ kb k)=f14_L6 N t1 t0 t19 (fun y=>kb [(20,(.data (.int .i64) y.1)),(1,(.data (.sl false (.int .i64)) t1)),(0,(.data (.sl false (.int .i64)) t0)),(7,(.ref 0 [] 0)),(19,(.data (.int .i64) t19))] [.row (.int .i64) y.2 0])
  (fun y0=>k (.exit 0) (St.of [(7,(.ref 0 [] 0))] [.row (.int .i64) y0 0])) x:=by kernel_rfl
theorem l14_6 (N:Nat):LoopOK (x14 N) (loopAt 6 (loopsOf b14)):=
 loop_mk (G14_6 N) (by kernel_rfl) (by kernel_rfl) (by kernel_rfl) fun R k d=>
  loop_eq (st:=fun (x:Int×List Int)=>([(20,(.data (.int .i64) x.1)),(1,(.data (.sl false (.int .i64)) d.1.2.1)),(0,(.data (.sl false (.int .i64)) d.1.2.2.1)),(7,(.ref 0 [] 0)),(19,(.data (.int .i64) d.1.2.2.2.2.1))],[.row (.int .i64) x.2 0])) (s14_6 N k d.1.2.1 d.1.2.2.1 d.1.2.2.2.2.1) N (d.1.1,d.2.1)
theorem e14 (N:Nat) (a0:List Int) (a1:List Int):bodyK (x14 N) [(.sl true (.int .i64)),(.int .i64)] [.tmp 4,.tmp 5] b14 (entry (.pr (.val (.sl false (.int .i64))) (.pr (.val (.sl false (.int .i64))) .un)) (a0,(a1,())))=f14 N a0 a1:=by kernel_rfl
theorem k14 (N:Nat):CalleeOK Go.Proofs.Tryd.prog 14 (c14 N):=
 fn_ok (fn:=Go.Proofs.Tryd.f14) (body:=b14) (c:=x14 N) Go.Proofs.Tryd.func14 (by kernel_rfl) (by kernel_rfl) ⟨ttL_ok,mtL_ok,eqL_ok,ctL_ok,msL_ok,env_cons (forall_mem1 (k25 N)) (env_cons (forall_mem1 (k13 N)) (env_nil))⟩ mixed (by kernel_rfl) (Nat.le_of_ble_eq_true (by kernel_rfl)) (by kernel_rfl) (by decide)
  (loops_ok (by kernel_rfl:loopsOf b14=[loopAt 6 (loopsOf b14)]) (.cons (l14_6 N) .nil)) fun d=>e14 N d.1 d.2.1
def f26_L1 {R:Type} (N:Nat) (t1:List Int) (kb:Int→Option R) (kx0:Int→Option R):Int→Option R:=
 fun t0=>
  (idx t1 t0).bind fun x=>
  cond (!(decide (x=t0)))
   ((idx t1 t0).bind fun x_1=>
   kb x_1)
   (kx0 t0)
def f26 (N:Nat) (a0:Int) (a1:List Int):Option (Int):=
 iter (fun w=>f26_L1 N a1 w
  (fun t0_1=>
   some t0_1)) N a0
def c26 (N:Nat):Callee:=.pure (.pr (.val (.int .i64)) (.pr (.val (.ptr (.sl false (.int .i64)))) .un)) [(.int .i64)] fun d=>f26 N d.1 d.2.1
def F26_1:SForm:=⟨[(0,(.val (.int .i64))),(1,(.val (.ptr (.sl false (.int .i64)))))],[]⟩
def G26_1 (N:Nat):(R:Type)→F26_1.den→(AExit→St→Option R)→Option R:=fun R d k=>iter (fun kb=>f26_L1 N d.1.2.1 kb
  (fun y0=>k (.exit 0) (St.of [(0,(.data (.int .i64) y0))] []))) N d.1.1
def lp26 (N:Nat):Nat→Option LoopFn:=fun r=>cond (Nat.beq r 1) (some fun R sl os k=>F26_1.take sl os fun d=>G26_1 N R d k) (none)
def x26 (N:Nat):Ctx:={ fuel:=N,tt:=getL ttL,mt:=getL mtL,ntmps:=15,env:=fun f=>(getL [] f).getD [],cut:=getL [(1,⟨[0,1],[]⟩)],exits:=fun r=>getL ((getL [(1,[(0,⟨[0],[]⟩)])] r).getD []),res:=⟨[3],[]⟩,own:=fun _=>none,lp:=lp26 N,eqs:=fun T=>memN T eqL,ct:=fun T=>memN T ctL,ms:=getMs msL }
noncomputable def b26:Code:=((Go.Proofs.Tryd.f26).body).getD .skip
theorem s26_1 (N:Nat) {R:Type} (k:AExit→St→Option R) (t1:List Int) (kb:List (Nat×AVal)→List Obj→Option R) (x:Int):codeK (x26 N) (loopAt 1 (loopsOf b26)) (St.of [(0,(.data (.int .i64) x)),(1,(.data (.ptr (.sl false (.int .i64))) t1))] []) (kLoop (x26 N) 1 ⟨[0,1],[]⟩ kb k)=f26_L1 N t1 (fun y=>kb [(0,(.data (.int .i64) y)),(1,(.data (.ptr (.sl false (.int .i64))) t1))] [])
  (fun y0=>k (.exit 0) (St.of [(0,(.data (.int .i64) y0))] [])) x:=by kernel_rfl
theorem l26_1 (N:Nat):LoopOK (x26 N) (loopAt 1 (loopsOf b26)):=
 loop_mk (G26_1 N) (by kernel_rfl) (by kernel_rfl) (by kernel_rfl) fun R k d=>
  loop_eq (st:=fun (x:Int)=>([(0,(.data (.int .i64) x)),(1,(.data (.ptr (.sl false (.int .i64))) d.1.2.1))],[])) (s26_1 N k d.1.2.1) N d.1.1
theorem e26 (N:Nat) (a0:Int) (a1:List Int):bodyK (x26 N) [(.int .i64)] [.tmp 3] b26 (entry (.pr (.val (.int .i64)) (.pr (.val (.ptr (.sl false (.int .i64)))) .un)) (a0,(a1,())))=f26 N a0 a1:=by kernel_rfl
theorem k26 (N:Nat):CalleeOK Go.Proofs.Tryd.prog 26 (c26 N):=
 fn_ok (fn:=Go.Proofs.Tryd.f26) (body:=b26) (c:=x26 N) Go.Proofs.Tryd.func26 (by kernel_rfl) (by kernel_rfl) ⟨ttL_ok,mtL_ok,eqL_ok,ctL_ok,msL_ok,env_nil⟩ mixed (by kernel_rfl) (Nat.le_of_ble_eq_true (by kernel_rfl)) (by kernel_rfl) (by decide)
  (loops_ok (by kernel_rfl:loopsOf b26=[loopAt 1 (loopsOf b26)]) (.cons (l26_1 N) .nil)) fun d=>e26 N d.1 d.2.1
def f15_L6 {R:Type} (N:Nat) (t0:List Int) (t1:List Int) (t30:Int) (kb:Int×List Int→Option R) (kx0:(List Int)→Option R):Int×List Int→Option R:=
 fun (t31,o1)=>
  cond (decide (t31 < t30))
   (chk (inb o1 t31) <|
   (idx o1 t31).bind fun x=>
   (idx o1 t31).bind fun x_1=>
   kb ((wi64 (t31+1)),(setI o1 t31 t31)))
   (kx0 o1)
def f15_L16 {R:Type} (N:Nat) (t0_2:List Int) (t43_1:Int) (t44_1:Int) (t11:List Int) (t52:Int) (o2_1:List Int) (o3:List (List Int)) (kb:Int×List Int→Option R) (kx4:(List Int)→Option R):Int×List Int→Option R:=
 fun (t53,o0)=>
  cond (decide (t53 < t52))
   (chk (inb o0 t53) <|
   (idx o0 t53).bind fun x_3=>
   (idx o0 t53).bind fun x_4=>
   kb ((wi64 (t53+1)),(setI o0 t53 (-1))))
   (kx4 o0)
def f15_L21 {R:Type} (N:Nat) (t60:List Int) (t0_3:List Int) (t43_2:Int) (t44_2:Int) (t61:Int) (o3_1:List (List Int)) (kb:Int×List Int×List Int→Option R) (kx6:(List Int)→Option R):Int×List Int×List Int→Option R:=
 fun (t62,o0_2,o2_2)=>
  cond (decide (t62 < t61))
   ((idx t60 t62).bind fun x_5=>
   chk (inb o0_2 x_5) <|
   (idx o0_2 x_5).bind fun x_6=>
   cond (decide (x_6 < 0))
    (chk (inb o0_2 x_5) <|
    (idx o0_2 x_5).bind fun x_7=>
    (idx o0_2 x_5).bind fun x_8=>
    kb ((wi64 (t62+1)),(setI o0_2 x_5 t62),o2_2))
    (chk (inb o0_2 x_5) <|
    (idx o0_2 x_5).bind fun x_9=>
    (f26 N x_9 o2_2).bind fun r_1=>
    (f26 N t62 o2_2).bind fun r_2=>
    chk (inb o2_2 (maxI r_1 r_2)) <|
    (idx o2_2 (maxI r_1 r_2)).bind fun x_10=>
    (idx o2_2 (maxI r_1 r_2)).bind fun x_11=>
    kb ((wi64 (t62+1)),o0_2,(setI o2_2 (maxI r_1 r_2) (minI r_1 r_2)))))
   (kx6 o2_2)
def f15_L12 {R:Type} (N:Nat) (t0_1:List Int) (t43:Int) (o2:List (List Int)) (kb:Int×List Int→Option R) (kx2:(List Int)→Option R):Int×List Int→Option R:=
 fun (t44,o1_2)=>
  cond (decide (t44 < t43))
   (chk (inb o2 t44) <|
   (idx o2 t44).bind fun x_2=>
   chk (((decide (0≤(len t0_1))) && (decide ((len t0_1)≤(len t0_1)))) && (decide ((len t0_1)≤((room:Nat):Int)))) <|
   iter (fun w=>f15_L16 N t0_1 t43 t44 x_2 (len (List.replicate (Int.toNat (len t0_1)) 0:List Int)) o1_2 o2 w
    (fun o0_1=>
     iter (fun w=>f15_L21 N x_2 t0_1 t43 t44 (len x_2) o2 w
      (fun o1_3=>
       kb ((wi64 (t44+1)),o1_3))) N (0,o0_1,o1_2))) N (0,(List.replicate (Int.toNat (len t0_1)) 0:List Int)))
   (kx2 o1_2)
def f15_L31 {R:Type} (N:Nat) (t99:Int) (o1_5:List Int) (kb:Int×List Int→Option R) (kx8:(List Int)→Option R):Int×List Int→Option R:=
 fun (t100,o2_3)=>
  cond (decide (t100 < t99))
   ((f26 N t100 o1_5).bind fun r_3=>
   chk (inb o2_3 t100) <|
   (idx o2_3 t100).bind fun x_12=>
   (idx o2_3 t100).bind fun x_13=>
   kb ((wi64 (t100+1)),(setI o2_3 t100 r_3)))
   (kx8 o2_3)
def f15 (N:Nat) (a0:List Int) (a1:List Int):Option (List Int×Int):=
 (f25 N a0 a1).bind fun r=>
 cond (!(decide (r=0)))
  (some (([]:List Int),r))
  (chk (((decide (0≤(len a0))) && (decide ((len a0)≤(len a0)))) && (decide ((len a0)≤((room:Nat):Int)))) <|
  iter (fun w=>f15_L6 N a0 a1 (len (List.replicate (Int.toNat (len a0)) 0:List Int)) w
   (fun o1_1=>
    iter (fun w=>f15_L12 N a0 (((Nat.succ 1):Nat):Int) (a0 :: (a1 :: ([]:List (List Int)))) w
     (fun o1_4=>
      chk (((decide (0≤(len a0))) && (decide ((len a0)≤(len a0)))) && (decide ((len a0)≤((room:Nat):Int)))) <|
      iter (fun w=>f15_L31 N (len (List.replicate (Int.toNat (len a0)) 0:List Int)) o1_4 w
       (fun o0_3=>
        (f13 N o0_3).bind fun r_4=>
        some (r_4,0))) N (0,(List.replicate (Int.toNat (len a0)) 0:List Int)))) N (0,o1_1))) N (0,(List.replicate (Int.toNat (len a0)) 0:List Int)))
def c15 (N:Nat):Callee:=.pure (.pr (.val (.sl false (.int .i64))) (.pr (.val (.sl false (.int .i64))) .un)) [(.sl true (.int .i64)),(.int .i64)] fun d=>f15 N d.1 d.2.1
def F15_6:SForm:=⟨[(31,(.val (.int .i64))),(7,(.bptr 0 [])),(0,(.val (.sl false (.int .i64)))),(1,(.val (.sl false (.int .i64)))),(30,(.val (.int .i64)))],[.cell (.ref 1),.row (.int .i64)]⟩
def G15_6 (N:Nat):(R:Type)→F15_6.den→(AExit→St→Option R)→Option R:=fun R d k=>iter (fun kb=>f15_L6 N d.1.2.2.1 d.1.2.2.2.1 d.1.2.2.2.2.1 kb
  (fun y2=>k (.exit 0) (St.of [(7,(.bptr 0 [])),(0,(.data (.sl false (.int .i64)) d.1.2.2.1)),(1,(.data (.sl false (.int .i64)) d.1.2.2.2.1))] [.cell (.ref 1 [] 0),.row (.int .i64) y2 0]))) N (d.1.1,d.2.2.1)
def F15_16:SForm:=⟨[(53,(.val (.int .i64))),(12,(.ref 0)),(7,(.bptr 1 [])),(9,(.clos 26 (.pr (.bptr 1 []) .un))),(0,(.val (.sl false (.int .i64)))),(42,(.ref 3)),(43,(.val (.int .i64))),(44,(.val (.int .i64))),(11,(.val (.sl false (.int .i64)))),(52,(.val (.int .i64)))],[.row (.int .i64),.cell (.ref 2),.row (.int .i64),.row (.sl false (.int .i64))]⟩
def G15_16 (N:Nat):(R:Type)→F15_16.den→(AExit→St→Option R)→Option R:=fun R d k=>iter (fun kb=>f15_L16 N d.1.2.2.2.2.1 d.1.2.2.2.2.2.2.1 d.1.2.2.2.2.2.2.2.1 d.1.2.2.2.2.2.2.2.2.1 d.1.2.2.2.2.2.2.2.2.2.1 d.2.2.2.1 d.2.2.2.2.1 kb
  (fun y4=>k (.exit 4) (St.of [(12,(.ref 0 [] 0)),(7,(.bptr 1 [])),(9,(.clos 26 (.pr (.bptr 1 []) .un))),(0,(.data (.sl false (.int .i64)) d.1.2.2.2.2.1)),(42,(.ref 3 [] 0)),(43,(.data (.int .i64) d.1.2.2.2.2.2.2.1)),(44,(.data (.int .i64) d.1.2.2.2.2.2.2.2.1)),(11,(.data (.sl false (.int .i64)) d.1.2.2.2.2.2.2.2.2.1))] [.row (.int .i64) y4 0,.cell (.ref 2 [] 0),.row (.int .i64) d.2.2.2.1 0,.row (.sl false (.int .i64)) d.2.2.2.2.1 0]))) N (d.1.1,d.2.1)
def F15_21:SForm:=⟨[(62,(.val (.int .i64))),(12,(.ref 0)),(7,(.bptr 1 [])),(9,(.clos 26 (.pr (.bptr 1 []) .un))),(60,(.val (.sl false (.int .i64)))),(0,(.val (.sl false (.int .i64)))),(42,(.ref 3)),(43,(.val (.int .i64))),(44,(.val (.int .i64))),(61,(.val (.int .i64)))],[.row (.int .i64),.cell (.ref 2),.row (.int .i64),.row (.sl false (.int .i64))]⟩
def G15_21 (N:Nat):(R:Type)→F15_21.den→(AExit→St→Option R)→Option R:=fun R d k=>iter (fun kb=>f15_L21 N d.1.2.2.2.2.1 d.1.2.2.2.2.2.1 d.1.2.2.2.2.2.2.2.1 d.1.2.2.2.2.2.2.2.2.1 d.1.2.2.2.2.2.2.2.2.2.1 d.2.2.2.2.1 kb
  (fun y3=>k (.exit 6) (St.of [(7,(.bptr 0 [])),(9,(.clos 26 (.pr (.bptr 0 []) .un))),(0,(.data (.sl false (.int .i64)) d.1.2.2.2.2.2.1)),(42,(.ref 2 [] 0)),(43,(.data (.int .i64) d.1.2.2.2.2.2.2.2.1)),(44,(.data (.int .i64) d.1.2.2.2.2.2.2.2.2.1))] [.cell (.ref 1 [] 0),.row (.int .i64) y3 0,.row (.sl false (.int .i64)) d.2.2.2.2.1 0]))) N (d.1.1,d.2.1,d.2.2.2.1)
def F15_12:SForm:=⟨[(7,(.bptr 0 [])),(9,(.clos 26 (.pr (.bptr 0 []) .un))),(44,(.val (.int .i64))),(0,(.val (.sl false (.int .i64)))),(42,(.ref 2)),(43,(.val (.int .i64)))],[.cell (.ref 1),.row (.int .i64),.row (.sl false (.int .i64))]⟩
def G15_12 (N:Nat):(R:Type)→F15_12.den→(AExit→St→Option R)→Option R:=fun R d k=>iter (fun kb=>f15_L12 N d.1.2.2.2.1 d.1.2.2.2.2.2.1 d.2.2.2.1 kb
  (fun y1=>k (.exit 2) (St.of [(9,(.clos 26 (.pr (.bptr 0 []) .un))),(0,(.data (.sl false (.int .i64)) d.1.2.2.2.1))] [.cell (.ref 1 [] 0),.row (.int .i64) y1 0]))) N (d.1.2.2.1,d.2.2.1)
def F15_31:SForm:=⟨[(100,(.val (.int .i64))),(9,(.clos 26 (.pr (.bptr 0 []) .un))),(18,(.ref 2)),(99,(.val (.int .i64)))],[.cell (.ref 1),.row (.int .i64),.row (.int .i64)]⟩
def G15_31 (N:Nat):(R:Type)→F15_31.den→(AExit→St→Option R)→Option R:=fun R d k=>iter (fun kb=>f15_L31 N d.1.2.2.2.1 d.2.2.1 kb
  (fun y0=>k (.exit 8) (St.of [(18,(.ref 0 [] 0))] [.row (.int .i64) y0 0]))) N (d.1.1,d.2.2.2.1)
def lp15 (N:Nat):Nat→Option LoopFn:=fun r=>cond (Nat.beq r 6) (some fun R sl os k=>F15_6.take sl os fun d=>G15_6 N R d k) (cond (Nat.beq r 16) (some fun R sl os k=>F15_16.take sl os fun d=>G15_16 N R d k) (cond (Nat.beq r 21) (some fun R sl os k=>F15_21.take sl os fun d=>G15_21 N R d k) (cond (Nat.beq r 12) (some fun R sl os k=>F15_12.take sl os fun d=>G15_12 N R d k) (cond (Nat.beq r 31) (some fun R sl os k=>F15_31.take sl os fun d=>G15_31 N R d k) (none)))))
def x15 (N:Nat):Ctx:={ fuel:=N,tt:=getL ttL,mt:=getL mtL,ntmps:=112,env:=fun f=>(getL [(25,[c25 N]),(26,[c26 N]),(13,[c13 N])] f).getD [],cut:=getL [(6,⟨[31,7,0,1,30],[]⟩),(12,⟨[7,9,44,0,42,43],[]⟩),(16,⟨[53,12,7,9,0,42,43,44,11,52],[]⟩),(21,⟨[62,12,7,9,60,0,42,43,44,61],[]⟩),(31,⟨[100,9,18,99],[]⟩)],exits:=fun r=>getL ((getL [(6,[(0,⟨[7,0,1],[]⟩)]),(12,[(2,⟨[9,0],[]⟩)]),(16,[(4,⟨[12,7,9,0,42,43,44,11],[]⟩)]),(21,[(6,⟨[7,9,0,42,43,44],[]⟩)]),(31,[(8,⟨[18],[]⟩)])] r).getD []),res:=⟨[4,5],[]⟩,own:=fun _=>none,lp:=lp15 N,eqs:=fun T=>memN T eqL,ct:=fun T=>memN T ctL,ms:=getMs msL }
noncomputable def b15:Code:=((Go.Proofs.Tryd.f15).body).getD .skip
theorem s15_6 (N:Nat) {R:Type} (k:AExit→St→Option R) (t0:List Int) (t1:List Int) (t30:Int) (kb:List (Nat×AVal)→List Obj→Option R) (x:Int×List Int):codeK (x15 N) (loopAt 6 (loopsOf b15)) (St.of [(31,(.data (.int .i64) x.1)),(7,(.bptr 0 [])),(0,(.data (.sl false (.int .i64)) t0)),(1,(.data (.sl false (.int .i64)) t1)),(30,(.data (.int .i64) t30))] [.cell (.ref 1 [] 0),.row (.int .i64) x.2 0]) (kLoop (x15 N) 6 ⟨[31,7,0,1,30],[]⟩ kb k)=f15_L6 N t0 t1 t30 (fun y=>kb [(31,(.data (.int .i64) y.1)),(7,(.bptr 0 [])),(0,(.data (.sl false (.int .i64)) t0)),(1,(.data (.sl false (.int .i64)) t1)),(30,(.data (.int .i64) t30))] [.cell (.ref 1 [] 0),.row (.int .i64) y.2 0])
  (fun y2=>k (.exit 0) (St.of [(7,(.bptr 0 [])),(0,(.data (.sl false (.int .i64)) t0)),(1,(.data (.sl false (.int .i64)) t1))] [.cell (.ref 1 [] 0),.row (.int .i64) y2 0])) x:=by kernel_rfl
theorem l15_6 (N:Nat):LoopOK (x15 N) (loopAt 6 (loopsOf b15)):=
 loop_mk (G15_6 N) (by kernel_rfl) (by kernel_rfl) (by kernel_rfl) fun R k d=>
  loop_eq (st:=fun (x:Int×List Int)=>([(31,(.data (.int .i64) x.1)),(7,(.bptr 0 [])),(0,(.data (.sl false (.int .i64)) d.1.2.2.1)),(1,(.data (.sl false (.int .i64)) d.1.2.2.2.1)),(30,(.data (.int .i64) d.1.2.2.2.2.1))],[.cell (.ref 1 [] 0),.row (.int .i64) x.2 0])) (s15_6 N k d.1.2.2.1 d.1.2.2.2.1 d.1.2.2.2.2.1) N (d.1.1,d.2.2.1)
theorem s15_16 (N:Nat) {R:Type} (k:AExit→St→Option R) (t0_2:List Int) (t43_1:Int) (t44_1:Int) (t11:List Int) (t52:Int) (o2_1:List Int) (o3:List (List Int)) (kb:List (Nat×AVal)→List Obj→Option R) (x:Int×List Int):codeK (x15 N) (loopAt 16 (loopsOf b15)) (St.of [(53,(.data (.int .i64) x.1)),(12,(.ref 0 [] 0)),(7,(.bptr 1 [])),(9,(.clos 26 (.pr (.bptr 1 []) .un))),(0,(.data (.sl false (.int .i64)) t0_2)),(42,(.ref 3 [] 0)),(43,(.data (.int .i64) t43_1)),(44,(.data (.int .i64) t44_1)),(11,(.data (.sl false (.int .i64)) t11)),(52,(.data (.int .i64) t52))] [.row (.int .i64) x.2 0,.cell (.ref 2 [] 0),.row (.int .i64) o2_1 0,.row (.sl false (.int .i64)) o3 0]) (kLoop (x15 N) 16 ⟨[53,12,7,9,0,42,43,44,11,52],[]⟩ kb k)=f15_L16 N t0_2 t43_1 t44_1 t11 t52 o2_1 o3 (fun y=>kb [(53,(.data (.int .i64) y.1)),(12,(.ref 0 [] 0)),(7,(.bptr 1 [])),(9,(.clos 26 (.pr (.bptr 1 []) .un))),(0,(.data (.sl false (.int .i64)) t0_2)),(42,(.ref 3 [] 0)),(43,(.data (.int .i64) t43_1)),(44,(.data (.int .i64) t44_1)),(11,(.data (.sl false (.int .i64)) t11)),(52,(.data (.int .i64) t52))] [.row (.int .i64) y.2 0,.cell (.ref 2 [] 0),.row (.int .i64) o2_1 0,.row (.sl false (.int .i64)) o3 0])
  (fun y4=>k (.exit 4) (St.of [(12,(.ref 0 [] 0)),(7,(.bptr 1 [])),(9,(.clos 26 (.pr (.bptr 1 []) .un))),(0,(.data (.sl false (.int .i64)) t0_2)),(42,(.ref 3 [] 0)),(43,(.data (.int .i64) t43_1)),(44,(.data (.int .i64) t44_1)),(11,(.data (.sl false (.int .i64)) t11))] [.row (.int .i64) y4 0,.cell (.ref 2 [] 0),.row (.int .i64) o2_1 0,.row (.sl false (.int .i64)) o3 0])) x:=by kernel_rfl
theorem l15_16 (N:Nat):LoopOK (x15 N) (loopAt 16 (loopsOf b15)):=
 loop_mk (G15_16 N) (by kernel_rfl) (by kernel_rfl) (by kernel_rfl) fun R k d=>
  loop_eq (st:=fun (x:Int×List Int)=>([(53,(.data (.int .i64) x.1)),(12,(.ref 0 [] 0)),(7,(.bptr 1 [])),(9,(.clos 26 (.pr (.bptr 1 []) .un))),(0,(.data (.sl false (.int .i64)) d.1.2.2.2.2.1)),(42,(.ref 3 [] 0)),(43,(.data (.int .i64) d.1.2.2.2.2.2.2.1)),(44,(.data (.int .i64) d.1.2.2.2.2.2.2.2.1)),(11,(.data (.sl false (.int .i64)) d.1.2.2.2.2.2.2.2.2.1)),(52,(.data (.int .i64) d.1.2.2.2.2.2.2.2.2.2.1))],[.row (.int .i64) x.2 0,.cell (.ref 2 [] 0),.row (.int .i64) d.2.2.2.1 0,.row (.sl false (.int .i64)) d.2.2.2.2.1 0])) (s15_16 N k d.1.2.2.2.2.1 d.1.2.2.2.2.2.2.1 d.1.2.2.2.2.2.2.2.1 d.1.2.2.2.2.2.2.2.2.1 d.1.2.2.2.2.2.2.2.2.2.1 d.2.2.2.1 d.2.2.2.2.1) N (d.1.1,d.2.1)
theorem s15_21 (N:Nat) {R:Type} (k:AExit→St→Option R) (t60:List Int) (t0_3:List Int) (t43_2:Int) (t44_2:Int) (t61:Int) (o3_1:List (List Int)) (kb:List (Nat×AVal)→List Obj→Option R) (x:Int×List Int×List Int):codeK (x15 N) (loopAt 21 (loopsOf b15)) (St.of [(62,(.data (.int .i64) x.1)),(12,(.ref 0 [] 0)),(7,(.bptr 1 [])),(9,(.clos 26 (.pr (.bptr 1 []) .un))),(60,(.data (.sl false (.int .i64)) t60)),(0,(.data (.sl false (.int .i64)) t0_3)),(42,(.ref 3 [] 0)),(43,(.data (.int .i64) t43_2)),(44,(.data (.int .i64) t44_2)),(61,(.data (.int .i64) t61))] [.row (.int .i64) x.2.1 0,.cell (.ref 2 [] 0),.row (.int .i64) x.2.2 0,.row (.sl false (.int .i64)) o3_1 0]) (kLoop (x15 N) 21 ⟨[62,12,7,9,60,0,42,43,44,61],[]⟩ kb k)=f15_L21 N t60 t0_3 t43_2 t44_2 t61 o3_1 (fun y=>kb [(62,(.data (.int .i64) y.1)),(12,(.ref 0 [] 0)),(7,(.bptr 1 [])),(9,(.clos 26 (.pr (.bptr 1 []) .un))),(60,(.data (.sl false (.int .i64)) t60)),(0,(.data (.sl false (.int .i64)) t0_3)),(42,(.ref 3 [] 0)),(43,(.data (.int .i64) t43_2)),(44,(.data (.int .i64) t44_2)),(61,(.data (.int .i64) t61))] [.row (.int .i64) y.2.1 0,.cell (.ref 2 [] 0),.row (.int .i64) y.2.2 0,.row (.sl false (.int .i64)) o3_1 0])
  (fun y3=>k (.exit 6) (St.of [(7,(.bptr 0 [])),(9,(.clos 26 (.pr (.bptr 0 []) .un))),(0,(.data (.sl false (.int .i64)) t0_3)),(42,(.ref 2 [] 0)),(43,(.data (.int .i64) t43_2)),(44,(.data (.int .i64) t44_2))] [.cell (.ref 1 [] 0),.row (.int .i64) y3 0,.row (.sl false (.int .i64)) o3_1 0])) x:=by kernel_rfl
theorem l15_21 (N:Nat):LoopOK (x15 N) (loopAt 21 (loopsOf b15)):=
 loop_mk (G15_21 N) (by kernel_rfl) (by kernel_rfl) (by kernel_rfl) fun R k d=>
  loop_eq (st:=fun (x:Int×List Int×List Int)=>([(62,(.data (.int .i64) x.1)),(12,(.ref 0 [] 0)),(7,(.bptr 1 [])),(9,(.clos 26 (.pr (.bptr 1 []) .un))),(60,(.data (.sl false (.int .i64)) d.1.2.2.2.2.1)),(0,(.data (.sl false (.int .i64)) d.1.2.2.2.2.2.1)),(42,(.ref 3 [] 0)),(43,(.data (.int .i64) d.1.2.2.2.2.2.2.2.1)),(44,(.data (.int .i64) d.1.2.2.2.2.2.2.2.2.1)),(61,(.data (.int .i64) d.1.2.2.2.2.2.2.2.2.2.1))],[.row (.int .i64) x.2.1 0,.cell (.ref 2 [] 0),.row (.int .i64) x.2.2 0,.row (.sl false (.int .i64)) d.2.2.2.2.1 0])) (s15_21 N k d.1.2.2.2.2.1 d.1.2.2.2.2.2.1 d.1.2.2.2.2.2.2.2.1 d.1.2.2.2.2.2.2.2.2.1 d.1.2.2.2.2.2.2.2.2.2.1 d.2.2.2.2.1) N (d.1.1,d.2.1,d.2.2.2.1)
theorem s15_12 (N:Nat) {R:Type} (k:AExit→St→Option R) (t0_1:List Int) (t43:Int) (o2:List (List Int)) (kb:List (Nat×AVal)→List Obj→Option R) (x:Int×List Int):codeK (x15 N) (loopAt 12 (loopsOf b15)) (St.of [(7,(.bptr 0 [])),(9,(.clos 26 (.pr (.bptr 0 []) .un))),(44,(.data (.int .i64) x.1)),(0,(.data (.sl false (.int .i64)) t0_1)),(42,(.ref 2 [] 0)),(43,(.data (.int .i64) t43))] [.cell (.ref 1 [] 0),.row (.int .i64) x.2 0,.row (.sl false (.int .i64)) o2 0]) (kLoop (x15 N) 12 ⟨[7,9,44,0,42,43],[]⟩ kb k)=f15_L12 N t0_1 t43 o2 (fun y=>kb [(7,(.bptr 0 [])),(9,(.clos 26 (.pr (.bptr 0 []) .un))),(44,(.data (.int .i64) y.1)),(0,(.data (.sl false (.int .i64)) t0_1)),(42,(.ref 2 [] 0)),(43,(.data (.int .i64) t43))] [.cell (.ref 1 [] 0),.row (.int .i64) y.2 0,.row (.sl false (.int .i64)) o2 0])
  (fun y1=>k (.exit 2) (St.of [(9,(.clos 26 (.pr (.bptr 0 []) .un))),(0,(.data (.sl false (.int .i64)) t0_1))] [.cell (.ref 1 [] 0),.row (.int .i64) y1 0])) x:=by kernel_rfl
theorem l15_12 (N:Nat):LoopOK (x15 N) (loopAt 12 (loopsOf b15)):=
 loop_mk (G15_12 N) (by kernel_rfl) (by kernel_rfl) (by kernel_rfl) fun R k d=>
  loop_eq (st:=fun (x:Int×List Int)=>([(7,(.bptr 0 [])),(9,(.clos 26 (.pr (.bptr 0 []) .un))),(44,(.data (.int .i64) x.1)),(0,(.data (.sl false (.int .i64)) d.1.2.2.2.1)),(42,(.ref 2 [] 0)),(43,(.data (.int .i64) d.1.2.2.2.2.2.1))],[.cell (.ref 1 [] 0),.row (.int .i64) x.2 0,.row (.sl false (.int .i64)) d.2.2.2.1 0])) (s15_12 N k d.1.2.2.2.1 d.1.2.2.2.2.2.1 d.2.2.2.1) N (d.1.2.2.1,d.2.2.1)
theorem s15_31 (N:Nat) {R:Type} (k:AExit→St→Option R) (t99:Int) (o1_5:List Int) (kb:List (Nat×AVal)→List Obj→Option R) (x:Int×List Int):codeK (x15 N) (loopAt 31 (loopsOf b15)) (St.of [(100,(.data (.int .i64) x.1)),(9,(.clos 26 (.pr (.bptr 0 []) .un))),(18,(.ref 2 [] 0)),(99,(.data (.int .i64) t99))] [.cell (.ref 1 [] 0),.row (.int .i64) o1_5 0,.row (.int .i64) x.2 0]) (kLoop (x15 N) 31 ⟨[100,9,18,99],[]⟩ kb k)=f15_L31 N t99 o1_5 (fun y=>kb [(100,(.data (.int .i64) y.1)),(9,(.clos 26 (.pr (.bptr 0 []) .un))),(18,(.ref 2 [] 0)),(99,(.data (.int .i64) t99))] [.cell (.ref 1 [] 0),.row (.int .i64) o1_5 0,.row (.int .i64) y.2 0])
  (fun y0=>k (.exit 8) (St.of [(18,(.ref 0 [] 0))] [.row (.int .i64) y0 0])) x:=by kernel_rfl
theorem l15_31 (N:Nat):LoopOK (x15 N) (loopAt 31 (loopsOf b15)):=
 loop_mk (G15_31 N) (by kernel_rfl) (by kernel_rfl) (by kernel_rfl) fun R k d=>
  loop_eq (st:=fun (x:Int×List Int)=>([(100,(.data (.int .i64) x.1)),(9,(.clos 26 (.pr (.bptr 0 []) .un))),(18,(.ref 2 [] 0)),(99,(.data (.int .i64) d.1.2.2.2.1))],[.cell (.ref 1 [] 0),.row (.int .i64) d.2.2.1 0,.row (.int .i64) x.2 0])) (s15_31 N k d.1.2.2.2.1 d.2.2.1) N (d.1.1,d.2.2.2.1)
theorem e15 (N:Nat) (a0:List Int) (a1:List Int):bodyK (x15 N) [(.sl true (.int .i64)),(.int .i64)] [.tmp 4,.tmp 5] b15 (entry (.pr (.val (.sl false (.int .i64))) (.pr (.val (.sl false (.int .i64))) .un)) (a0,(a1,())))=f15 N a0 a1:=by kernel_rfl
theorem k15 (N:Nat):CalleeOK Go.Proofs.Tryd.prog 15 (c15 N):=
 fn_ok (fn:=Go.Proofs.Tryd.f15) (body:=b15) (c:=x15 N) Go.Proofs.Tryd.func15 (by kernel_rfl) (by kernel_rfl) ⟨ttL_ok,mtL_ok,eqL_ok,ctL_ok,msL_ok,env_cons (forall_mem1 (k25 N)) (env_cons (forall_mem1 (k26 N)) (env_cons (forall_mem1 (k13 N)) (env_nil)))⟩ mixed (by kernel_rfl) (Nat.le_of_ble_eq_true (by kernel_rfl)) (by kernel_rfl) (by decide)
  (loops_ok (by kernel_rfl:loopsOf b15=[loopAt 6 (loopsOf b15),loopAt 12 (loopsOf b15),loopAt 16 (loopsOf b15),loopAt 21 (loopsOf b15),loopAt 31 (loopsOf b15)]) (.cons (l15_6 N) (.cons (l15_12 N) (.cons (l15_16 N) (.cons (l15_21 N) (.cons (l15_31 N) .nil)))))) fun d=>e15 N d.1 d.2.1
def f16_L4 {R:Type} (N:Nat) (t1:List Int) (t0:List Int) (t12:Int) (kb:Int→Option R) (kret:Bool→Option R) (kx0:Unit→Option R):Int→Option R:=
 fun t13=>
  cond (decide (t13 < t12))
   ((idx t0 t13).bind fun x=>
   (idx t1 t13).bind fun x_1=>
   cond (!(decide (x=x_1)))
    (kret false)
    (kb (wi64 (t13+1))))
   (kx0 ())
def f16 (N:Nat) (a0:List Int) (a1:List Int):Option (Bool):=
 cond (!(decide ((len a0)=(len a1))))
  (some false)
  (iter (fun w=>f16_L4 N a1 a0 (len a0) w
   (fun t4=>
    some t4)
   (fun (_:Unit)=>
    some true)) N 0)
def c16 (N:Nat):Callee:=.pure (.pr (.val (.sl false (.int .i64))) (.pr (.val (.sl false (.int .i64))) .un)) [.bool] fun d=>f16 N d.1 d.2.1
def F16_4:SForm:=⟨[(13,(.val (.int .i64))),(1,(.val (.sl false (.int .i64)))),(0,(.val (.sl false (.int .i64)))),(12,(.val (.int .i64)))],[]⟩
def G16_4 (N:Nat):(R:Type)→F16_4.den→(AExit→St→Option R)→Option R:=fun R d k=>iter (fun kb=>f16_L4 N d.1.2.1 d.1.2.2.1 d.1.2.2.2.1 kb
  (fun y0=>k .ret (St.of [(4,(.data .bool y0))] []))
  (fun _=>k (.exit 0) (St.of [] []))) N d.1.1
def lp16 (N:Nat):Nat→Option LoopFn:=fun r=>cond (Nat.beq r 4) (some fun R sl os k=>F16_4.take sl os fun d=>G16_4 N R d k) (none)
def x16 (N:Nat):Ctx:={ fuel:=N,tt:=getL ttL,mt:=getL mtL,ntmps:=26,env:=fun f=>(getL [] f).getD [],cut:=getL [(4,⟨[13,1,0,12],[]⟩)],exits:=fun r=>getL ((getL [(4,[(0,⟨[],[]⟩)])] r).getD []),res:=⟨[4],[]⟩,own:=fun _=>none,lp:=lp16 N,eqs:=fun T=>memN T eqL,ct:=fun T=>memN T ctL,ms:=getMs msL }
noncomputable def b16:Code:=((Go.Proofs.Tryd.f16).body).getD .skip
theorem s16_4 (N:Nat) {R:Type} (k:AExit→St→Option R) (t1:List Int) (t0:List Int) (t12:Int) (kb:List (Nat×AVal)→List Obj→Option R) (x:Int):codeK (x16 N) (loopAt 4 (loopsOf b16)) (St.of [(13,(.data (.int .i64) x)),(1,(.data (.sl false (.int .i64)) t1)),(0,(.data (.sl false (.int .i64)) t0)),(12,(.data (.int .i64) t12))] []) (kLoop (x16 N) 4 ⟨[13,1,0,12],[]⟩ kb k)=f16_L4 N t1 t0 t12 (fun y=>kb [(13,(.data (.int .i64) y)),(1,(.data (.sl false (.int .i64)) t1)),(0,(.data (.sl false (.int .i64)) t0)),(12,(.data (.int .i64) t12))] [])
  (fun y0=>k .ret (St.of [(4,(.data .bool y0))] []))
  (fun _=>k (.exit 0) (St.of [] [])) x:=by kernel_rfl
theorem l16_4 (N:Nat):LoopOK (x16 N) (loopAt 4 (loopsOf b16)):=
 loop_mk (G16_4 N) (by kernel_rfl) (by kernel_rfl) (by kernel_rfl) fun R k d=>
  loop_eq (st:=fun (x:Int)=>([(13,(.data (.int .i64) x)),(1,(.data (.sl false (.int .i64)) d.1.2.1)),(0,(.data (.sl false (.int .i64)) d.1.2.2.1)),(12,(.data (.int .i64) d.1.2.2.2.1))],[])) (s16_4 N k d.1.2.1 d.1.2.2.1 d.1.2.2.2.1) N d.1.1
theorem e16 (N:Nat) (a0:List Int) (a1:List Int):bodyK (x16 N) [.bool] [.tmp 4] b16 (entry (.pr (.val (.sl false (.int .i64))) (.pr (.val (.sl false (.int .i64))) .un)) (a0,(a1,())))=f16 N a0 a1:=by kernel_rfl
theorem k16 (N:Nat):CalleeOK Go.Proofs.Tryd.prog 16 (c16 N):=
 fn_ok (fn:=Go.Proofs.Tryd.f16) (body:=b16) (c:=x16 N) Go.Proofs.Tryd.func16 (by kernel_rfl) (by kernel_rfl) ⟨ttL_ok,mtL_ok,eqL_ok,ctL_ok,msL_ok,env_nil⟩ mixed (by kernel_rfl) (Nat.le_of_ble_eq_true (by kernel_rfl)) (by kernel_rfl) (by decide)
  (loops_ok (by kernel_rfl:loopsOf b16=[loopAt 4 (loopsOf b16)]) (.cons (l16_4 N) .nil)) fun d=>e16 N d.1 d.2.1
def f27_L5 {R:Type} (N:Nat) (t9:List Int) (t10:Int) (kb:Int×List Int→Option R) (kx0:(List Int)→Option R):Int×List Int→Option R:=
 fun (t11,o0)=>
  cond (decide (t11 < t10))
   ((idx t9 t11).bind fun x=>
   cond (decide (x=(len o0)))
    (chk (decide ((Nat.succ (List.length o0))≤room)) <|
    chk (inb (o0++(0 :: ([]:List Int))) x) <|
    (idx (o0++(0 :: ([]:List Int))) x).bind fun x_1=>
    chk (inb (o0++(0 :: ([]:List Int))) x) <|
    (idx (o0++(0 :: ([]:List Int))) x).bind fun x_2=>
    (idx (o0++(0 :: ([]:List Int))) x).bind fun x_3=>
    kb ((wi64 (t11+1)),(setI (o0++(0 :: ([]:List Int))) x (wi64 (x_1+1)))))
    (chk (inb o0 x) <|
    (idx o0 x).bind fun x_4=>
    chk (inb o0 x) <|
    (idx o0 x).bind fun x_5=>
    (idx o0 x).bind fun x_6=>
    kb ((wi64 (t11+1)),(setI o0 x (wi64 (x_4+1))))))
   (kx0 o0)
def f27 (N:Nat) (a0:List Int):Option (List Int):=
 (f28 N a0).bind fun r=>
 cond (!r)
  (some ([]:List Int))
  (iter (fun w=>f27_L5 N a0 (len a0) w
   (fun o0_1=>
    some o0_1)) N (0,([]:List Int)))
def c27 (N:Nat):Callee:=.pure (.pr (.val (.sl false (.int .i64))) .un) [(.sl true (.int .i64))] fun d=>f27 N d.1
def F27_5:SForm:=⟨[(11,(.val (.int .i64))),(3,(.ref 0)),(9,(.val (.sl false (.int .i64)))),(10,(.val (.int .i64)))],[.row (.int .i64)]⟩
def G27_5 (N:Nat):(R:Type)→F27_5.den→(AExit→St→Option R)→Option R:=fun R d k=>iter (fun kb=>f27_L5 N d.1.2.2.1 d.1.2.2.2.1 kb
  (fun y0=>k (.exit 0) (St.of [(3,(.ref 0 [] 0))] [.row (.int .i64) y0 0]))) N (d.1.1,d.2.1)
def lp27 (N:Nat):Nat→Option LoopFn:=fun r=>cond (Nat.beq r 5) (some fun R sl os k=>F27_5.take sl os fun d=>G27_5 N R d k) (none)
def x27 (N:Nat):Ctx:={ fuel:=N,tt:=getL ttL,mt:=getL mtL,ntmps:=30,env:=fun f=>(getL [(28,[c28 N])] f).getD [],cut:=getL [(5,⟨[11,3,9,10],[(3,none,.row (.int .i64))]⟩)],exits:=fun r=>getL ((getL [(5,[(0,⟨[3],[]⟩)])] r).getD []),res:=⟨[2],[]⟩,own:=fun _=>none,lp:=lp27 N,eqs:=fun T=>memN T eqL,ct:=fun T=>memN T ctL,ms:=getMs msL }
noncomputable def b27:Code:=((Go.Proofs.Tryd.f27).body).getD .skip
theorem s27_5 (N:Nat) {R:Type} (k:AExit→St→Option R) (t9:List Int) (t10:Int) (kb:List (Nat×AVal)→List Obj→Option R) (x:Int×List Int):codeK (x27 N) (loopAt 5 (loopsOf b27)) (St.of [(11,(.data (.int .i64) x.1)),(3,(.ref 0 [] 0)),(9,(.data (.sl false (.int .i64)) t9)),(10,(.data (.int .i64) t10))] [.row (.int .i64) x.2 0]) (kLoop (x27 N) 5 ⟨[11,3,9,10],[(3,none,.row (.int .i64))]⟩ kb k)=f27_L5 N t9 t10 (fun y=>kb [(11,(.data (.int .i64) y.1)),(3,(.ref 0 [] 0)),(9,(.data (.sl false (.int .i64)) t9)),(10,(.data (.int .i64) t10))] [.row (.int .i64) y.2 0])
  (fun y0=>k (.exit 0) (St.of [(3,(.ref 0 [] 0))] [.row (.int .i64) y0 0])) x:=by kernel_rfl
theorem l27_5 (N:Nat):LoopOK (x27 N) (loopAt 5 (loopsOf b27)):=
 loop_mk (G27_5 N) (by kernel_rfl) (by kernel_rfl) (by kernel_rfl) fun R k d=>
  loop_eq (st:=fun (x:Int×List Int)=>([(11,(.data (.int .i64) x.1)),(3,(.ref 0 [] 0)),(9,(.data (.sl false (.int .i64)) d.1.2.2.1)),(10,(.data (.int .i64) d.1.2.2.2.1))],[.row (.int .i64) x.2 0])) (s27_5 N k d.1.2.2.1 d.1.2.2.2.1) N (d.1.1,d.2.1)
theorem e27 (N:Nat) (a0:List Int):bodyK (x27 N) [(.sl true (.int .i64))] [.tmp 2] b27 (entry (.pr (.val (.sl false (.int .i64))) .un) (a0,()))=f27 N a0:=by kernel_rfl
theorem k27 (N:Nat):CalleeOK Go.Proofs.Tryd.prog 27 (c27 N):=
 fn_ok (fn:=Go.Proofs.Tryd.f27) (body:=b27) (c:=x27 N) Go.Proofs.Tryd.func27 (by kernel_rfl) (by kernel_rfl) ⟨ttL_ok,mtL_ok,eqL_ok,ctL_ok,msL_ok,env_cons (forall_mem1 (k28 N)) (env_nil)⟩ mixed (by kernel_rfl) (Nat.le_of_ble_eq_true (by kernel_rfl)) (by kernel_rfl) (by decide)
  (loops_ok (by kernel_rfl:loopsOf b27=[loopAt 5 (loopsOf b27)]) (.cons (l27_5 N) .nil)) fun d=>e27 N d.1
def f17 (N:Nat) (a0:List Int):Option (Int):=
 (f27 N a0).bind fun r=>
 some (len r)
def c17 (N:Nat):Callee:=.pure (.pr (.val (.sl false (.int .i64))) .un) [(.int .i64)] fun d=>f17 N d.1
def lp17 (N:Nat):Nat→Option LoopFn:=fun r=>none
def x17 (N:Nat):Ctx:={ fuel:=N,tt:=getL ttL,mt:=getL mtL,ntmps:=6,env:=fun f=>(getL [(27,[c27 N])] f).getD [],cut:=getL [],exits:=fun r=>getL ((getL [] r).getD []),res:=⟨[2],[]⟩,own:=fun _=>none,lp:=lp17 N,eqs:=fun T=>memN T eqL,ct:=fun T=>memN T ctL,ms:=getMs msL }
noncomputable def b17:Code:=((Go.Proofs.Tryd.f17).body).getD .skip
theorem e17 (N:Nat) (a0:List Int):bodyK (x17 N) [(.int .i64)] [.tmp 2] b17 (entry (.pr (.val (.sl false (.int .i64))) .un) (a0,()))=f17 N a0:=by kernel_rfl
theorem k17 (N:Nat):CalleeOK Go.Proofs.Tryd.prog 17 (c17 N):=
 fn_ok (fn:=Go.Proofs.Tryd.f17) (body:=b17) (c:=x17 N) Go.Proofs.Tryd.func17 (by kernel_rfl) (by kernel_rfl) ⟨ttL_ok,mtL_ok,eqL_ok,ctL_ok,msL_ok,env_cons (forall_mem1 (k27 N)) (env_nil)⟩ mixed (by kernel_rfl) (Nat.le_of_ble_eq_true (by kernel_rfl)) (by kernel_rfl) (by decide)
  (loops_ok (by kernel_rfl:loopsOf b17=[]) .nil) fun d=>e17 N d.1
def f18_L3 {R:Type} (N:Nat) (t9:Int) (o0:List Int) (kb:Int×Int×Int→Option R) (kx0:Int→Option R):Int×Int×Int→Option R:=
 fun (t10,t4,t3)=>
  cond (decide (t10 < t9))
   (chk (inb o0 t10) <|
   (idx o0 t10).bind fun x=>
   kb ((wi64 (t10+1)),(wi64 (t4+x)),(wi64 (t3+(wi64 (x*t4))))))
   (kx0 t3)
def f18 (N:Nat) (a0:List Int):Option (Int):=
 (f27 N a0).bind fun r=>
 iter (fun w=>f18_L3 N (len r) r w
  (fun t3_1=>
   some t3_1)) N (0,0,0)
def c18 (N:Nat):Callee:=.pure (.pr (.val (.sl false (.int .i64))) .un) [(.int .i64)] fun d=>f18 N d.1
def F18_3:SForm:=⟨[(10,(.val (.int .i64))),(4,(.val (.int .i64))),(3,(.val (.int .i64))),(8,(.ref 0)),(9,(.val (.int .i64)))],[.row (.int .i64)]⟩
def G18_3 (N:Nat):(R:Type)→F18_3.den→(AExit→St→Option R)→Option R:=fun R d k=>iter (fun kb=>f18_L3 N d.1.2.2.2.2.1 d.2.1 kb
  (fun y0=>k (.exit 0) (St.of [(3,(.data (.int .i64) y0))] []))) N (d.1.1,d.1.2.1,d.1.2.2.1)
def lp18 (N:Nat):Nat→Option LoopFn:=fun r=>cond (Nat.beq r 3) (some fun R sl os k=>F18_3.take sl os fun d=>G18_3 N R d k) (none)
def x18 (N:Nat):Ctx:={ fuel:=N,tt:=getL ttL,mt:=getL mtL,ntmps:=24,env:=fun f=>(getL [(27,[c27 N])] f).getD [],cut:=getL [(3,⟨[10,4,3,8,9],[]⟩)],exits:=fun r=>getL ((getL [(3,[(0,⟨[3],[]⟩)])] r).getD []),res:=⟨[2],[]⟩,own:=fun _=>none,lp:=lp18 N,eqs:=fun T=>memN T eqL,ct:=fun T=>memN T ctL,ms:=getMs msL }
noncomputable def b18:Code:=((Go.Proofs.Tryd.f18).body).getD .skip
theorem s18_3 (N:Nat) {R:Type} (k:AExit→St→Option R) (t9:Int) (o0:List Int) (kb:List (Nat×AVal)→List Obj→Option R) (x:Int×Int×Int):codeK (x18 N) (loopAt 3 (loopsOf b18)) (St.of [(10,(.data (.int .i64) x.1)),(4,(.data (.int .i64) x.2.1)),(3,(.data (.int .i64) x.2.2)),(8,(.ref 0 [] 0)),(9,(.data (.int .i64) t9))] [.row (.int .i64) o0 0]) (kLoop (x18 N) 3 ⟨[10,4,3,8,9],[]⟩ kb k)=f18_L3 N t9 o0 (fun y=>kb [(10,(.data (.int .i64) y.1)),(4,(.data (.int .i64) y.2.1)),(3,(.data (.int .i64) y.2.2)),(8,(.ref 0 [] 0)),(9,(.data (.int .i64) t9))] [.row (.int .i64) o0 0])
  (fun y0=>k (.exit 0) (St.of [(3,(.data (.int .i64) y0))] [])) x:=by kernel_rfl
theorem l18_3 (N:Nat):LoopOK (x18 N) (loopAt 3 (loopsOf b18)):=
 loop_mk (G18_3 N) (by kernel_rfl) (by kernel_rfl) (by kernel_rfl) fun R k d=>
  loop_eq (st:=fun (x:Int×Int×Int)=>([(10,(.data (.int .i64) x.1)),(4,(.data (.int .i64) x.2.1)),(3,(.data (.int .i64) x.2.2)),(8,(.ref 0 [] 0)),(9,(.data (.int .i64) d.1.2.2.2.2.1))],[.row (.int .i64) d.2.1 0])) (s18_3 N k d.1.2.2.2.2.1 d.2.1) N (d.1.1,d.1.2.1,d.1.2.2.1)
theorem e18 (N:Nat) (a0:List Int):bodyK (x18 N) [(.int .i64)] [.tmp 2] b18 (entry (.pr (.val (.sl false (.int .i64))) .un) (a0,()))=f18 N a0:=by kernel_rfl
theorem k18 (N:Nat):CalleeOK Go.Proofs.Tryd.prog 18 (c18 N):=
 fn_ok (fn:=Go.Proofs.Tryd.f18) (body:=b18) (c:=x18 N) Go.Proofs.Tryd.func18 (by kernel_rfl) (by kernel_rfl) ⟨ttL_ok,mtL_ok,eqL_ok,ctL_ok,msL_ok,env_cons (forall_mem1 (k27 N)) (env_nil)⟩ mixed (by kernel_rfl) (Nat.le_of_ble_eq_true (by kernel_rfl)) (by kernel_rfl) (by decide)
  (loops_ok (by kernel_rfl:loopsOf b18=[loopAt 3 (loopsOf b18)]) (.cons (l18_3 N) .nil)) fun d=>e18 N d.1
def f5 (N:Nat):Option (Bool):=
 (f13 N (7 :: (3 :: (7 :: (9 :: ([]:List Int)))))).bind fun r=>
 (f14 N r (0 :: (0 :: (1 :: (1 :: ([]:List Int)))))).bind fun r_1=>
 (f15 N r (0 :: (0 :: (1 :: (1 :: ([]:List Int)))))).bind fun r_2=>
 (f16 N r (0 :: (1 :: (0 :: (2 :: ([]:List Int)))))).bind fun r_3=>
 (cond r_3
   ((f17 N r).bind fun r_4=>
   some (decide (r_4=3)))
   (some false)).bind fun b=>
 (cond b
   ((f18 N r).bind fun r_5=>
   some (decide (r_5=5)))
   (some false)).bind fun b_1=>
 (cond b_1
   (some (decide (r_1.2=0)))
   (some false)).bind fun b_2=>
 (cond b_2
   ((f16 N r_1.1 (0 :: (1 :: (2 :: (3 :: ([]:List Int)))))).bind fun r_6=>
   some r_6)
   (some false)).bind fun b_3=>
 (cond b_3
   (some (decide (r_2.2=0)))
   (some false)).bind fun b_4=>
 (cond b_4
   ((f16 N r_2.1 (0 :: (0 :: (0 :: (0 :: ([]:List Int)))))).bind fun r_7=>
   some r_7)
   (some false)).bind fun b_5=>
 some b_5
def c5 (N:Nat):Callee:=.pure .un [.bool] fun d=>f5 N
def lp5 (N:Nat):Nat→Option LoopFn:=fun r=>none
def x5 (N:Nat):Ctx:={ fuel:=N,tt:=getL ttL,mt:=getL mtL,ntmps:=51,env:=fun f=>(getL [(13,[c13 N]),(14,[c14 N]),(15,[c15 N]),(16,[c16 N]),(17,[c17 N]),(18,[c18 N])] f).getD [],cut:=getL [],exits:=fun r=>getL ((getL [] r).getD []),res:=⟨[0],[]⟩,own:=getL [(6,(.sl false (.int .i64))),(10,(.sl false (.int .i64))),(16,(.sl false (.int .i64))),(21,(.sl false (.int .i64))),(39,(.sl false (.int .i64))),(48,(.sl false (.int .i64)))],lp:=lp5 N,eqs:=fun T=>memN T eqL,ct:=fun T=>memN T ctL,ms:=getMs msL }
noncomputable def b5:Code:=((Go.Proofs.Tryd.f5).body).getD .skip
theorem e5 (N:Nat):bodyK (x5 N) [.bool] [.tmp 0] b5 (entry .un ())=f5 N:=by kernel_rfl
theorem k5 (N:Nat):CalleeOK Go.Proofs.Tryd.prog 5 (c5 N):=
 fn_ok (fn:=Go.Proofs.Tryd.f5) (body:=b5) (c:=x5 N) Go.Proofs.Tryd.func5 (by kernel_rfl) (by kernel_rfl) ⟨ttL_ok,mtL_ok,eqL_ok,ctL_ok,msL_ok,env_cons (forall_mem1 (k13 N)) (env_cons (forall_mem1 (k14 N)) (env_cons (forall_mem1 (k15 N)) (env_cons (forall_mem1 (k16 N)) (env_cons (forall_mem1 (k17 N)) (env_cons (forall_mem1 (k18 N)) (env_nil))))))⟩ mixed (by kernel_rfl) (Nat.le_of_ble_eq_true (by kernel_rfl)) (by kernel_rfl) (by decide)
  (loops_ok (by kernel_rfl:loopsOf b5=[]) .nil) fun d=>e5 N
def f33 (N:Nat) (a0:Int):Option (Int):=
 some (wi64 (Int.tdiv (wi64 ((wi64 (a0+64))-1)) 64))
def c33 (N:Nat):Callee:=.pure (.pr (.val (.int .i64)) .un) [(.int .i64)] fun d=>f33 N d.1
def lp33 (N:Nat):Nat→Option LoopFn:=fun r=>none
def x33 (N:Nat):Ctx:={ fuel:=N,tt:=getL ttL,mt:=getL mtL,ntmps:=7,env:=fun f=>(getL [] f).getD [],cut:=getL [],exits:=fun r=>getL ((getL [] r).getD []),res:=⟨[2],[]⟩,own:=fun _=>none,lp:=lp33 N,eqs:=fun T=>memN T eqL,ct:=fun T=>memN T ctL,ms:=getMs msL }
noncomputable def b33:Code:=((Go.Proofs.Tryd.f33).body).getD .skip
theorem e33 (N:Nat) (a0:Int):bodyK (x33 N) [(.int .i64)] [.tmp 2] b33 (entry (.pr (.val (.int .i64)) .un) (a0,()))=f33 N a0:=by kernel_rfl
theorem k33 (N:Nat):CalleeOK Go.Proofs.Tryd.prog 33 (c33 N):=
 fn_ok (fn:=Go.Proofs.Tryd.f33) (body:=b33) (c:=x33 N) Go.Proofs.Tryd.func33 (by kernel_rfl) (by kernel_rfl) ⟨ttL_ok,mtL_ok,eqL_ok,ctL_ok,msL_ok,env_nil⟩ mixed (by kernel_rfl) (Nat.le_of_ble_eq_true (by kernel_rfl)) (by kernel_rfl) (by decide)
  (loops_ok (by kernel_rfl:loopsOf b33=[]) .nil) fun d=>e33 N d.1
def f29 (N:Nat) (a0:(Int×(List Int×Unit))):Option (Bool):=
 (cond (decide (a0.1 < 0))
   (some true)
   (some (decide (4096 < a0.1)))).bind fun b=>
 (cond b
   (some true)
   ((f33 N a0.1).bind fun r=>
   some (!(decide ((len a0.2.1)=r))))).bind fun b_1=>
 cond b_1
  (some false)
  ((cond (decide ((Int.tmod a0.1 64)=0))
    (some true)
    ((idx a0.2.1 (wi64 ((len a0.2.1)-1))).bind fun x=>
    cond (decide ((Int.tmod a0.1 64) < 0))
     (none)
     (some (decide ((Int.fdiv x (2 ^ (min (Int.toNat (Int.tmod a0.1 64)) 64)))=0))))).bind fun b_2=>
  some b_2)
def c29 (N:Nat):Callee:=.pure (.pr (.val (.pair (.int .i64) (.pair (.sl false (.int .u64)) .unit))) .un) [.bool] fun d=>f29 N d.1
def lp29 (N:Nat):Nat→Option LoopFn:=fun r=>none
def x29 (N:Nat):Ctx:={ fuel:=N,tt:=getL ttL,mt:=getL mtL,ntmps:=39,env:=fun f=>(getL [(33,[c33 N])] f).getD [],cut:=getL [],exits:=fun r=>getL ((getL [] r).getD []),res:=⟨[2],[]⟩,own:=fun _=>none,lp:=lp29 N,eqs:=fun T=>memN T eqL,ct:=fun T=>memN T ctL,ms:=getMs msL }
noncomputable def b29:Code:=((Go.Proofs.Tryd.f29).body).getD .skip
theorem e29 (N:Nat) (a0:(Int×(List Int×Unit))):bodyK (x29 N) [.bool] [.tmp 2] b29 (entry (.pr (.val (.pair (.int .i64) (.pair (.sl false (.int .u64)) .unit))) .un) (a0,()))=f29 N a0:=by kernel_rfl
theorem k29 (N:Nat):CalleeOK Go.Proofs.Tryd.prog 29 (c29 N):=
 fn_ok (fn:=Go.Proofs.Tryd.f29) (body:=b29) (c:=x29 N) Go.Proofs.Tryd.func29 (by kernel_rfl) (by kernel_rfl) ⟨ttL_ok,mtL_ok,eqL_ok,ctL_ok,msL_ok,env_cons (forall_mem1 (k33 N)) (env_nil)⟩ mixed (by kernel_rfl) (Nat.le_of_ble_eq_true (by kernel_rfl)) (by kernel_rfl) (by decide)
  (loops_ok (by kernel_rfl:loopsOf b29=[]) .nil) fun d=>e29 N d.1
def f19 (N:Nat) (a0:List Int) (a1:(Int×(List Int×Unit))):Option (Int):=
 (f28 N a0).bind fun r=>
 (cond (!r)
   (some true)
   ((f29 N a1).bind fun r_1=>
   some (!r_1))).bind fun b=>
 cond b
  (some 1)
  (cond (!(decide (a1.1=(len a0))))
   (some 2)
   (some 0))
def c19 (N:Nat):Callee:=.pure (.pr (.val (.sl false (.int .i64))) (.pr (.val (.pair (.int .i64) (.pair (.sl false (.int .u64)) .unit))) .un)) [(.int .i64)] fun d=>f19 N d.1 d.2.1
def lp19 (N:Nat):Nat→Option LoopFn:=fun r=>none
def x19 (N:Nat):Ctx:={ fuel:=N,tt:=getL ttL,mt:=getL mtL,ntmps:=18,env:=fun f=>(getL [(28,[c28 N]),(29,[c29 N])] f).getD [],cut:=getL [],exits:=fun r=>getL ((getL [] r).getD []),res:=⟨[4],[]⟩,own:=fun _=>none,lp:=lp19 N,eqs:=fun T=>memN T eqL,ct:=fun T=>memN T ctL,ms:=getMs msL }
noncomputable def b19:Code:=((Go.Proofs.Tryd.f19).body).getD .skip
theorem e19 (N:Nat) (a0:List Int) (a1:(Int×(List Int×Unit))):bodyK (x19 N) [(.int .i64)] [.tmp 4] b19 (entry (.pr (.val (.sl false (.int .i64))) (.pr (.val (.pair (.int .i64) (.pair (.sl false (.int .u64)) .unit))) .un)) (a0,(a1,())))=f19 N a0 a1:=by kernel_rfl
theorem k19 (N:Nat):CalleeOK Go.Proofs.Tryd.prog 19 (c19 N):=
 fn_ok (fn:=Go.Proofs.Tryd.f19) (body:=b19) (c:=x19 N) Go.Proofs.Tryd.func19 (by kernel_rfl) (by kernel_rfl) ⟨ttL_ok,mtL_ok,eqL_ok,ctL_ok,msL_ok,env_cons (forall_mem1 (k28 N)) (env_cons (forall_mem1 (k29 N)) (env_nil))⟩ mixed (by kernel_rfl) (Nat.le_of_ble_eq_true (by kernel_rfl)) (by kernel_rfl) (by decide)
  (loops_ok (by kernel_rfl:loopsOf b19=[]) .nil) fun d=>e19 N d.1 d.2.1
def f30 (N:Nat) (a0:Int):Option (Int):=
 cond (decide (a0=0))
  (some 64)
  ((idxT (0 :: (1 :: (56 :: (2 :: (57 :: (49 :: (28 :: (3 :: (61 :: (58 :: (42 :: (50 :: (38 :: (29 :: (17 :: (4 :: (62 :: (47 :: (59 :: (36 :: (45 :: (43 :: (51 :: (22 :: (53 :: (39 :: (33 :: (30 :: (24 :: (18 :: (12 :: (5 :: (63 :: (55 :: (48 :: (27 :: (60 :: (41 :: (37 :: (16 :: (46 :: (35 :: (44 :: (21 :: (52 :: (32 :: (23 :: (11 :: (54 :: (26 :: (40 :: (15 :: (34 :: (20 :: (31 :: (10 :: (25 :: (14 :: (19 :: (9 :: (13 :: (8 :: (7 :: (6 :: ([]:List Int))))))))))))))))))))))))))))))))))))))))))))))))))))))))))))))))) (Int.fdiv (wu64 ((wu64 (((((BitVec.ofInt 64 a0).and (BitVec.ofInt 64 (Go.IntKind.u64.wrap (Int.sub 0 a0)))).toNat):Nat):Int))*285870213051353865)) (2 ^ (min (Int.toNat 58) 64)))).bind fun x=>
  some (wi64 x))
def c30 (N:Nat):Callee:=.pure (.pr (.val (.int .u64)) .un) [(.int .i64)] fun d=>f30 N d.1
def lp30 (N:Nat):Nat→Option LoopFn:=fun r=>none
def x30 (N:Nat):Ctx:={ fuel:=N,tt:=getL ttL,mt:=getL mtL,ntmps:=14,env:=fun f=>(getL [] f).getD [],cut:=getL [],exits:=fun r=>getL ((getL [] r).getD []),res:=⟨[2],[]⟩,own:=fun _=>none,lp:=lp30 N,eqs:=fun T=>memN T eqL,ct:=fun T=>memN T ctL,ms:=getMs msL }
noncomputable def b30:Code:=((Go.Proofs.Tryd.f30).body).getD .skip
theorem e30 (N:Nat) (a0:Int):bodyK (x30 N) [(.int .i64)] [.tmp 2] b30 (entry (.pr (.val (.int .u64)) .un) (a0,()))=f30 N a0:=by kernel_rfl
theorem k30 (N:Nat):CalleeOK Go.Proofs.Tryd.prog 30 (c30 N):=
 fn_ok (fn:=Go.Proofs.Tryd.f30) (body:=b30) (c:=x30 N) Go.Proofs.Tryd.func30 (by kernel_rfl) (by kernel_rfl) ⟨ttL_ok,mtL_ok,eqL_ok,ctL_ok,msL_ok,env_nil⟩ mixed (by kernel_rfl) (Nat.le_of_ble_eq_true (by kernel_rfl)) (by kernel_rfl) (by decide)
  (loops_ok (by kernel_rfl:loopsOf b30=[]) .nil) fun d=>e30 N d.1
def f20_L7 {R:Type} (N:Nat) (t4:Int) (t10_1:List Int) (t11_1:Int) (t12_1:Int) (kb:Int×List Int→Option R) (kx2:(List Int)→Option R):Int×List Int→Option R:=
 fun (t5,o0_1)=>
  cond (!(decide (t5=0)))
   ((f30 N t5).bind fun r_1=>
   chk (decide ((Nat.succ (List.length o0_1))≤room)) <|
   kb ((wu64 (((((BitVec.ofInt 64 t5).and (BitVec.ofInt 64 (Go.IntKind.u64.wrap (Int.sub t5 1)))).toNat):Nat):Int)),(o0_1++((wi64 ((wi64 (t4*64))+r_1)) :: ([]:List Int)))))
   (kx2 o0_1)
def f20_L5 {R:Type} (N:Nat) (t10:List Int) (t11:Int) (kb:Int×List Int→Option R) (kx0:(List Int)→Option R):Int×List Int→Option R:=
 fun (t12,o0)=>
  cond (decide (t12 < t11))
   ((idx t10 t12).bind fun x=>
   iter (fun w=>f20_L7 N t12 t10 t11 t12 w
    (fun o0_2=>
     kb ((wi64 (t12+1)),o0_2))) N (x,o0))
   (kx0 o0)
def f20 (N:Nat) (a0:(Int×(List Int×Unit))):Option (List Int):=
 (f29 N a0).bind fun r=>
 cond (!r)
  (some ([]:List Int))
  (iter (fun w=>f20_L5 N a0.2.1 (len a0.2.1) w
   (fun o0_3=>
    some o0_3)) N (0,([]:List Int)))
def c20 (N:Nat):Callee:=.pure (.pr (.val (.pair (.int .i64) (.pair (.sl false (.int .u64)) .unit))) .un) [(.sl true (.int .i64))] fun d=>f20 N d.1
def F20_7:SForm:=⟨[(5,(.val (.int .u64))),(4,(.val (.int .i64))),(3,(.ref 0)),(10,(.val (.sl false (.int .u64)))),(11,(.val (.int .i64))),(12,(.val (.int .i64)))],[.row (.int .i64)]⟩
def G20_7 (N:Nat):(R:Type)→F20_7.den→(AExit→St→Option R)→Option R:=fun R d k=>iter (fun kb=>f20_L7 N d.1.2.1 d.1.2.2.2.1 d.1.2.2.2.2.1 d.1.2.2.2.2.2.1 kb
  (fun y3=>k (.exit 2) (St.of [(3,(.ref 0 [] 0)),(10,(.data (.sl false (.int .u64)) d.1.2.2.2.1)),(11,(.data (.int .i64) d.1.2.2.2.2.1)),(12,(.data (.int .i64) d.1.2.2.2.2.2.1))] [.row (.int .i64) y3 0]))) N (d.1.1,d.2.1)
def F20_5:SForm:=⟨[(3,(.ref 0)),(12,(.val (.int .i64))),(10,(.val (.sl false (.int .u64)))),(11,(.val (.int .i64)))],[.row (.int .i64)]⟩
def G20_5 (N:Nat):(R:Type)→F20_5.den→(AExit→St→Option R)→Option R:=fun R d k=>iter (fun kb=>f20_L5 N d.1.2.2.1 d.1.2.2.2.1 kb
  (fun y0=>k (.exit 0) (St.of [(3,(.ref 0 [] 0))] [.row (.int .i64) y0 0]))) N (d.1.2.1,d.2.1)
def lp20 (N:Nat):Nat→Option LoopFn:=fun r=>cond (Nat.beq r 7) (some fun R sl os k=>F20_7.take sl os fun d=>G20_7 N R d k) (cond (Nat.beq r 5) (some fun R sl os k=>F20_5.take sl os fun d=>G20_5 N R d k) (none))
def x20 (N:Nat):Ctx:={ fuel:=N,tt:=getL ttL,mt:=getL mtL,ntmps:=33,env:=fun f=>(getL [(29,[c29 N]),(30,[c30 N])] f).getD [],cut:=getL [(5,⟨[3,12,10,11],[(3,none,.row (.int .i64))]⟩),(7,⟨[5,4,3,10,11,12],[(3,none,.row (.int .i64))]⟩)],exits:=fun r=>getL ((getL [(5,[(0,⟨[3],[]⟩)]),(7,[(2,⟨[3,10,11,12],[]⟩)])] r).getD []),res:=⟨[2],[]⟩,own:=fun _=>none,lp:=lp20 N,eqs:=fun T=>memN T eqL,ct:=fun T=>memN T ctL,ms:=getMs msL }
noncomputable def b20:Code:=((Go.Proofs.Tryd.f20).body).getD .skip
theorem s20_7 (N:Nat) {R:Type} (k:AExit→St→Option R) (t4:Int) (t10_1:List Int) (t11_1:Int) (t12_1:Int) (kb:List (Nat×AVal)→List Obj→Option R) (x:Int×List Int):codeK (x20 N) (loopAt 7 (loopsOf b20)) (St.of [(5,(.data (.int .u64) x.1)),(4,(.data (.int .i64) t4)),(3,(.ref 0 [] 0)),(10,(.data (.sl false (.int .u64)) t10_1)),(11,(.data (.int .i64) t11_1)),(12,(.data (.int .i64) t12_1))] [.row (.int .i64) x.2 0]) (kLoop (x20 N) 7 ⟨[5,4,3,10,11,12],[(3,none,.row (.int .i64))]⟩ kb k)=f20_L7 N t4 t10_1 t11_1 t12_1 (fun y=>kb [(5,(.data (.int .u64) y.1)),(4,(.data (.int .i64) t4)),(3,(.ref 0 [] 0)),(10,(.data (.sl false (.int .u64)) t10_1)),(11,(.data (.int .i64) t11_1)),(12,(.data (.int .i64) t12_1))] [.row (.int .i64) y.2 0])
  (fun y3=>k (.exit 2) (St.of [(3,(.ref 0 [] 0)),(10,(.data (.sl false (.int .u64)) t10_1)),(11,(.data (.int .i64) t11_1)),(12,(.data (.int .i64) t12_1))] [.row (.int .i64) y3 0])) x:=by kernel_rfl
theorem l20_7 (N:Nat):LoopOK (x20 N) (loopAt 7 (loopsOf b20)):=
 loop_mk (G20_7 N) (by kernel_rfl) (by kernel_rfl) (by kernel_rfl) fun R k d=>
  loop_eq (st:=fun (x:Int×List Int)=>([(5,(.data (.int .u64) x.1)),(4,(.data (.int .i64) d.1.2.1)),(3,(.ref 0 [] 0)),(10,(.data (.sl false (.int .u64)) d.1.2.2.2.1)),(11,(.data (.int .i64) d.1.2.2.2.2.1)),(12,(.data (.int .i64) d.1.2.2.2.2.2.1))],[.row (.int .i64) x.2 0])) (s20_7 N k d.1.2.1 d.1.2.2.2.1 d.1.2.2.2.2.1 d.1.2.2.2.2.2.1) N (d.1.1,d.2.1)
theorem s20_5 (N:Nat) {R:Type} (k:AExit→St→Option R) (t10:List Int) (t11:Int) (kb:List (Nat×AVal)→List Obj→Option R) (x:Int×List Int):codeK (x20 N) (loopAt 5 (loopsOf b20)) (St.of [(3,(.ref 0 [] 0)),(12,(.data (.int .i64) x.1)),(10,(.data (.sl false (.int .u64)) t10)),(11,(.data (.int .i64) t11))] [.row (.int .i64) x.2 0]) (kLoop (x20 N) 5 ⟨[3,12,10,11],[(3,none,.row (.int .i64))]⟩ kb k)=f20_L5 N t10 t11 (fun y=>kb [(3,(.ref 0 [] 0)),(12,(.data (.int .i64) y.1)),(10,(.data (.sl false (.int .u64)) t10)),(11,(.data (.int .i64) t11))] [.row (.int .i64) y.2 0])
  (fun y0=>k (.exit 0) (St.of [(3,(.ref 0 [] 0))] [.row (.int .i64) y0 0])) x:=by kernel_rfl
theorem l20_5 (N:Nat):LoopOK (x20 N) (loopAt 5 (loopsOf b20)):=
 loop_mk (G20_5 N) (by kernel_rfl) (by kernel_rfl) (by kernel_rfl) fun R k d=>
  loop_eq (st:=fun (x:Int×List Int)=>([(3,(.ref 0 [] 0)),(12,(.data (.int .i64) x.1)),(10,(.data (.sl false (.int .u64)) d.1.2.2.1)),(11,(.data (.int .i64) d.1.2.2.2.1))],[.row (.int .i64) x.2 0])) (s20_5 N k d.1.2.2.1 d.1.2.2.2.1) N (d.1.2.1,d.2.1)
theorem e20 (N:Nat) (a0:(Int×(List Int×Unit))):bodyK (x20 N) [(.sl true (.int .i64))] [.tmp 2] b20 (entry (.pr (.val (.pair (.int .i64) (.pair (.sl false (.int .u64)) .unit))) .un) (a0,()))=f20 N a0:=by kernel_rfl
theorem k20 (N:Nat):CalleeOK Go.Proofs.Tryd.prog 20 (c20 N):=
 fn_ok (fn:=Go.Proofs.Tryd.f20) (body:=b20) (c:=x20 N) Go.Proofs.Tryd.func20 (by kernel_rfl) (by kernel_rfl) ⟨ttL_ok,mtL_ok,eqL_ok,ctL_ok,msL_ok,env_cons (forall_mem1 (k29 N)) (env_cons (forall_mem1 (k30 N)) (env_nil))⟩ mixed (by kernel_rfl) (Nat.le_of_ble_eq_true (by kernel_rfl)) (by kernel_rfl) (by decide)
  (loops_ok (by kernel_rfl:loopsOf b20=[loopAt 5 (loopsOf b20),loopAt 7 (loopsOf b20)]) (.cons (l20_5 N) (.cons (l20_7 N) .nil))) fun d=>e20 N d.1
def f6_L6 {R:Type} (N:Nat) (t0:List Int) (t19:Int) (o1:List Int) (kb:Int×(List (Int×Bool))→Option R) (kx0:(List (Int×Bool))→Option R):Int×(List (Int×Bool))→Option R:=
 fun (t20,o0)=>
  cond (decide (t20 < t19))
   (chk (inb o1 t20) <|
   (idx o1 t20).bind fun x=>
   (idx t0 x).bind fun x_1=>
   kb ((wi64 (t20+1)),(mput (keyEq (.int .i64)) o0 x_1 true)))
   (kx0 o0)
def f6 (N:Nat) (a0:List Int) (a1:(Int×(List Int×Unit))):Option (Int×Int):=
 (f19 N a0 a1).bind fun r=>
 cond (!(decide (r=0)))
  (some (0,r))
  ((f20 N a1).bind fun r_1=>
  iter (fun w=>f6_L6 N a0 (len r_1) r_1 w
   (fun o0_1=>
    chk (decide ((List.length o0_1)≤room)) <|
    some ((len o0_1),0))) N (0,([]:List (Int×Bool))))
def c6 (N:Nat):Callee:=.pure (.pr (.val (.sl false (.int .i64))) (.pr (.val (.pair (.int .i64) (.pair (.sl false (.int .u64)) .unit))) .un)) [(.int .i64),(.int .i64)] fun d=>f6 N d.1 d.2.1
def F6_6:SForm:=⟨[(20,(.val (.int .i64))),(0,(.val (.sl false (.int .i64)))),(7,(.mref 0)),(18,(.ref 1)),(19,(.val (.int .i64)))],[.map (.int .i64) .bool,.row (.int .i64)]⟩
def G6_6 (N:Nat):(R:Type)→F6_6.den→(AExit→St→Option R)→Option R:=fun R d k=>iter (fun kb=>f6_L6 N d.1.2.1 d.1.2.2.2.2.1 d.2.2.1 kb
  (fun y0=>k (.exit 0) (St.of [(7,(.mref 0))] [.map (.int .i64) .bool y0]))) N (d.1.1,d.2.1)
def lp6 (N:Nat):Nat→Option LoopFn:=fun r=>cond (Nat.beq r 6) (some fun R sl os k=>F6_6.take sl os fun d=>G6_6 N R d k) (none)
def x6 (N:Nat):Ctx:={ fuel:=N,tt:=getL ttL,mt:=getL mtL,ntmps:=32,env:=fun f=>(getL [(19,[c19 N]),(20,[c20 N])] f).getD [],cut:=getL [(6,⟨[20,0,7,18,19],[]⟩)],exits:=fun r=>getL ((getL [(6,[(0,⟨[7],[]⟩)])] r).getD []),res:=⟨[4,5],[]⟩,own:=fun _=>none,lp:=lp6 N,eqs:=fun T=>memN T eqL,ct:=fun T=>memN T ctL,ms:=getMs msL }
noncomputable def b6:Code:=((Go.Proofs.Tryd.f6).body).getD .skip
theorem s6_6 (N:Nat) {R:Type} (k:AExit→St→Option R) (t0:List Int) (t19:Int) (o1:List Int) (kb:List (Nat×AVal)→List Obj→Option R) (x:Int×(List (Int×Bool))):codeK (x6 N) (loopAt 6 (loopsOf b6)) (St.of [(20,(.data (.int .i64) x.1)),(0,(.data (.sl false (.int .i64)) t0)),(7,(.mref 0)),(18,(.ref 1 [] 0)),(19,(.data (.int .i64) t19))] [.map (.int .i64) .bool x.2,.row (.int .i64) o1 0]) (kLoop (x6 N) 6 ⟨[20,0,7,18,19],[]⟩ kb k)=f6_L6 N t0 t19 o1 (fun y=>kb [(20,(.data (.int .i64) y.1)),(0,(.data (.sl false (.int .i64)) t0)),(7,(.mref 0)),(18,(.ref 1 [] 0)),(19,(.data (.int .i64) t19))] [.map (.int .i64) .bool y.2,.row (.int .i64) o1 0])
  (fun y0=>k (.exit 0) (St.of [(7,(.mref 0))] [.map (.int .i64) .bool y0])) x:=by kernel_rfl
theorem l6_6 (N:Nat):LoopOK (x6 N) (loopAt 6 (loopsOf b6)):=
 loop_mk (G6_6 N) (by kernel_rfl) (by kernel_rfl) (by kernel_rfl) fun R k d=>
  loop_eq (st:=fun (x:Int×(List (Int×Bool)))=>([(20,(.data (.int .i64) x.1)),(0,(.data (.sl false (.int .i64)) d.1.2.1)),(7,(.mref 0)),(18,(.ref 1 [] 0)),(19,(.data (.int .i64) d.1.2.2.2.2.1))],[.map (.int .i64) .bool x.2,.row (.int .i64) d.2.2.1 0])) (s6_6 N k d.1.2.1 d.1.2.2.2.2.1 d.2.2.1) N (d.1.1,d.2.1)
theorem e6 (N:Nat) (a0:List Int) (a1:(Int×(List Int×Unit))):bodyK (x6 N) [(.int .i64),(.int .i64)] [.tmp 4,.tmp 5] b6 (entry (.pr (.val (.sl false (.int .i64))) (.pr (.val (.pair (.int .i64) (.pair (.sl false (.int .u64)) .unit))) .un)) (a0,(a1,())))=f6 N a0 a1:=by kernel_rfl
theorem k6 (N:Nat):CalleeOK Go.Proofs.Tryd.prog 6 (c6 N):=
 fn_ok (fn:=Go.Proofs.Tryd.f6) (body:=b6) (c:=x6 N) Go.Proofs.Tryd.func6 (by kernel_rfl) (by kernel_rfl) ⟨ttL_ok,mtL_ok,eqL_ok,ctL_ok,msL_ok,env_cons (forall_mem1 (k19 N)) (env_cons (forall_mem1 (k20 N)) (env_nil))⟩ mixed (by kernel_rfl) (Nat.le_of_ble_eq_true (by kernel_rfl)) (by kernel_rfl) (by decide)
  (loops_ok (by kernel_rfl:loopsOf b6=[loopAt 6 (loopsOf b6)]) (.cons (l6_6 N) .nil)) fun d=>e6 N d.1 d.2.1
def f24_L3 {R:Type} (N:Nat) (t0:List Int) (kb:Int×Int→Option R) (kret:Bool→Option R) (kx0:Unit→Option R):Int×Int→Option R:=
 fun (t4,t3)=>
  cond (decide (t4 < (len t0)))
   ((idx t0 t4).bind fun x=>
   (cond (decide (x < 0))
     (some true)
     ((idx t0 t4).bind fun x_1=>
     some (decide (t3 < x_1)))).bind fun b=>
   cond b
    (kret false)
    ((idx t0 t4).bind fun x_2=>
    cond (decide (x_2=t3))
     (kb ((wi64 (t4+1)),(wi64 (t3+1))))
     (kb ((wi64 (t4+1)),t3))))
   (kx0 ())
def f24 (N:Nat) (a0:List Int):Option (Bool):=
 iter (fun w=>f24_L3 N a0 w
  (fun t2=>
   some t2)
  (fun (_:Unit)=>
   some true)) N (0,0)
def c24 (N:Nat):Callee:=.pure (.pr (.val (.sl false (.int .i64))) .un) [.bool] fun d=>f24 N d.1
def F24_3:SForm:=⟨[(4,(.val (.int .i64))),(3,(.val (.int .i64))),(0,(.val (.sl false (.int .i64))))],[]⟩
def G24_3 (N:Nat):(R:Type)→F24_3.den→(AExit→St→Option R)→Option R:=fun R d k=>iter (fun kb=>f24_L3 N d.1.2.2.1 kb
  (fun y0=>k .ret (St.of [(2,(.data .bool y0))] []))
  (fun _=>k (.exit 0) (St.of [] []))) N (d.1.1,d.1.2.1)
def lp24 (N:Nat):Nat→Option LoopFn:=fun r=>cond (Nat.beq r 3) (some fun R sl os k=>F24_3.take sl os fun d=>G24_3 N R d k) (none)
def x24 (N:Nat):Ctx:={ fuel:=N,tt:=getL ttL,mt:=getL mtL,ntmps:=32,env:=fun f=>(getL [] f).getD [],cut:=getL [(3,⟨[4,3,0],[]⟩)],exits:=fun r=>getL ((getL [(3,[(0,⟨[],[]⟩)])] r).getD []),res:=⟨[2],[]⟩,own:=fun _=>none,lp:=lp24 N,eqs:=fun T=>memN T eqL,ct:=fun T=>memN T ctL,ms:=getMs msL }
noncomputable def b24:Code:=((Go.Proofs.Tryd.f24).body).getD .skip
theorem s24_3 (N:Nat) {R:Type} (k:AExit→St→Option R) (t0:List Int) (kb:List (Nat×AVal)→List Obj→Option R) (x:Int×Int):codeK (x24 N) (loopAt 3 (loopsOf b24)) (St.of [(4,(.data (.int .i64) x.1)),(3,(.data (.int .i64) x.2)),(0,(.data (.sl false (.int .i64)) t0))] []) (kLoop (x24 N) 3 ⟨[4,3,0],[]⟩ kb k)=f24_L3 N t0 (fun y=>kb [(4,(.data (.int .i64) y.1)),(3,(.data (.int .i64) y.2)),(0,(.data (.sl false (.int .i64)) t0))] [])
  (fun y0=>k .ret (St.of [(2,(.data .bool y0))] []))
  (fun _=>k (.exit 0) (St.of [] [])) x:=by kernel_rfl
theorem l24_3 (N:Nat):LoopOK (x24 N) (loopAt 3 (loopsOf b24)):=
 loop_mk (G24_3 N) (by kernel_rfl) (by kernel_rfl) (by kernel_rfl) fun R k d=>
  loop_eq (st:=fun (x:Int×Int)=>([(4,(.data (.int .i64) x.1)),(3,(.data (.int .i64) x.2)),(0,(.data (.sl false (.int .i64)) d.1.2.2.1))],[])) (s24_3 N k d.1.2.2.1) N (d.1.1,d.1.2.1)
theorem e24 (N:Nat) (a0:List Int):bodyK (x24 N) [.bool] [.tmp 2] b24 (entry (.pr (.val (.sl false (.int .i64))) .un) (a0,()))=f24 N a0:=by kernel_rfl
theorem k24 (N:Nat):CalleeOK Go.Proofs.Tryd.prog 24 (c24 N):=
 fn_ok (fn:=Go.Proofs.Tryd.f24) (body:=b24) (c:=x24 N) Go.Proofs.Tryd.func24 (by kernel_rfl) (by kernel_rfl) ⟨ttL_ok,mtL_ok,eqL_ok,ctL_ok,msL_ok,env_nil⟩ mixed (by kernel_rfl) (Nat.le_of_ble_eq_true (by kernel_rfl)) (by kernel_rfl) (by decide)
  (loops_ok (by kernel_rfl:loopsOf b24=[loopAt 3 (loopsOf b24)]) (.cons (l24_3 N) .nil)) fun d=>e24 N d.1
def f31 (N:Nat) (a0:(Int×(List Int×Unit))):Option (Bool):=
 (cond (decide (a0.1 < 0))
   (some true)
   (some (decide (4096 < a0.1)))).bind fun b=>
 cond b
  (some false)
  (cond (!(decide ((Int.tmod a0.1 64)=0)))
   (cond (!(decide ((len a0.2.1)=(wi64 ((wi64 (Int.tdiv a0.1 64))+1)))))
    (some false)
    ((cond (!(decide ((Int.tmod a0.1 64)=0)))
      ((idx a0.2.1 (wi64 ((wi64 ((wi64 (Int.tdiv a0.1 64))+1))-1))).bind fun x=>
      cond (decide ((Int.tmod a0.1 64) < 0))
       (none)
       (some (!(decide ((Int.fdiv x (2 ^ (min (Int.toNat (Int.tmod a0.1 64)) 64)))=0)))))
      (some false)).bind fun b_1=>
    cond b_1
     (some false)
     (some true)))
   (cond (!(decide ((len a0.2.1)=(wi64 (Int.tdiv a0.1 64)))))
    (some false)
    ((cond (!(decide ((Int.tmod a0.1 64)=0)))
      ((idx a0.2.1 (wi64 ((wi64 (Int.tdiv a0.1 64))-1))).bind fun x_1=>
      cond (decide ((Int.tmod a0.1 64) < 0))
       (none)
       (some (!(decide ((Int.fdiv x_1 (2 ^ (min (Int.toNat (Int.tmod a0.1 64)) 64)))=0)))))
      (some false)).bind fun b_2=>
    cond b_2
     (some false)
     (some true))))
def f21 (N:Nat) (a0:List Int) (a1:(Int×(List Int×Unit))):Option (Int):=
 (f24 N a0).bind fun r=>
 (cond (!r)
   (some true)
   ((f31 N a1).bind fun r_1=>
   some (!r_1))).bind fun b=>
 cond b
  (some 1)
  (cond (!(decide (a1.1=(len a0))))
   (some 2)
   (some 0))
def f12_L5 {R:Type} (N:Nat) (t0:List Int) (kb:Int×Int→Option R) (kx0:Int→Option R):Int×Int→Option R:=
 fun (t4,t3)=>
  cond (decide (t4 < (len t0)))
   ((idx t0 t4).bind fun x=>
   cond (decide (x=t3))
    (kb ((wi64 (t4+1)),(wi64 (t3+1))))
    (kb ((wi64 (t4+1)),t3)))
   (kx0 t3)
def f12 (N:Nat) (a0:List Int):Option (Int):=
 (f24 N a0).bind fun r=>
 cond (!r)
  (some 0)
  (iter (fun w=>f12_L5 N a0 w
   (fun t3_1=>
    some t3_1)) N (0,0))
def c12 (N:Nat):Callee:=.pure (.pr (.val (.sl false (.int .i64))) .un) [(.int .i64)] fun d=>f12 N d.1
def F12_5:SForm:=⟨[(4,(.val (.int .i64))),(3,(.val (.int .i64))),(0,(.val (.sl false (.int .i64))))],[]⟩
def G12_5 (N:Nat):(R:Type)→F12_5.den→(AExit→St→Option R)→Option R:=fun R d k=>iter (fun kb=>f12_L5 N d.1.2.2.1 kb
  (fun y0=>k (.exit 0) (St.of [(3,(.data (.int .i64) y0))] []))) N (d.1.1,d.1.2.1)
def lp12 (N:Nat):Nat→Option LoopFn:=fun r=>cond (Nat.beq r 5) (some fun R sl os k=>F12_5.take sl os fun d=>G12_5 N R d k) (none)
def x12 (N:Nat):Ctx:={ fuel:=N,tt:=getL ttL,mt:=getL mtL,ntmps:=23,env:=fun f=>(getL [(24,[c24 N])] f).getD [],cut:=getL [(5,⟨[4,3,0],[]⟩)],exits:=fun r=>getL ((getL [(5,[(0,⟨[3],[]⟩)])] r).getD []),res:=⟨[2],[]⟩,own:=fun _=>none,lp:=lp12 N,eqs:=fun T=>memN T eqL,ct:=fun T=>memN T ctL,ms:=getMs msL }
noncomputable def b12:Code:=((Go.Proofs.Tryd.f12).body).getD .skip
theorem s12_5 (N:Nat) {R:Type} (k:AExit→St→Option R) (t0:List Int) (kb:List (Nat×AVal)→List Obj→Option R) (x:Int×Int):codeK (x12 N) (loopAt 5 (loopsOf b12)) (St.of [(4,(.data (.int .i64) x.1)),(3,(.data (.int .i64) x.2)),(0,(.data (.sl false (.int .i64)) t0))] []) (kLoop (x12 N) 5 ⟨[4,3,0],[]⟩ kb k)=f12_L5 N t0 (fun y=>kb [(4,(.data (.int .i64) y.1)),(3,(.data (.int .i64) y.2)),(0,(.data (.sl false (.int .i64)) t0))] [])
  (fun y0=>k (.exit 0) (St.of [(3,(.data (.int .i64) y0))] [])) x:=by kernel_rfl
theorem l12_5 (N:Nat):LoopOK (x12 N) (loopAt 5 (loopsOf b12)):=
 loop_mk (G12_5 N) (by kernel_rfl) (by kernel_rfl) (by kernel_rfl) fun R k d=>
  loop_eq (st:=fun (x:Int×Int)=>([(4,(.data (.int .i64) x.1)),(3,(.data (.int .i64) x.2)),(0,(.data (.sl false (.int .i64)) d.1.2.2.1))],[])) (s12_5 N k d.1.2.2.1) N (d.1.1,d.1.2.1)
theorem e12 (N:Nat) (a0:List Int):bodyK (x12 N) [(.int .i64)] [.tmp 2] b12 (entry (.pr (.val (.sl false (.int .i64))) .un) (a0,()))=f12 N a0:=by kernel_rfl
theorem k12 (N:Nat):CalleeOK Go.Proofs.Tryd.prog 12 (c12 N):=
 fn_ok (fn:=Go.Proofs.Tryd.f12) (body:=b12) (c:=x12 N) Go.Proofs.Tryd.func12 (by kernel_rfl) (by kernel_rfl) ⟨ttL_ok,mtL_ok,eqL_ok,ctL_ok,msL_ok,env_cons (forall_mem1 (k24 N)) (env_nil)⟩ mixed (by kernel_rfl) (Nat.le_of_ble_eq_true (by kernel_rfl)) (by kernel_rfl) (by decide)
  (loops_ok (by kernel_rfl:loopsOf b12=[loopAt 5 (loopsOf b12)]) (.cons (l12_5 N) .nil)) fun d=>e12 N d.1
def f22 (N:Nat) (a0:(Int×(List Int×Unit))) (a1:Int):Option (Bool):=
 (idx a0.2.1 (wi64 (Int.tdiv a1 64))).bind fun x=>
 cond (decide ((Int.tmod a1 64) < 0))
  (none)
  (some (decide ((wu64 (((((BitVec.ofInt 64 (Int.fdiv x (Int.pow 2 (min (Int.tmod a1 64).toNat 64)))).and (BitVec.ofInt 64 1)).toNat):Nat):Int))=1)))
def f7_L10 {R:Type} (N:Nat) (t8_1:Int) (t0_1:List Int) (t7_1:Int) (o0_1:(Int×(List Int×Unit))) (kb:Int×Bool→Option R) (kx2:Bool→Option R):Int×Bool→Option R:=
 fun (t10,t9)=>
  cond (decide (t10 < (len t0_1)))
   ((idx t0_1 t10).bind fun x=>
   (cond (decide (x=t8_1))
     ((f22 N o0_1 t10).bind fun r_2=>
     some r_2)
     (some false)).bind fun b=>
   cond b
    (kb ((wi64 (t10+1)),true))
    (kb ((wi64 (t10+1)),t9)))
   (kx2 t9)
def f7_L6 {R:Type} (N:Nat) (t0:List Int) (o0:(Int×(List Int×Unit))) (kb:Int×Int→Option R) (kx0:Int→Option R):Int×Int→Option R:=
 fun (t8,t7)=>
  (f12 N t0).bind fun r_1=>
  cond (decide (t8 < r_1))
   (iter (fun w=>f7_L10 N t8 t0 t7 o0 w
    (fun t9_1=>
     cond t9_1
      (kb ((wi64 (t8+1)),(wi64 (t7+1))))
      (kb ((wi64 (t8+1)),t7)))) N (0,false))
   (kx0 t7)
def f7 (N:Nat) (a0:List Int) (a1:(Int×(List Int×Unit))):Option (Int×Int):=
 (f21 N a0 a1).bind fun r=>
 cond (!(decide (r=0)))
  (some (0,r))
  (iter (fun w=>f7_L6 N a0 a1 w
   (fun t7_2=>
    some (t7_2,0))) N (0,0))
def c7 (N:Nat):Callee:=.pure (.pr (.val (.sl false (.int .i64))) (.pr (.val (.pair (.int .i64) (.pair (.sl false (.int .u64)) .unit))) .un)) [(.int .i64),(.int .i64)] fun d=>f7 N d.1 d.2.1
def f32 (N:Nat) (a0:Int):Option ((Int×(List Int×Unit))×Int):=
 (cond (decide (a0 < 0))
   (some true)
   (some (decide (4096 < a0)))).bind fun b=>
 cond b
  (some ((0,(([]:List Int),())),3))
  ((f33 N a0).bind fun r=>
  chk (((decide (0≤r)) && (decide (r≤r))) && (decide (r≤((room:Nat):Int)))) <|
  some ((a0,((List.replicate (Int.toNat r) 0:List Int),())),0))
def c32 (N:Nat):Callee:=.pure (.pr (.val (.int .i64)) .un) [(.pair (.int .i64) (.pair (.sl true (.int .u64)) .unit)),(.int .i64)] fun d=>f32 N d.1
def lp32 (N:Nat):Nat→Option LoopFn:=fun r=>none
def x32 (N:Nat):Ctx:={ fuel:=N,tt:=getL ttL,mt:=getL mtL,ntmps:=16,env:=fun f=>(getL [(33,[c33 N])] f).getD [],cut:=getL [],exits:=fun r=>getL ((getL [] r).getD []),res:=⟨[2,3],[]⟩,own:=fun _=>none,lp:=lp32 N,eqs:=fun T=>memN T eqL,ct:=fun T=>memN T ctL,ms:=getMs msL }
noncomputable def b32:Code:=((Go.Proofs.Tryd.f32).body).getD .skip
theorem e32 (N:Nat) (a0:Int):bodyK (x32 N) [(.pair (.int .i64) (.pair (.sl true (.int .u64)) .unit)),(.int .i64)] [.cell 2 25,.tmp 3] b32 (entry (.pr (.val (.int .i64)) .un) (a0,()))=f32 N a0:=by kernel_rfl
theorem k32 (N:Nat):CalleeOK Go.Proofs.Tryd.prog 32 (c32 N):=
 fn_ok (fn:=Go.Proofs.Tryd.f32) (body:=b32) (c:=x32 N) Go.Proofs.Tryd.func32 (by kernel_rfl) (by kernel_rfl) ⟨ttL_ok,mtL_ok,eqL_ok,ctL_ok,msL_ok,env_cons (forall_mem1 (k33 N)) (env_nil)⟩ mixed (by kernel_rfl) (Nat.le_of_ble_eq_true (by kernel_rfl)) (by kernel_rfl) (by decide)
  (loops_ok (by kernel_rfl:loopsOf b32=[]) .nil) fun d=>e32 N d.1
def f23_L5 {R:Type} (N:Nat) (t0:Int) (t19:List Int) (t20:Int) (o0:Int) (o1:Int) (kb:Int×List Int→Option R) (kret:Int→Int→Option R) (kx0:(List Int)→Option R):Int×List Int→Option R:=
 fun (t21,o2)=>
  cond (decide (t21 < t20))
   ((idx t19 t21).bind fun x=>
   (cond (decide (x < 0))
     (some true)
     (some (decide (t0≤x)))).bind fun b=>
   cond b
    (kret 3 0)
    (chk (inb o2 (wi64 (Int.tdiv x 64))) <|
    (idx o2 (wi64 (Int.tdiv x 64))).bind fun x_1=>
    cond (decide ((Int.tmod x 64) < 0))
     (none)
     (chk (inb o2 (wi64 (Int.tdiv x 64))) <|
     (idx o2 (wi64 (Int.tdiv x 64))).bind fun x_2=>
     (idx o2 (wi64 (Int.tdiv x 64))).bind fun x_3=>
     kb ((wi64 (t21+1)),(setI o2 (wi64 (Int.tdiv x 64)) (wu64 (((((BitVec.ofInt 64 x_1).or
  (BitVec.ofInt 64 (Go.IntKind.u64.wrap (Int.mul 1 (Int.pow 2 (min (Int.tmod x 64).toNat 64)))))).toNat):Nat):Int)))))))
   (kx0 o2)
def f23 (N:Nat) (a0:Int) (a1:List Int):Option ((Int×(List Int×Unit))×Int):=
 (f32 N a0).bind fun r=>
 cond (!(decide (r.2=0)))
  (some ((0,(([]:List Int),())),r.2))
  (iter (fun w=>f23_L5 N a0 a1 (len a1) 0 r.1.1 w
   (fun t5 o0_1=>
    some ((o0_1,(([]:List Int),())),t5))
   (fun o2_1=>
    some ((r.1.1,(o2_1,())),0))) N (0,r.1.2.1))
def c23 (N:Nat):Callee:=.pure (.pr (.val (.int .i64)) (.pr (.val (.sl false (.int .i64))) .un)) [(.pair (.int .i64) (.pair (.sl true (.int .u64)) .unit)),(.int .i64)] fun d=>f23 N d.1 d.2.1
def F23_5:SForm:=⟨[(4,(.bptr 0 [])),(21,(.val (.int .i64))),(6,(.bptr 1 [])),(0,(.val (.int .i64))),(19,(.val (.sl false (.int .i64)))),(20,(.val (.int .i64)))],[.cell (.agg (.pr (.val (.int .i64)) (.pr .nilS .un))),.cell (.agg (.pr (.val (.int .i64)) (.pr (.ref 2) .un))),.row (.int .u64)]⟩
def G23_5 (N:Nat):(R:Type)→F23_5.den→(AExit→St→Option R)→Option R:=fun R d k=>iter (fun kb=>f23_L5 N d.1.2.2.2.1 d.1.2.2.2.2.1 d.1.2.2.2.2.2.1 d.2.1.1 d.2.2.1.1 kb
  (fun y0 y1=>k .ret (St.of [(4,(.bptr 0 [])),(5,(.data (.int .i64) y0))] [.cell (.agg (.pr (.data (.int .i64) y1) (.pr .nilS .un)))]))
  (fun y2=>k (.exit 0) (St.of [(4,(.bptr 0 [])),(6,(.bptr 1 []))] [.cell (.agg (.pr (.data (.int .i64) d.2.1.1) (.pr .nilS .un))),.cell (.agg (.pr (.data (.int .i64) d.2.2.1.1) (.pr (.ref 2 [] 0) .un))),.row (.int .u64) y2 0]))) N (d.1.2.1,d.2.2.2.1)
def lp23 (N:Nat):Nat→Option LoopFn:=fun r=>cond (Nat.beq r 5) (some fun R sl os k=>F23_5.take sl os fun d=>G23_5 N R d k) (none)
def x23 (N:Nat):Ctx:={ fuel:=N,tt:=getL ttL,mt:=getL mtL,ntmps:=46,env:=fun f=>(getL [(32,[c32 N])] f).getD [],cut:=getL [(5,⟨[4,21,6,0,19,20],[]⟩)],exits:=fun r=>getL ((getL [(5,[(0,⟨[4,6],[]⟩)])] r).getD []),res:=⟨[4,5],[]⟩,own:=fun _=>none,lp:=lp23 N,eqs:=fun T=>memN T eqL,ct:=fun T=>memN T ctL,ms:=getMs msL }
noncomputable def b23:Code:=((Go.Proofs.Tryd.f23).body).getD .skip
theorem s23_5 (N:Nat) {R:Type} (k:AExit→St→Option R) (t0:Int) (t19:List Int) (t20:Int) (o0:Int) (o1:Int) (kb:List (Nat×AVal)→List Obj→Option R) (x:Int×List Int):codeK (x23 N) (loopAt 5 (loopsOf b23)) (St.of [(4,(.bptr 0 [])),(21,(.data (.int .i64) x.1)),(6,(.bptr 1 [])),(0,(.data (.int .i64) t0)),(19,(.data (.sl false (.int .i64)) t19)),(20,(.data (.int .i64) t20))] [.cell (.agg (.pr (.data (.int .i64) o0) (.pr .nilS .un))),.cell (.agg (.pr (.data (.int .i64) o1) (.pr (.ref 2 [] 0) .un))),.row (.int .u64) x.2 0]) (kLoop (x23 N) 5 ⟨[4,21,6,0,19,20],[]⟩ kb k)=f23_L5 N t0 t19 t20 o0 o1 (fun y=>kb [(4,(.bptr 0 [])),(21,(.data (.int .i64) y.1)),(6,(.bptr 1 [])),(0,(.data (.int .i64) t0)),(19,(.data (.sl false (.int .i64)) t19)),(20,(.data (.int .i64) t20))] [.cell (.agg (.pr (.data (.int .i64) o0) (.pr .nilS .un))),.cell (.agg (.pr (.data (.int .i64) o1) (.pr (.ref 2 [] 0) .un))),.row (.int .u64) y.2 0])
  (fun y0 y1=>k .ret (St.of [(4,(.bptr 0 [])),(5,(.data (.int .i64) y0))] [.cell (.agg (.pr (.data (.int .i64) y1) (.pr .nilS .un)))]))
  (fun y2=>k (.exit 0) (St.of [(4,(.bptr 0 [])),(6,(.bptr 1 []))] [.cell (.agg (.pr (.data (.int .i64) o0) (.pr .nilS .un))),.cell (.agg (.pr (.data (.int .i64) o1) (.pr (.ref 2 [] 0) .un))),.row (.int .u64) y2 0])) x:=by kernel_rfl
theorem l23_5 (N:Nat):LoopOK (x23 N) (loopAt 5 (loopsOf b23)):=
 loop_mk (G23_5 N) (by kernel_rfl) (by kernel_rfl) (by kernel_rfl) fun R k d=>
  loop_eq (st:=fun (x:Int×List Int)=>([(4,(.bptr 0 [])),(21,(.data (.int .i64) x.1)),(6,(.bptr 1 [])),(0,(.data (.int .i64) d.1.2.2.2.1)),(19,(.data (.sl false (.int .i64)) d.1.2.2.2.2.1)),(20,(.data (.int .i64) d.1.2.2.2.2.2.1))],[.cell (.agg (.pr (.data (.int .i64) d.2.1.1) (.pr .nilS .un))),.cell (.agg (.pr (.data (.int .i64) d.2.2.1.1) (.pr (.ref 2 [] 0) .un))),.row (.int .u64) x.2 0])) (s23_5 N k d.1.2.2.2.1 d.1.2.2.2.2.1 d.1.2.2.2.2.2.1 d.2.1.1 d.2.2.1.1) N (d.1.2.1,d.2.2.2.1)
theorem e23 (N:Nat) (a0:Int) (a1:List Int):bodyK (x23 N) [(.pair (.int .i64) (.pair (.sl true (.int .u64)) .unit)),(.int .i64)] [.cell 4 25,.tmp 5] b23 (entry (.pr (.val (.int .i64)) (.pr (.val (.sl false (.int .i64))) .un)) (a0,(a1,())))=f23 N a0 a1:=by kernel_rfl
theorem k23 (N:Nat):CalleeOK Go.Proofs.Tryd.prog 23 (c23 N):=
 fn_ok (fn:=Go.Proofs.Tryd.f23) (body:=b23) (c:=x23 N) Go.Proofs.Tryd.func23 (by kernel_rfl) (by kernel_rfl) ⟨ttL_ok,mtL_ok,eqL_ok,ctL_ok,msL_ok,env_cons (forall_mem1 (k32 N)) (env_nil)⟩ mixed (by kernel_rfl) (Nat.le_of_ble_eq_true (by kernel_rfl)) (by kernel_rfl) (by decide)
  (loops_ok (by kernel_rfl:loopsOf b23=[loopAt 5 (loopsOf b23)]) (.cons (l23_5 N) .nil)) fun d=>e23 N d.1 d.2.1
def f8_L8 {R:Type} (N:Nat) (t2:Int) (t0:List Int) (t30:Int) (o1:List Int) (o2:Int) (o3:(Int×(List Int×Unit))) (kb:Int×List Int→Option R) (kx0:(List Int)→Option R):Int×List Int→Option R:=
 fun (t31,o0)=>
  cond (decide (t31 < t30))
   (chk (inb o1 t31) <|
   (idx o1 t31).bind fun x=>
   (idx t0 x).bind fun x_1=>
   cond (decide (x_1=t2))
    (chk (decide ((Nat.succ (List.length o0))≤room)) <|
    kb ((wi64 (t31+1)),(o0++(x :: ([]:List Int)))))
    (kb ((wi64 (t31+1)),o0)))
   (kx0 o0)
def f8 (N:Nat) (a0:List Int) (a1:(Int×(List Int×Unit))) (a2:Int):Option ((Int×(List Int×Unit))×Int):=
 (f19 N a0 a1).bind fun r=>
 cond (!(decide (r=0)))
  (some ((0,(([]:List Int),())),r))
  ((cond (decide (a2 < 0))
    (some true)
    ((f17 N a0).bind fun r_1=>
    some (decide (r_1≤a2)))).bind fun b=>
  cond b
   (some ((0,(([]:List Int),())),3))
   ((f20 N a1).bind fun r_2=>
   iter (fun w=>f8_L8 N a2 a0 (len r_2) r_2 0 a1 w
    (fun o1_1=>
     (f23 N a1.1 o1_1).bind fun r_3=>
     some ((r_3.1.1,(r_3.1.2.1,())),r_3.2))) N (0,([]:List Int))))
def c8 (N:Nat):Callee:=.pure (.pr (.val (.sl false (.int .i64))) (.pr (.val (.pair (.int .i64) (.pair (.sl false (.int .u64)) .unit))) (.pr (.val (.int .i64)) .un))) [(.pair (.int .i64) (.pair (.sl true (.int .u64)) .unit)),(.int .i64)] fun d=>f8 N d.1 d.2.1 d.2.2.1
def F8_8:SForm:=⟨[(31,(.val (.int .i64))),(9,(.ref 0)),(2,(.val (.int .i64))),(0,(.val (.sl false (.int .i64)))),(29,(.ref 1)),(6,(.bptr 2 [])),(4,(.bptr 3 [])),(30,(.val (.int .i64)))],[.row (.int .i64),.row (.int .i64),.cell (.agg (.pr (.val (.int .i64)) (.pr .nilS .un))),.cell (.val (.pair (.int .i64) (.pair (.sl false (.int .u64)) .unit)))]⟩
def G8_8 (N:Nat):(R:Type)→F8_8.den→(AExit→St→Option R)→Option R:=fun R d k=>iter (fun kb=>f8_L8 N d.1.2.2.1 d.1.2.2.2.1 d.1.2.2.2.2.2.2.2.1 d.2.2.1 d.2.2.2.1.1 d.2.2.2.2.1 kb
  (fun y1=>k (.exit 0) (St.of [(6,(.bptr 0 [])),(9,(.ref 1 [] 0)),(4,(.bptr 2 []))] [.cell (.agg (.pr (.data (.int .i64) d.2.2.2.1.1) (.pr .nilS .un))),.row (.int .i64) y1 0,.cell (.data (.pair (.int .i64) (.pair (.sl false (.int .u64)) .unit)) d.2.2.2.2.1)]))) N (d.1.1,d.2.1)
def lp8 (N:Nat):Nat→Option LoopFn:=fun r=>cond (Nat.beq r 8) (some fun R sl os k=>F8_8.take sl os fun d=>G8_8 N R d k) (none)
def x8 (N:Nat):Ctx:={ fuel:=N,tt:=getL ttL,mt:=getL mtL,ntmps:=52,env:=fun f=>(getL [(19,[c19 N]),(17,[c17 N]),(20,[c20 N]),(23,[c23 N])] f).getD [],cut:=getL [(8,⟨[31,9,2,0,29,6,4,30],[(9,none,.row (.int .i64))]⟩)],exits:=fun r=>getL ((getL [(8,[(0,⟨[6,9,4],[]⟩)])] r).getD []),res:=⟨[6,7],[]⟩,own:=fun _=>none,lp:=lp8 N,eqs:=fun T=>memN T eqL,ct:=fun T=>memN T ctL,ms:=getMs msL }
noncomputable def b8:Code:=((Go.Proofs.Tryd.f8).body).getD .skip
theorem s8_8 (N:Nat) {R:Type} (k:AExit→St→Option R) (t2:Int) (t0:List Int) (t30:Int) (o1:List Int) (o2:Int) (o3:(Int×(List Int×Unit))) (kb:List (Nat×AVal)→List Obj→Option R) (x:Int×List Int):codeK (x8 N) (loopAt 8 (loopsOf b8)) (St.of [(31,(.data (.int .i64) x.1)),(9,(.ref 0 [] 0)),(2,(.data (.int .i64) t2)),(0,(.data (.sl false (.int .i64)) t0)),(29,(.ref 1 [] 0)),(6,(.bptr 2 [])),(4,(.bptr 3 [])),(30,(.data (.int .i64) t30))] [.row (.int .i64) x.2 0,.row (.int .i64) o1 0,.cell (.agg (.pr (.data (.int .i64) o2) (.pr .nilS .un))),.cell (.data (.pair (.int .i64) (.pair (.sl false (.int .u64)) .unit)) o3)]) (kLoop (x8 N) 8 ⟨[31,9,2,0,29,6,4,30],[(9,none,.row (.int .i64))]⟩ kb k)=f8_L8 N t2 t0 t30 o1 o2 o3 (fun y=>kb [(31,(.data (.int .i64) y.1)),(9,(.ref 0 [] 0)),(2,(.data (.int .i64) t2)),(0,(.data (.sl false (.int .i64)) t0)),(29,(.ref 1 [] 0)),(6,(.bptr 2 [])),(4,(.bptr 3 [])),(30,(.data (.int .i64) t30))] [.row (.int .i64) y.2 0,.row (.int .i64) o1 0,.cell (.agg (.pr (.data (.int .i64) o2) (.pr .nilS .un))),.cell (.data (.pair (.int .i64) (.pair (.sl false (.int .u64)) .unit)) o3)])
  (fun y1=>k (.exit 0) (St.of [(6,(.bptr 0 [])),(9,(.ref 1 [] 0)),(4,(.bptr 2 []))] [.cell (.agg (.pr (.data (.int .i64) o2) (.pr .nilS .un))),.row (.int .i64) y1 0,.cell (.data (.pair (.int .i64) (.pair (.sl false (.int .u64)) .unit)) o3)])) x:=by kernel_rfl
theorem l8_8 (N:Nat):LoopOK (x8 N) (loopAt 8 (loopsOf b8)):=
 loop_mk (G8_8 N) (by kernel_rfl) (by kernel_rfl) (by kernel_rfl) fun R k d=>
  loop_eq (st:=fun (x:Int×List Int)=>([(31,(.data (.int .i64) x.1)),(9,(.ref 0 [] 0)),(2,(.data (.int .i64) d.1.2.2.1)),(0,(.data (.sl false (.int .i64)) d.1.2.2.2.1)),(29,(.ref 1 [] 0)),(6,(.bptr 2 [])),(4,(.bptr 3 [])),(30,(.data (.int .i64) d.1.2.2.2.2.2.2.2.1))],[.row (.int .i64) x.2 0,.row (.int .i64) d.2.2.1 0,.cell (.agg (.pr (.data (.int .i64) d.2.2.2.1.1) (.pr .nilS .un))),.cell (.data (.pair (.int .i64) (.pair (.sl false (.int .u64)) .unit)) d.2.2.2.2.1)])) (s8_8 N k d.1.2.2.1 d.1.2.2.2.1 d.1.2.2.2.2.2.2.2.1 d.2.2.1 d.2.2.2.1.1 d.2.2.2.2.1) N (d.1.1,d.2.1)
theorem e8 (N:Nat) (a0:List Int) (a1:(Int×(List Int×Unit))) (a2:Int):bodyK (x8 N) [(.pair (.int .i64) (.pair (.sl true (.int .u64)) .unit)),(.int .i64)] [.cell 6 25,.tmp 7] b8 (entry (.pr (.val (.sl false (.int .i64))) (.pr (.val (.pair (.int .i64) (.pair (.sl false (.int .u64)) .unit))) (.pr (.val (.int .i64)) .un))) (a0,(a1,(a2,()))))=f8 N a0 a1 a2:=by kernel_rfl
theorem k8 (N:Nat):CalleeOK Go.Proofs.Tryd.prog 8 (c8 N):=
 fn_ok (fn:=Go.Proofs.Tryd.f8) (body:=b8) (c:=x8 N) Go.Proofs.Tryd.func8 (by kernel_rfl) (by kernel_rfl) ⟨ttL_ok,mtL_ok,eqL_ok,ctL_ok,msL_ok,env_cons (forall_mem1 (k19 N)) (env_cons (forall_mem1 (k17 N)) (env_cons (forall_mem1 (k20 N)) (env_cons (forall_mem1 (k23 N)) (env_nil))))⟩ mixed (by kernel_rfl) (Nat.le_of_ble_eq_true (by kernel_rfl)) (by kernel_rfl) (by decide)
  (loops_ok (by kernel_rfl:loopsOf b8=[loopAt 8 (loopsOf b8)]) (.cons (l8_8 N) .nil)) fun d=>e8 N d.1 d.2.1 d.2.2.1
def f9_L8 {R:Type} (N:Nat) (t2:Int) (t0:List Int) (o0:Int) (o2:(Int×(List Int×Unit))) (o3:Int) (kb:Int×List Int→Option R) (kx0:(List Int)→Option R):Int×List Int→Option R:=
 fun (t10,o1)=>
  cond (decide (t10 < (len t0)))
   ((idx t0 t10).bind fun x=>
   (cond (decide (x=t2))
     ((f22 N o2 t10).bind fun r_2=>
     some r_2)
     (some false)).bind fun b_1=>
   cond b_1
    (chk (inb o1 (wi64 (Int.tdiv t10 64))) <|
    (idx o1 (wi64 (Int.tdiv t10 64))).bind fun x_1=>
    cond (decide ((Int.tmod t10 64) < 0))
     (none)
     (chk (inb o1 (wi64 (Int.tdiv t10 64))) <|
     (idx o1 (wi64 (Int.tdiv t10 64))).bind fun x_2=>
     (idx o1 (wi64 (Int.tdiv t10 64))).bind fun x_3=>
     kb ((wi64 (t10+1)),(setI o1 (wi64 (Int.tdiv t10 64)) (wu64 (((((BitVec.ofInt 64 x_1).or
  (BitVec.ofInt 64 (Go.IntKind.u64.wrap (Int.mul 1 (Int.pow 2 (min (Int.tmod t10 64).toNat 64)))))).toNat):Nat):Int))))))
    (kb ((wi64 (t10+1)),o1)))
   (kx0 o1)
def f9 (N:Nat) (a0:List Int) (a1:(Int×(List Int×Unit))) (a2:Int):Option ((Int×(List Int×Unit))×Int):=
 (f21 N a0 a1).bind fun r=>
 cond (!(decide (r=0)))
  (some ((0,(([]:List Int),())),r))
  ((cond (decide (a2 < 0))
    (some true)
    ((f12 N a0).bind fun r_1=>
    some (decide (r_1≤a2)))).bind fun b=>
  cond b
   (some ((0,(([]:List Int),())),3))
   (chk (((decide (0≤(len a1.2.1))) && (decide ((len a1.2.1)≤(len a1.2.1)))) && (decide ((len a1.2.1)≤((room:Nat):Int)))) <|
   iter (fun w=>f9_L8 N a2 a0 a1.1 a1 0 w
    (fun o2_1=>
     some ((a1.1,(o2_1,())),0))) N (0,(List.replicate (Int.toNat (len a1.2.1)) 0:List Int))))
def c9 (N:Nat):Callee:=.pure (.pr (.val (.sl false (.int .i64))) (.pr (.val (.pair (.int .i64) (.pair (.sl false (.int .u64)) .unit))) (.pr (.val (.int .i64)) .un))) [(.pair (.int .i64) (.pair (.sl false (.int .u64)) .unit)),(.int .i64)] fun d=>f9 N d.1 d.2.1 d.2.2.1
def f10_L4 {R:Type} (N:Nat) (t1:List Int) (t0:List Int) (t12:Int) (kb:Int→Option R) (kret:Bool→Option R) (kx0:Unit→Option R):Int→Option R:=
 fun t13=>
  cond (decide (t13 < t12))
   ((idx t0 t13).bind fun x=>
   (idx t1 t13).bind fun x_1=>
   cond (!(decide (x=x_1)))
    (kret false)
    (kb (wi64 (t13+1))))
   (kx0 ())
def f10 (N:Nat) (a0:List Int) (a1:List Int):Option (Bool):=
 cond (!(decide ((len a0)=(len a1))))
  (some false)
  (iter (fun w=>f10_L4 N a1 a0 (len a0) w
   (fun t4=>
    some t4)
   (fun (_:Unit)=>
    some true)) N 0)
def c10 (N:Nat):Callee:=.pure (.pr (.val (.sl false (.int .u64))) (.pr (.val (.sl false (.int .u64))) .un)) [.bool] fun d=>f10 N d.1 d.2.1
def f3 (N:Nat) (a0:List Int) (a1:(Int×(List Int×Unit))) (a2:Int):Option (Bool):=
 (f5 N).bind fun r=>
 cond (!r)
  (some false)
  ((cond (decide (64 < (len a0)))
    (some true)
    (some (decide (4 < (len a1.2.1))))).bind fun b=>
  cond b
   (some true)
   ((f6 N a0 a1).bind fun r_1=>
   (f7 N a0 a1).bind fun r_2=>
   (f8 N a0 a1 a2).bind fun r_3=>
   (f9 N a0 a1 a2).bind fun r_4=>
   (cond (decide (r_1.1=r_2.1))
     (some (decide (r_1.2=r_2.2)))
     (some false)).bind fun b_1=>
   (cond b_1
     (some (decide (r_3.1.1=r_4.1.1)))
     (some false)).bind fun b_2=>
   (cond b_2
     ((f10 N r_3.1.2.1 r_4.1.2.1).bind fun r_5=>
     some r_5)
     (some false)).bind fun b_3=>
   (cond b_3
     (some (decide (r_3.2=r_4.2)))
     (some false)).bind fun b_4=>
   some b_4))
def lp3 (N:Nat):Nat→Option LoopFn:=fun r=>none
def x3 (N:Nat):Ctx:={ fuel:=N,tt:=getL ttL,mt:=getL mtL,ntmps:=79,env:=fun f=>(getL [(5,[c5 N]),(6,[c6 N]),(7,[c7 N]),(8,[c8 N]),(9,[c9 N]),(10,[c10 N])] f).getD [],cut:=getL [],exits:=fun r=>getL ((getL [] r).getD []),res:=⟨[6],[]⟩,own:=fun _=>none,lp:=lp3 N,eqs:=fun T=>memN T eqL,ct:=fun T=>memN T ctL,ms:=getMs msL }
noncomputable def b3:Code:=((Go.Proofs.Tryd.f3).body).getD .skip
theorem e3 (N:Nat) (a0:List Int) (a1:(Int×(List Int×Unit))) (a2:Int):bodyK (x3 N) [.bool] [.tmp 6] b3 (entry (.pr (.val (.sl false (.int .i64))) (.pr (.val (.pair (.int .i64) (.pair (.sl false (.int .u64)) .unit))) (.pr (.val (.int .i64)) .un))) (a0,(a1,(a2,()))))=f3 N a0 a1 a2:=by kernel_rfl
def f11_L8 {R:Type} (N:Nat) (t5_1:Int) (t0_1:List Int) (t4_1:Int) (o0_1:List Int) (kb:Int×Int→Option R) (kx2:Int→Option R):Int×Int→Option R:=
 fun (t7,t6)=>
  cond (decide (t7 < t5_1))
   ((idx t0_1 t7).bind fun x=>
   (idx t0_1 t5_1).bind fun x_1=>
   cond (decide (x=x_1))
    (chk (inb o0_1 t7) <|
    (idx o0_1 t7).bind fun x_2=>
    kb ((wi64 (t7+1)),x_2))
    (kb ((wi64 (t7+1)),t6)))
   (kx2 t6)
def f11_L4 {R:Type} (N:Nat) (t0:List Int) (kb:Int×Int×List Int→Option R) (kx0:(List Int)→Option R):Int×Int×List Int→Option R:=
 fun (t5,t4,o0)=>
  cond (decide (t5 < (len t0)))
   (iter (fun w=>f11_L8 N t5 t0 t4 o0 w
    (fun t6_1=>
     cond (decide (t6_1=t4))
      (chk (decide ((Nat.succ (List.length o0))≤room)) <|
      kb ((wi64 (t5+1)),(wi64 (t4+1)),(o0++(t6_1 :: ([]:List Int)))))
      (chk (decide ((Nat.succ (List.length o0))≤room)) <|
      kb ((wi64 (t5+1)),t4,(o0++(t6_1 :: ([]:List Int))))))) N (0,t4))
   (kx0 o0)
def f11 (N:Nat) (a0:List Int):Option (List Int):=
 iter (fun w=>f11_L4 N a0 w
  (fun o0_2=>
   some o0_2)) N (0,0,([]:List Int))
def c11 (N:Nat):Callee:=.pure (.pr (.val (.sl false (.int .i64))) .un) [(.sl true (.int .i64))] fun d=>f11 N d.1
def F11_8:SForm:=⟨[(7,(.val (.int .i64))),(3,(.ref 0)),(5,(.val (.int .i64))),(0,(.val (.sl false (.int .i64)))),(6,(.val (.int .i64))),(4,(.val (.int .i64)))],[.row (.int .i64)]⟩
def G11_8 (N:Nat):(R:Type)→F11_8.den→(AExit→St→Option R)→Option R:=fun R d k=>iter (fun kb=>f11_L8 N d.1.2.2.1 d.1.2.2.2.1 d.1.2.2.2.2.2.1 d.2.1 kb
  (fun y2=>k (.exit 2) (St.of [(0,(.data (.sl false (.int .i64)) d.1.2.2.2.1)),(5,(.data (.int .i64) d.1.2.2.1)),(6,(.data (.int .i64) y2)),(3,(.ref 0 [] 0)),(4,(.data (.int .i64) d.1.2.2.2.2.2.1))] [.row (.int .i64) d.2.1 0]))) N (d.1.1,d.1.2.2.2.2.1)
def F11_4:SForm:=⟨[(3,(.ref 0)),(5,(.val (.int .i64))),(0,(.val (.sl false (.int .i64)))),(4,(.val (.int .i64)))],[.row (.int .i64)]⟩
def G11_4 (N:Nat):(R:Type)→F11_4.den→(AExit→St→Option R)→Option R:=fun R d k=>iter (fun kb=>f11_L4 N d.1.2.2.1 kb
  (fun y0=>k (.exit 0) (St.of [(3,(.ref 0 [] 0))] [.row (.int .i64) y0 0]))) N (d.1.2.1,d.1.2.2.2.1,d.2.1)
def lp11 (N:Nat):Nat→Option LoopFn:=fun r=>cond (Nat.beq r 8) (some fun R sl os k=>F11_8.take sl os fun d=>G11_8 N R d k) (cond (Nat.beq r 4) (some fun R sl os k=>F11_4.take sl os fun d=>G11_4 N R d k) (none))
def x11 (N:Nat):Ctx:={ fuel:=N,tt:=getL ttL,mt:=getL mtL,ntmps:=43,env:=fun f=>(getL [] f).getD [],cut:=getL [(4,⟨[3,5,0,4],[(3,none,.row (.int .i64))]⟩),(8,⟨[7,3,5,0,6,4],[]⟩)],exits:=fun r=>getL ((getL [(4,[(0,⟨[3],[]⟩)]),(8,[(2,⟨[0,5,6,3,4],[]⟩)])] r).getD []),res:=⟨[2],[]⟩,own:=fun _=>none,lp:=lp11 N,eqs:=fun T=>memN T eqL,ct:=fun T=>memN T ctL,ms:=getMs msL }
noncomputable def b11:Code:=((Go.Proofs.Tryd.f11).body).getD .skip
theorem s11_8 (N:Nat) {R:Type} (k:AExit→St→Option R) (t5_1:Int) (t0_1:List Int) (t4_1:Int) (o0_1:List Int) (kb:List (Nat×AVal)→List Obj→Option R) (x:Int×Int):codeK (x11 N) (loopAt 8 (loopsOf b11)) (St.of [(7,(.data (.int .i64) x.1)),(3,(.ref 0 [] 0)),(5,(.data (.int .i64) t5_1)),(0,(.data (.sl false (.int .i64)) t0_1)),(6,(.data (.int .i64) x.2)),(4,(.data (.int .i64) t4_1))] [.row (.int .i64) o0_1 0]) (kLoop (x11 N) 8 ⟨[7,3,5,0,6,4],[]⟩ kb k)=f11_L8 N t5_1 t0_1 t4_1 o0_1 (fun y=>kb [(7,(.data (.int .i64) y.1)),(3,(.ref 0 [] 0)),(5,(.data (.int .i64) t5_1)),(0,(.data (.sl false (.int .i64)) t0_1)),(6,(.data (.int .i64) y.2)),(4,(.data (.int .i64) t4_1))] [.row (.int .i64) o0_1 0])
  (fun y2=>k (.exit 2) (St.of [(0,(.data (.sl false (.int .i64)) t0_1)),(5,(.data (.int .i64) t5_1)),(6,(.data (.int .i64) y2)),(3,(.ref 0 [] 0)),(4,(.data (.int .i64) t4_1))] [.row (.int .i64) o0_1 0])) x:=by kernel_rfl
theorem l11_8 (N:Nat):LoopOK (x11 N) (loopAt 8 (loopsOf b11)):=
 loop_mk (G11_8 N) (by kernel_rfl) (by kernel_rfl) (by kernel_rfl) fun R k d=>
  loop_eq (st:=fun (x:Int×Int)=>([(7,(.data (.int .i64) x.1)),(3,(.ref 0 [] 0)),(5,(.data (.int .i64) d.1.2.2.1)),(0,(.data (.sl false (.int .i64)) d.1.2.2.2.1)),(6,(.data (.int .i64) x.2)),(4,(.data (.int .i64) d.1.2.2.2.2.2.1))],[.row (.int .i64) d.2.1 0])) (s11_8 N k d.1.2.2.1 d.1.2.2.2.1 d.1.2.2.2.2.2.1 d.2.1) N (d.1.1,d.1.2.2.2.2.1)
theorem s11_4 (N:Nat) {R:Type} (k:AExit→St→Option R) (t0:List Int) (kb:List (Nat×AVal)→List Obj→Option R) (x:Int×Int×List Int):codeK (x11 N) (loopAt 4 (loopsOf b11)) (St.of [(3,(.ref 0 [] 0)),(5,(.data (.int .i64) x.1)),(0,(.data (.sl false (.int .i64)) t0)),(4,(.data (.int .i64) x.2.1))] [.row (.int .i64) x.2.2 0]) (kLoop (x11 N) 4 ⟨[3,5,0,4],[(3,none,.row (.int .i64))]⟩ kb k)=f11_L4 N t0 (fun y=>kb [(3,(.ref 0 [] 0)),(5,(.data (.int .i64) y.1)),(0,(.data (.sl false (.int .i64)) t0)),(4,(.data (.int .i64) y.2.1))] [.row (.int .i64) y.2.2 0])
  (fun y0=>k (.exit 0) (St.of [(3,(.ref 0 [] 0))] [.row (.int .i64) y0 0])) x:=by kernel_rfl
theorem l11_4 (N:Nat):LoopOK (x11 N) (loopAt 4 (loopsOf b11)):=
 loop_mk (G11_4 N) (by kernel_rfl) (by kernel_rfl) (by kernel_rfl) fun R k d=>
  loop_eq (st:=fun (x:Int×Int×List Int)=>([(3,(.ref 0 [] 0)),(5,(.data (.int .i64) x.1)),(0,(.data (.sl false (.int .i64)) d.1.2.2.1)),(4,(.data (.int .i64) x.2.1))],[.row (.int .i64) x.2.2 0])) (s11_4 N k d.1.2.2.1) N (d.1.2.1,d.1.2.2.2.1,d.2.1)
theorem e11 (N:Nat) (a0:List Int):bodyK (x11 N) [(.sl true (.int .i64))] [.tmp 2] b11 (entry (.pr (.val (.sl false (.int .i64))) .un) (a0,()))=f11 N a0:=by kernel_rfl
theorem k11 (N:Nat):CalleeOK Go.Proofs.Tryd.prog 11 (c11 N):=
 fn_ok (fn:=Go.Proofs.Tryd.f11) (body:=b11) (c:=x11 N) Go.Proofs.Tryd.func11 (by kernel_rfl) (by kernel_rfl) ⟨ttL_ok,mtL_ok,eqL_ok,ctL_ok,msL_ok,env_nil⟩ mixed (by kernel_rfl) (Nat.le_of_ble_eq_true (by kernel_rfl)) (by kernel_rfl) (by decide)
  (loops_ok (by kernel_rfl:loopsOf b11=[loopAt 4 (loopsOf b11),loopAt 8 (loopsOf b11)]) (.cons (l11_4 N) (.cons (l11_8 N) .nil))) fun d=>e11 N d.1
def f4_L13 {R:Type} (N:Nat) (t9:Int) (t2:Int) (t63:Int) (o0:Int) (o1:List Int) (o2:List Int) (kb:Int×Int×Int→Option R) (kret:Bool→Option R) (kx0:Int→Int→Option R):Int×Int×Int→Option R:=
 fun (t64,t12,t11)=>
  cond (decide (t64 < t63))
   ((f8 N o2 (o0,(o1,())) t64).bind fun r_4=>
   (cond (!(decide (r_4.2=0)))
     (some true)
     (some (!(decide (r_4.1.1=o0))))).bind fun b_2=>
   (cond b_2
     (some true)
     (some (!(decide ((len r_4.1.2.1)=1))))).bind fun b_3=>
   (cond b_3
     (some true)
     (chk (inb r_4.1.2.1 0) <|
     (idx r_4.1.2.1 0).bind fun x=>
     some (!(decide ((wu64 (((((BitVec.ofInt 64 t11).and (BitVec.ofInt 64 x)).toNat):Nat):Int))=0))))).bind fun b_4=>
   cond b_4
    (kret false)
    (chk (inb r_4.1.2.1 0) <|
    (idx r_4.1.2.1 0).bind fun x_1=>
    chk (inb r_4.1.2.1 0) <|
    (idx r_4.1.2.1 0).bind fun x_2=>
    cond (!(decide (x_2=0)))
     (kb ((wi64 (t64+1)),(wi64 (t12+1)),(wu64 (((((BitVec.ofInt 64 t11).or (BitVec.ofInt 64 x_1)).toNat):Nat):Int))))
     (kb ((wi64 (t64+1)),t12,(wu64 (((((BitVec.ofInt 64 t11).or (BitVec.ofInt 64 x_1)).toNat):Nat):Int))))))
   (kx0 t12 t11)
def f4 (N:Nat) (a0:List Int) (a1:Int) (a2:Int):Option (Bool):=
 (f5 N).bind fun r=>
 cond (!r)
  (some false)
  (chk ((decide (0≤(minI (len a0) 64))) && (decide ((minI (len a0) 64)≤(len a0)))) <|
  (f11 N (sub a0 0 (minI (len a0) 64))).bind fun r_1=>
  cond (decide (0 < (len r_1)))
   (cond (decide ((wi64 (64-(len r_1))) < 0))
    (none)
    (cond (decide ((wi64 (64-(len r_1))) < 0))
     (none)
     ((f6 N r_1 ((len r_1),(((Int.fdiv (wu64 (a1*(2 ^ (min (Int.toNat (wi64 (64-(len r_1)))) 64)))) (2 ^ (min (Int.toNat (wi64 (64-(len r_1)))) 64))) :: ([]:List Int)),()))).bind fun r_2=>
     (cond (!(decide (r_2.2=0)))
       (some true)
       (some (decide ((len r_1)=0)))).bind fun b=>
     cond b
      ((cond (decide (r_2.2=0))
        (some (decide (r_2.1=0)))
        (some false)).bind fun b_1=>
      some b_1)
      ((f12 N r_1).bind fun r_3=>
      iter (fun w=>f4_L13 N r_2.1 a2 r_3 (len r_1) ((Int.fdiv (wu64 (a1*(2 ^ (min (Int.toNat (wi64 (64-(len r_1)))) 64)))) (2 ^ (min (Int.toNat (wi64 (64-(len r_1)))) 64))) :: ([]:List Int)) r_1 w
       (fun t6=>
        some t6)
       (fun t12_1 t11_1=>
        chk (inb ((Int.fdiv (wu64 (a1*(2 ^ (min (Int.toNat (wi64 (64-(len r_1)))) 64)))) (2 ^ (min (Int.toNat (wi64 (64-(len r_1)))) 64))) :: ([]:List Int)) 0) <|
        (idx ((Int.fdiv (wu64 (a1*(2 ^ (min (Int.toNat (wi64 (64-(len r_1)))) 64)))) (2 ^ (min (Int.toNat (wi64 (64-(len r_1)))) 64))) :: ([]:List Int)) 0).bind fun x_3=>
        (f6 N r_1 ((len r_1),(((wu64 (((((BitVec.ofInt 64 x_3).and (BitVec.ofInt 64 a2).not).toNat):Nat):Int)) :: ([]:List Int)),()))).bind fun r_5=>
        chk (inb ((Int.fdiv (wu64 (a1*(2 ^ (min (Int.toNat (wi64 (64-(len r_1)))) 64)))) (2 ^ (min (Int.toNat (wi64 (64-(len r_1)))) 64))) :: ([]:List Int)) 0) <|
        (idx ((Int.fdiv (wu64 (a1*(2 ^ (min (Int.toNat (wi64 (64-(len r_1)))) 64)))) (2 ^ (min (Int.toNat (wi64 (64-(len r_1)))) 64))) :: ([]:List Int)) 0).bind fun x_4=>
        (cond (decide (t11_1=x_4))
          (some (decide (t12_1=r_2.1)))
          (some false)).bind fun b_5=>
        (cond b_5
          (some (decide (r_5.2=0)))
          (some false)).bind fun b_6=>
        (cond b_6
          (some (decide (r_5.1≤r_2.1)))
          (some false)).bind fun b_7=>
        some b_7)) N (0,0,0)))))
   ((f6 N r_1 ((len r_1),(([]:List Int),()))).bind fun r_6=>
   (cond (!(decide (r_6.2=0)))
     (some true)
     (some (decide ((len r_1)=0)))).bind fun b_8=>
   cond b_8
    ((cond (decide (r_6.2=0))
      (some (decide (r_6.1=0)))
      (some false)).bind fun b_9=>
    some b_9)
    ((f12 N r_1).bind fun r_7=>
    iter (fun w=>f4_L13 N r_6.1 a2 r_7 (len r_1) ([]:List Int) r_1 w
     (fun t6_1=>
      some t6_1)
     (fun t12_2 t11_2=>
      none)) N (0,0,0))))
def c4 (N:Nat):Callee:=.pure (.pr (.val (.sl false (.int .i64))) (.pr (.val (.int .u64)) (.pr (.val (.int .u64)) .un))) [.bool] fun d=>f4 N d.1 d.2.1 d.2.2.1
def F4_13:SForm:=⟨[(64,(.val (.int .i64))),(12,(.val (.int .i64))),(11,(.val (.int .u64))),(8,(.bptr 0 [])),(7,(.ref 2)),(9,(.val (.int .i64))),(2,(.val (.int .u64))),(63,(.val (.int .i64)))],[.cell (.agg (.pr (.val (.int .i64)) (.pr (.ref 1) .un))),.row (.int .u64),.row (.int .i64)]⟩
def G4_13 (N:Nat):(R:Type)→F4_13.den→(AExit→St→Option R)→Option R:=fun R d k=>iter (fun kb=>f4_L13 N d.1.2.2.2.2.2.1 d.1.2.2.2.2.2.2.1 d.1.2.2.2.2.2.2.2.1 d.2.1.1 d.2.2.1 d.2.2.2.1 kb
  (fun y0=>k .ret (St.of [(6,(.data .bool y0))] []))
  (fun y1 y2=>k (.exit 0) (St.of [(9,(.data (.int .i64) d.1.2.2.2.2.2.1)),(12,(.data (.int .i64) y1)),(8,(.bptr 0 [])),(11,(.data (.int .u64) y2)),(2,(.data (.int .u64) d.1.2.2.2.2.2.2.1)),(7,(.ref 2 [] 0))] [.cell (.agg (.pr (.data (.int .i64) d.2.1.1) (.pr (.ref 1 [] 0) .un))),.row (.int .u64) d.2.2.1 0,.row (.int .i64) d.2.2.2.1 0]))) N (d.1.1,d.1.2.1,d.1.2.2.1)
def lp4 (N:Nat):Nat→Option LoopFn:=fun r=>cond (Nat.beq r 13) (some fun R sl os k=>F4_13.take sl os fun d=>G4_13 N R d k) (none)
def x4 (N:Nat):Ctx:={ fuel:=N,tt:=getL ttL,mt:=getL mtL,ntmps:=147,env:=fun f=>(getL [(5,[c5 N]),(11,[c11 N]),(6,[c6 N]),(12,[c12 N]),(8,[c8 N])] f).getD [],cut:=getL [(13,⟨[64,12,11,8,7,9,2,63],[(8,some [.snd,.fst],.row (.int .u64))]⟩)],exits:=fun r=>getL ((getL [(13,[(0,⟨[9,12,8,11,2,7],[]⟩)])] r).getD []),res:=⟨[6],[]⟩,own:=fun _=>none,lp:=lp4 N,eqs:=fun T=>memN T eqL,ct:=fun T=>memN T ctL,ms:=getMs msL }
noncomputable def b4:Code:=((Go.Proofs.Tryd.f4).body).getD .skip
theorem s4_13 (N:Nat) {R:Type} (k:AExit→St→Option R) (t9:Int) (t2:Int) (t63:Int) (o0:Int) (o1:List Int) (o2:List Int) (kb:List (Nat×AVal)→List Obj→Option R) (x:Int×Int×Int):codeK (x4 N) (loopAt 13 (loopsOf b4)) (St.of [(64,(.data (.int .i64) x.1)),(12,(.data (.int .i64) x.2.1)),(11,(.data (.int .u64) x.2.2)),(8,(.bptr 0 [])),(7,(.ref 2 [] 0)),(9,(.data (.int .i64) t9)),(2,(.data (.int .u64) t2)),(63,(.data (.int .i64) t63))] [.cell (.agg (.pr (.data (.int .i64) o0) (.pr (.ref 1 [] 0) .un))),.row (.int .u64) o1 0,.row (.int .i64) o2 0]) (kLoop (x4 N) 13 ⟨[64,12,11,8,7,9,2,63],[(8,some [.snd,.fst],.row (.int .u64))]⟩ kb k)=f4_L13 N t9 t2 t63 o0 o1 o2 (fun y=>kb [(64,(.data (.int .i64) y.1)),(12,(.data (.int .i64) y.2.1)),(11,(.data (.int .u64) y.2.2)),(8,(.bptr 0 [])),(7,(.ref 2 [] 0)),(9,(.data (.int .i64) t9)),(2,(.data (.int .u64) t2)),(63,(.data (.int .i64) t63))] [.cell (.agg (.pr (.data (.int .i64) o0) (.pr (.ref 1 [] 0) .un))),.row (.int .u64) o1 0,.row (.int .i64) o2 0])
  (fun y0=>k .ret (St.of [(6,(.data .bool y0))] []))
  (fun y1 y2=>k (.exit 0) (St.of [(9,(.data (.int .i64) t9)),(12,(.data (.int .i64) y1)),(8,(.bptr 0 [])),(11,(.data (.int .u64) y2)),(2,(.data (.int .u64) t2)),(7,(.ref 2 [] 0))] [.cell (.agg (.pr (.data (.int .i64) o0) (.pr (.ref 1 [] 0) .un))),.row (.int .u64) o1 0,.row (.int .i64) o2 0])) x:=by kernel_rfl
theorem l4_13 (N:Nat):LoopOK (x4 N) (loopAt 13 (loopsOf b4)):=
 loop_mk (G4_13 N) (by kernel_rfl) (by kernel_rfl) (by kernel_rfl) fun R k d=>
  loop_eq (st:=fun (x:Int×Int×Int)=>([(64,(.data (.int .i64) x.1)),(12,(.data (.int .i64) x.2.1)),(11,(.data (.int .u64) x.2.2)),(8,(.bptr 0 [])),(7,(.ref 2 [] 0)),(9,(.data (.int .i64) d.1.2.2.2.2.2.1)),(2,(.data (.int .u64) d.1.2.2.2.2.2.2.1)),(63,(.data (.int .i64) d.1.2.2.2.2.2.2.2.1))],[.cell (.agg (.pr (.data (.int .i64) d.2.1.1) (.pr (.ref 1 [] 0) .un))),.row (.int .u64) d.2.2.1 0,.row (.int .i64) d.2.2.2.1 0])) (s4_13 N k d.1.2.2.2.2.2.1 d.1.2.2.2.2.2.2.1 d.1.2.2.2.2.2.2.2.1 d.2.1.1 d.2.2.1 d.2.2.2.1) N (d.1.1,d.1.2.1,d.1.2.2.1)
theorem e4 (N:Nat) (a0:List Int) (a1:Int) (a2:Int):bodyK (x4 N) [.bool] [.tmp 6] b4 (entry (.pr (.val (.sl false (.int .i64))) (.pr (.val (.int .u64)) (.pr (.val (.int .u64)) .un))) (a0,(a1,(a2,()))))=f4 N a0 a1 a2:=by kernel_rfl
theorem k4 (N:Nat):CalleeOK Go.Proofs.Tryd.prog 4 (c4 N):=
 fn_ok (fn:=Go.Proofs.Tryd.f4) (body:=b4) (c:=x4 N) Go.Proofs.Tryd.func4 (by kernel_rfl) (by kernel_rfl) ⟨ttL_ok,mtL_ok,eqL_ok,ctL_ok,msL_ok,env_cons (forall_mem1 (k5 N)) (env_cons (forall_mem1 (k11 N)) (env_cons (forall_mem1 (k6 N)) (env_cons (forall_mem1 (k12 N)) (env_cons (forall_mem1 (k8 N)) (env_nil)))))⟩ mixed (by kernel_rfl) (Nat.le_of_ble_eq_true (by kernel_rfl)) (by kernel_rfl) (by decide)
  (loops_ok (by kernel_rfl:loopsOf b4=[loopAt 13 (loopsOf b4)]) (.cons (l4_13 N) .nil)) fun d=>e4 N d.1 d.2.1 d.2.2.1
end
end Go.Kz
