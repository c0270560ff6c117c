/-
  The functions of the program as plain functions on lists and numbers, and the proofs that the program computes them. Printed by a program.
-/
import Derived.Test.YtafhchecfmiieaaKzAR
import Derived.Test.YtafhchecfmiieaaKzAS
import Derived.Test.YtafhchecfmiieaaKzL07
import Derived.Test.YtafhchecfmiieaaProg
set_option linter.unusedSimpArgs false
set_option maxRecDepth 100000
set_option linter.unusedVariables false
namespace Go.Kz
open Go.Proofs
noncomputable section
def ttL:List (Nat×Ty):=[(1,(.fn 0 .unit)),(2,(.int .i64)),(3,(.int .i64)),(4,.bool),(5,(.int .u8)),(6,(.int .u8)),(7,(.pair (.int .i64) (.pair (.int .i64) (.pair .bool (.pair (.int .u8) .unit))))),(8,(.pair (.int .i64) (.pair (.int .i64) (.pair .bool (.pair (.int .u8) .unit))))),(9,.str),(10,.str),(11,.str),(12,(.int .u64)),(13,(.pair .str (.pair (.int .u64) .unit))),(14,(.pair .str (.pair (.int .u64) .unit))),(21,(.int .i32)),(22,(.sl false (.arr 2 (.int .i64)))),(23,(.pair (.int .i64) (.pair (.sl false (.arr 2 (.int .i64))) .unit))),(24,(.pair (.int .i64) (.pair (.sl false (.arr 2 (.int .i64))) .unit))),(25,(.sl false (.int .i64))),(26,(.pair (.pair (.int .i64) (.pair (.sl false (.arr 2 (.int .i64))) .unit)) (.pair (.sl false (.int .i64)) (.pair (.sl false (.int .i64)) (.pair (.sl false (.int .i64)) .unit))))),(27,(.pair (.pair (.int .i64) (.pair (.sl false (.arr 2 (.int .i64))) .unit)) (.pair (.sl false (.int .i64)) (.pair (.sl false (.int .i64)) (.pair (.sl false (.int .i64)) .unit))))),(28,(.fn 0 .unit)),(29,(.fn 0 .unit)),(30,(.sl false (.pair (.sl false (.int .i64)) (.pair (.int .i64) .unit)))),(31,(.int .i64)),(33,(.fn 0 .unit)),(34,(.fn 0 .unit)),(36,(.fn 0 .unit)),(37,(.fn 0 .unit)),(38,(.fn 0 .unit)),(39,(.fn 0 .unit)),(40,(.sl false (.sl false (.int .i64)))),(42,(.fn 0 .unit)),(43,(.fn 0 .unit)),(44,(.fn 0 .unit)),(45,(.arr 2 (.int .i64))),(46,(.fn 0 .unit)),(47,(.fn 0 .unit)),(48,(.fn 0 .unit)),(50,(.fn 0 .unit)),(51,(.fn 0 .unit)),(52,(.fn 0 .unit)),(53,(.arr 2 (.sl false (.int .i64)))),(54,(.fn 0 .unit)),(55,(.fn 0 .unit)),(56,(.fn 0 .unit)),(57,(.fn 0 .unit)),(58,(.sl false .bool)),(59,(.fn 0 .unit)),(62,(.fn 0 .unit)),(63,(.fn 0 .unit)),(64,(.fn 0 .unit)),(65,(.fn 0 .unit)),(66,(.pair (.sl false (.int .i64)) (.pair (.int .i64) .unit))),(67,(.pair (.sl false (.int .i64)) (.pair (.int .i64) .unit))),(68,(.fn 0 .unit)),(69,(.fn 0 .unit)),(70,(.fn 0 .unit)),(71,(.fn 0 .unit)),(72,(.fn 0 .unit)),(73,(.fn 0 .unit)),(74,(.fn 0 .unit)),(75,(.fn 0 .unit)),(76,(.fn 0 .unit)),(77,(.fn 0 .unit)),(78,(.sl false (.sl false (.pair (.int .i64) (.pair (.int .i64) (.pair (.int .i64) .unit)))))),(79,(.pair (.sl false (.sl false (.pair (.int .i64) (.pair (.int .i64) (.pair (.int .i64) .unit))))) (.pair (.int .i64) (.pair (.int .i64) .unit)))),(80,(.pair (.sl false (.sl false (.pair (.int .i64) (.pair (.int .i64) (.pair (.int .i64) .unit))))) (.pair (.int .i64) (.pair (.int .i64) .unit)))),(81,(.fn 0 .unit)),(82,(.pair (.int .i64) (.pair (.int .i64) (.pair (.int .i64) .unit)))),(83,(.pair (.int .i64) (.pair (.int .i64) (.pair (.int .i64) .unit)))),(84,(.sl false (.pair (.int .i64) (.pair (.int .i64) (.pair (.int .i64) .unit))))),(85,(.fn 0 .unit)),(86,(.fn 0 .unit)),(87,(.fn 0 .unit)),(88,(.fn 0 .unit)),(89,(.fn 0 .unit)),(90,(.int .u64)),(92,(.fn 0 .unit)),(94,(.fn 0 .unit)),(96,(.int .u32)),(98,(.fn 0 .unit)),(99,(.int .u64)),(101,(.fn 0 .unit)),(102,(.fn 0 .unit)),(103,(.fn 0 .unit)),(104,(.fn 0 .unit)),(105,(.fn 0 .unit)),(106,(.fn 0 .unit)),(107,(.int .i64)),(109,(.fn 0 .unit)),(110,(.fn 0 .unit)),(111,(.fn 0 .unit)),(112,(.fn 0 .unit)),(113,(.fn 0 .unit)),(114,(.fn 0 .unit)),(115,(.int .u64)),(116,(.fn 0 .unit)),(117,(.fn 0 .unit)),(118,(.fn 0 .unit)),(120,(.fn 0 .unit)),(123,(.fn 0 .unit)),(124,(.fn 0 .unit)),(130,(.fn 0 .unit)),(131,(.int .u8)),(132,(.int .u8)),(133,(.fn 0 .unit)),(135,(.int .i32)),(136,(.int .i32))]
def mtL:List (Nat×Ty×Ty):=[(93,(.int .i64),.bool)]
def eqL:List Nat:=[7,8,45,82,83]
def ctL:List Nat:=[]
def msL:List (Nat×String×Nat×Option Nat):=[]
theorem ttL_ok:TtOK Go.Proofs.Try.prog (getL ttL):=ttB_ok (by kernel_rfl)
theorem mtL_ok:MtOK Go.Proofs.Try.prog (getL mtL):=mtB_ok (by kernel_rfl)
theorem eqL_ok:EqsOK Go.Proofs.Try.prog (fun T=>memN T eqL):=eqsB_ok (by kernel_rfl)
theorem ctL_ok:CtOK Go.Proofs.Try.prog (fun T=>memN T ctL):=ctB_ok (by kernel_rfl)
theorem msL_ok:MsOK Go.Proofs.Try.prog (getMs msL):=msB_ok (by kernel_rfl)
theorem mixed:Go.Proofs.Try.prog.follows .mixedOrders=true:=by kernel_rfl
def f54 (N:Nat) (a0:(Int×(List (List Int)×Unit))) (a1:Int):Option (Bool):=
 (cond (decide (0≤a1))
   (some (decide (a1 < a0.1)))
   (some false)).bind fun b=>
 some b
def c54 (N:Nat):Callee:=.pure (.pr (.val (.pair (.int .i64) (.pair (.sl false (.arr 2 (.int .i64))) .unit))) (.pr (.val (.int .i64)) .un)) [.bool] fun d=>f54 N d.1 d.2.1
def lp54 (N:Nat):Nat→Option LoopFn:=fun r=>none
def x54 (N:Nat):Ctx:={ fuel:=N,tt:=getL ttL,mt:=getL mtL,ntmps:=13,env:=fun f=>(getL [] f).getD [],cut:=getL [],exits:=fun r=>getL ((getL [] r).getD []),res:=⟨[4],[]⟩,own:=fun _=>none,lp:=lp54 N,eqs:=fun T=>memN T eqL,ct:=fun T=>memN T ctL,ms:=getMs msL }
noncomputable def b54:Code:=((Go.Proofs.Try.f54).body).getD .skip
theorem e54 (N:Nat) (a0:(Int×(List (List Int)×Unit))) (a1:Int):bodyK (x54 N) [.bool] [.tmp 4] b54 (entry (.pr (.val (.pair (.int .i64) (.pair (.sl false (.arr 2 (.int .i64))) .unit))) (.pr (.val (.int .i64)) .un)) (a0,(a1,())))=f54 N a0 a1:=by kernel_rfl
theorem k54 (N:Nat):CalleeOK Go.Proofs.Try.prog 54 (c54 N):=
 fn_ok (fn:=Go.Proofs.Try.f54) (body:=b54) (c:=x54 N) Go.Proofs.Try.func54 (by kernel_rfl) (by kernel_rfl) ⟨ttL_ok,mtL_ok,eqL_ok,ctL_ok,msL_ok,env_nil⟩ mixed (by kernel_rfl) (Nat.le_of_ble_eq_true (by kernel_rfl)) (by kernel_rfl) (by decide)
  (loops_ok (by kernel_rfl:loopsOf b54=[]) .nil) fun d=>e54 N d.1 d.2.1
def f38_L6 {R:Type} (N:Nat) (t18:List (List Int)) (t19:Int) (o0:(Int×(List (List Int)×Unit))) (kb:Int→Option R) (kret:Int→Option R) (kx0:Unit→Option R):Int→Option R:=
 fun t20=>
  cond (decide (t20 < t19))
   ((idx t18 t20).bind fun x=>
   chk (inb x 0) <|
   (idx x 0).bind fun x_1=>
   (f54 N o0 x_1).bind fun r=>
   (cond (!r)
     (some true)
     (chk (inb x 1) <|
     (idx x 1).bind fun x_2=>
     (f54 N o0 x_2).bind fun r_1=>
     some (!r_1))).bind fun b_1=>
   cond b_1
    (kret 3)
    (kb (wi64 (t20+1))))
   (kx0 ())
def f38 (N:Nat) (a0:(Int×(List (List Int)×Unit))):Option (Int):=
 cond (decide (a0.1 < 0))
  (some 1)
  ((cond (decide (4096 < a0.1))
    (some true)
    (some (decide (1048576 < (len a0.2.1))))).bind fun b=>
  cond b
   (some 4)
   (iter (fun w=>f38_L6 N a0.2.1 (len a0.2.1) a0 w
    (fun t2=>
     some t2)
    (fun (_:Unit)=>
     some 0)) N 0))
def c38 (N:Nat):Callee:=.pure (.pr (.val (.pair (.int .i64) (.pair (.sl false (.arr 2 (.int .i64))) .unit))) .un) [(.int .i64)] fun d=>f38 N d.1
def F38_6:SForm:=⟨[(20,(.val (.int .i64))),(1,(.bptr 0 [])),(18,(.val (.sl false (.arr 2 (.int .i64))))),(19,(.val (.int .i64)))],[.cell (.val (.pair (.int .i64) (.pair (.sl false (.arr 2 (.int .i64))) .unit)))]⟩
def G38_6 (N:Nat):(R:Type)→F38_6.den→(AExit→St→Option R)→Option R:=fun R d k=>iter (fun kb=>f38_L6 N d.1.2.2.1 d.1.2.2.2.1 d.2.1 kb
  (fun y0=>k .ret (St.of [(2,(.data (.int .i64) y0))] []))
  (fun _=>k (.exit 0) (St.of [] []))) N d.1.1
def lp38 (N:Nat):Nat→Option LoopFn:=fun r=>cond (Nat.beq r 6) (some fun R sl os k=>F38_6.take sl os fun d=>G38_6 N R d k) (none)
def x38 (N:Nat):Ctx:={ fuel:=N,tt:=getL ttL,mt:=getL mtL,ntmps:=37,env:=fun f=>(getL [(54,[c54 N])] f).getD [],cut:=getL [(6,⟨[20,1,18,19],[]⟩)],exits:=fun r=>getL ((getL [(6,[(0,⟨[],[]⟩)])] r).getD []),res:=⟨[2],[]⟩,own:=fun _=>none,lp:=lp38 N,eqs:=fun T=>memN T eqL,ct:=fun T=>memN T ctL,ms:=getMs msL }
noncomputable def b38:Code:=((Go.Proofs.Try.f38).body).getD .skip
theorem s38_6 (N:Nat) {R:Type} (k:AExit→St→Option R) (t18:List (List Int)) (t19:Int) (o0:(Int×(List (List Int)×Unit))) (kb:List (Nat×AVal)→List Obj→Option R) (x:Int):codeK (x38 N) (loopAt 6 (loopsOf b38)) (St.of [(20,(.data (.int .i64) x)),(1,(.bptr 0 [])),(18,(.data (.sl false (.arr 2 (.int .i64))) t18)),(19,(.data (.int .i64) t19))] [.cell (.data (.pair (.int .i64) (.pair (.sl false (.arr 2 (.int .i64))) .unit)) o0)]) (kLoop (x38 N) 6 ⟨[20,1,18,19],[]⟩ kb k)=f38_L6 N t18 t19 o0 (fun y=>kb [(20,(.data (.int .i64) y)),(1,(.bptr 0 [])),(18,(.data (.sl false (.arr 2 (.int .i64))) t18)),(19,(.data (.int .i64) t19))] [.cell (.data (.pair (.int .i64) (.pair (.sl false (.arr 2 (.int .i64))) .unit)) o0)])
  (fun y0=>k .ret (St.of [(2,(.data (.int .i64) y0))] []))
  (fun _=>k (.exit 0) (St.of [] [])) x:=by kernel_rfl
theorem l38_6 (N:Nat):LoopOK (x38 N) (loopAt 6 (loopsOf b38)):=
 loop_mk (G38_6 N) (by kernel_rfl) (by kernel_rfl) (by kernel_rfl) fun R k d=>
  loop_eq (st:=fun (x:Int)=>([(20,(.data (.int .i64) x)),(1,(.bptr 0 [])),(18,(.data (.sl false (.arr 2 (.int .i64))) d.1.2.2.1)),(19,(.data (.int .i64) d.1.2.2.2.1))],[.cell (.data (.pair (.int .i64) (.pair (.sl false (.arr 2 (.int .i64))) .unit)) d.2.1)])) (s38_6 N k d.1.2.2.1 d.1.2.2.2.1 d.2.1) N d.1.1
theorem e38 (N:Nat) (a0:(Int×(List (List Int)×Unit))):bodyK (x38 N) [(.int .i64)] [.tmp 2] b38 (entry (.pr (.val (.pair (.int .i64) (.pair (.sl false (.arr 2 (.int .i64))) .unit))) .un) (a0,()))=f38 N a0:=by kernel_rfl
theorem k38 (N:Nat):CalleeOK Go.Proofs.Try.prog 38 (c38 N):=
 fn_ok (fn:=Go.Proofs.Try.f38) (body:=b38) (c:=x38 N) Go.Proofs.Try.func38 (by kernel_rfl) (by kernel_rfl) ⟨ttL_ok,mtL_ok,eqL_ok,ctL_ok,msL_ok,env_cons (forall_mem1 (k54 N)) (env_nil)⟩ mixed (by kernel_rfl) (Nat.le_of_ble_eq_true (by kernel_rfl)) (by kernel_rfl) (by decide)
  (loops_ok (by kernel_rfl:loopsOf b38=[loopAt 6 (loopsOf b38)]) (.cons (l38_6 N) .nil)) fun d=>e38 N d.1
def f27_L6 {R:Type} (N:Nat) (t21:List Int) (t2:List (List Int)) (t22:Int) (o0:(Int×(List (List Int)×Unit))) (kb:Int→Option R) (kret:Int→Option R) (kx0:Unit→Option R):Int→Option R:=
 fun t23=>
  cond (decide (t23 < t22))
   ((idx t21 t23).bind fun x=>
   cond (decide (1048576 < x))
    (kret 3)
    (kb (wi64 (t23+1))))
   (kx0 ())
def f27_L15 {R:Type} (N:Nat) (t36:List Int) (t30_1:List (List Int)) (t31_1:Int) (t32_1:Int) (t37:Int) (o0_2:(Int×(List (List Int)×Unit))) (kb:Int→Option R) (kret:Int→Option R) (kx4:Unit→Option R):Int→Option R:=
 fun t38=>
  cond (decide (t38 < t37))
   ((idx t36 t38).bind fun x_2=>
   (cond (decide (x_2 < 0))
     (some true)
     (some (decide (o0_2.1≤x_2)))).bind fun b=>
   cond b
    (kret 3)
    (kb (wi64 (t38+1))))
   (kx4 ())
def f27_L12 {R:Type} (N:Nat) (t30:List (List Int)) (t31:Int) (o0_1:(Int×(List (List Int)×Unit))) (kb:Int→Option R) (kret:Int→Option R) (kx2:Unit→Option R):Int→Option R:=
 fun t32=>
  cond (decide (t32 < t31))
   ((idx t30 t32).bind fun x_1=>
   iter (fun w=>f27_L15 N x_1 t30 t31 t32 (len x_1) o0_1 w
    (fun t6_1=>
     kret t6_1)
    (fun (_:Unit)=>
     kb (wi64 (t32+1)))) N 0)
   (kx2 ())
def f27 (N:Nat) (a0:(Int×(List (List Int)×Unit))) (a1:List Int) (a2:List (List Int)):Option (Int):=
 (f38 N a0).bind fun r=>
 cond (!(decide (r=0)))
  (some 1)
  (cond (!(decide ((len a1)=a0.1)))
   (some 2)
   (iter (fun w=>f27_L6 N a1 a2 (len a1) a0 w
    (fun t6=>
     some t6)
    (fun (_:Unit)=>
     iter (fun w=>f27_L12 N a2 (len a2) a0 w
      (fun t6_2=>
       some t6_2)
      (fun (_:Unit)=>
       some 0)) N 0)) N 0))
def c27 (N:Nat):Callee:=.pure (.pr (.val (.pair (.int .i64) (.pair (.sl false (.arr 2 (.int .i64))) .unit))) (.pr (.val (.sl false (.int .i64))) (.pr (.val (.sl false (.sl false (.int .i64)))) .un))) [(.int .i64)] fun d=>f27 N d.1 d.2.1 d.2.2.1
def F27_6:SForm:=⟨[(23,(.val (.int .i64))),(21,(.val (.sl false (.int .i64)))),(3,(.bptr 0 [])),(2,(.val (.sl false (.sl false (.int .i64))))),(22,(.val (.int .i64)))],[.cell (.val (.pair (.int .i64) (.pair (.sl false (.arr 2 (.int .i64))) .unit)))]⟩
def G27_6 (N:Nat):(R:Type)→F27_6.den→(AExit→St→Option R)→Option R:=fun R d k=>iter (fun kb=>f27_L6 N d.1.2.1 d.1.2.2.2.1 d.1.2.2.2.2.1 d.2.1 kb
  (fun y0=>k .ret (St.of [(6,(.data (.int .i64) y0))] []))
  (fun _=>k (.exit 0) (St.of [(3,(.bptr 0 [])),(2,(.data (.sl false (.sl false (.int .i64))) d.1.2.2.2.1))] [.cell (.data (.pair (.int .i64) (.pair (.sl false (.arr 2 (.int .i64))) .unit)) d.2.1)]))) N d.1.1
def F27_15:SForm:=⟨[(38,(.val (.int .i64))),(3,(.bptr 0 [])),(36,(.val (.sl false (.int .i64)))),(30,(.val (.sl false (.sl false (.int .i64))))),(31,(.val (.int .i64))),(32,(.val (.int .i64))),(37,(.val (.int .i64)))],[.cell (.val (.pair (.int .i64) (.pair (.sl false (.arr 2 (.int .i64))) .unit)))]⟩
def G27_15 (N:Nat):(R:Type)→F27_15.den→(AExit→St→Option R)→Option R:=fun R d k=>iter (fun kb=>f27_L15 N d.1.2.2.1 d.1.2.2.2.1 d.1.2.2.2.2.1 d.1.2.2.2.2.2.1 d.1.2.2.2.2.2.2.1 d.2.1 kb
  (fun y0=>k .ret (St.of [(6,(.data (.int .i64) y0))] []))
  (fun _=>k (.exit 4) (St.of [(3,(.bptr 0 [])),(30,(.data (.sl false (.sl false (.int .i64))) d.1.2.2.2.1)),(31,(.data (.int .i64) d.1.2.2.2.2.1)),(32,(.data (.int .i64) d.1.2.2.2.2.2.1))] [.cell (.data (.pair (.int .i64) (.pair (.sl false (.arr 2 (.int .i64))) .unit)) d.2.1)]))) N d.1.1
def F27_12:SForm:=⟨[(3,(.bptr 0 [])),(32,(.val (.int .i64))),(30,(.val (.sl false (.sl false (.int .i64))))),(31,(.val (.int .i64)))],[.cell (.val (.pair (.int .i64) (.pair (.sl false (.arr 2 (.int .i64))) .unit)))]⟩
def G27_12 (N:Nat):(R:Type)→F27_12.den→(AExit→St→Option R)→Option R:=fun R d k=>iter (fun kb=>f27_L12 N d.1.2.2.1 d.1.2.2.2.1 d.2.1 kb
  (fun y0=>k .ret (St.of [(6,(.data (.int .i64) y0))] []))
  (fun _=>k (.exit 2) (St.of [] []))) N d.1.2.1
def lp27 (N:Nat):Nat→Option LoopFn:=fun r=>cond (Nat.beq r 6) (some fun R sl os k=>F27_6.take sl os fun d=>G27_6 N R d k) (cond (Nat.beq r 15) (some fun R sl os k=>F27_15.take sl os fun d=>G27_15 N R d k) (cond (Nat.beq r 12) (some fun R sl os k=>F27_12.take sl os fun d=>G27_12 N R d k) (none)))
def x27 (N:Nat):Ctx:={ fuel:=N,tt:=getL ttL,mt:=getL mtL,ntmps:=52,env:=fun f=>(getL [(38,[c38 N])] f).getD [],cut:=getL [(6,⟨[23,21,3,2,22],[]⟩),(12,⟨[3,32,30,31],[]⟩),(15,⟨[38,3,36,30,31,32,37],[]⟩)],exits:=fun r=>getL ((getL [(6,[(0,⟨[3,2],[]⟩)]),(12,[(2,⟨[],[]⟩)]),(15,[(4,⟨[3,30,31,32],[]⟩)])] r).getD []),res:=⟨[6],[]⟩,own:=fun _=>none,lp:=lp27 N,eqs:=fun T=>memN T eqL,ct:=fun T=>memN T ctL,ms:=getMs msL }
noncomputable def b27:Code:=((Go.Proofs.Try.f27).body).getD .skip
theorem s27_6 (N:Nat) {R:Type} (k:AExit→St→Option R) (t21:List Int) (t2:List (List Int)) (t22:Int) (o0:(Int×(List (List Int)×Unit))) (kb:List (Nat×AVal)→List Obj→Option R) (x:Int):codeK (x27 N) (loopAt 6 (loopsOf b27)) (St.of [(23,(.data (.int .i64) x)),(21,(.data (.sl false (.int .i64)) t21)),(3,(.bptr 0 [])),(2,(.data (.sl false (.sl false (.int .i64))) t2)),(22,(.data (.int .i64) t22))] [.cell (.data (.pair (.int .i64) (.pair (.sl false (.arr 2 (.int .i64))) .unit)) o0)]) (kLoop (x27 N) 6 ⟨[23,21,3,2,22],[]⟩ kb k)=f27_L6 N t21 t2 t22 o0 (fun y=>kb [(23,(.data (.int .i64) y)),(21,(.data (.sl false (.int .i64)) t21)),(3,(.bptr 0 [])),(2,(.data (.sl false (.sl false (.int .i64))) t2)),(22,(.data (.int .i64) t22))] [.cell (.data (.pair (.int .i64) (.pair (.sl false (.arr 2 (.int .i64))) .unit)) o0)])
  (fun y0=>k .ret (St.of [(6,(.data (.int .i64) y0))] []))
  (fun _=>k (.exit 0) (St.of [(3,(.bptr 0 [])),(2,(.data (.sl false (.sl false (.int .i64))) t2))] [.cell (.data (.pair (.int .i64) (.pair (.sl false (.arr 2 (.int .i64))) .unit)) o0)])) x:=by kernel_rfl
theorem l27_6 (N:Nat):LoopOK (x27 N) (loopAt 6 (loopsOf b27)):=
 loop_mk (G27_6 N) (by kernel_rfl) (by kernel_rfl) (by kernel_rfl) fun R k d=>
  loop_eq (st:=fun (x:Int)=>([(23,(.data (.int .i64) x)),(21,(.data (.sl false (.int .i64)) d.1.2.1)),(3,(.bptr 0 [])),(2,(.data (.sl false (.sl false (.int .i64))) d.1.2.2.2.1)),(22,(.data (.int .i64) d.1.2.2.2.2.1))],[.cell (.data (.pair (.int .i64) (.pair (.sl false (.arr 2 (.int .i64))) .unit)) d.2.1)])) (s27_6 N k d.1.2.1 d.1.2.2.2.1 d.1.2.2.2.2.1 d.2.1) N d.1.1
theorem s27_15 (N:Nat) {R:Type} (k:AExit→St→Option R) (t36:List Int) (t30_1:List (List Int)) (t31_1:Int) (t32_1:Int) (t37:Int) (o0_2:(Int×(List (List Int)×Unit))) (kb:List (Nat×AVal)→List Obj→Option R) (x:Int):codeK (x27 N) (loopAt 15 (loopsOf b27)) (St.of [(38,(.data (.int .i64) x)),(3,(.bptr 0 [])),(36,(.data (.sl false (.int .i64)) t36)),(30,(.data (.sl false (.sl false (.int .i64))) t30_1)),(31,(.data (.int .i64) t31_1)),(32,(.data (.int .i64) t32_1)),(37,(.data (.int .i64) t37))] [.cell (.data (.pair (.int .i64) (.pair (.sl false (.arr 2 (.int .i64))) .unit)) o0_2)]) (kLoop (x27 N) 15 ⟨[38,3,36,30,31,32,37],[]⟩ kb k)=f27_L15 N t36 t30_1 t31_1 t32_1 t37 o0_2 (fun y=>kb [(38,(.data (.int .i64) y)),(3,(.bptr 0 [])),(36,(.data (.sl false (.int .i64)) t36)),(30,(.data (.sl false (.sl false (.int .i64))) t30_1)),(31,(.data (.int .i64) t31_1)),(32,(.data (.int .i64) t32_1)),(37,(.data (.int .i64) t37))] [.cell (.data (.pair (.int .i64) (.pair (.sl false (.arr 2 (.int .i64))) .unit)) o0_2)])
  (fun y0=>k .ret (St.of [(6,(.data (.int .i64) y0))] []))
  (fun _=>k (.exit 4) (St.of [(3,(.bptr 0 [])),(30,(.data (.sl false (.sl false (.int .i64))) t30_1)),(31,(.data (.int .i64) t31_1)),(32,(.data (.int .i64) t32_1))] [.cell (.data (.pair (.int .i64) (.pair (.sl false (.arr 2 (.int .i64))) .unit)) o0_2)])) x:=by kernel_rfl
theorem l27_15 (N:Nat):LoopOK (x27 N) (loopAt 15 (loopsOf b27)):=
 loop_mk (G27_15 N) (by kernel_rfl) (by kernel_rfl) (by kernel_rfl) fun R k d=>
  loop_eq (st:=fun (x:Int)=>([(38,(.data (.int .i64) x)),(3,(.bptr 0 [])),(36,(.data (.sl false (.int .i64)) d.1.2.2.1)),(30,(.data (.sl false (.sl false (.int .i64))) d.1.2.2.2.1)),(31,(.data (.int .i64) d.1.2.2.2.2.1)),(32,(.data (.int .i64) d.1.2.2.2.2.2.1)),(37,(.data (.int .i64) d.1.2.2.2.2.2.2.1))],[.cell (.data (.pair (.int .i64) (.pair (.sl false (.arr 2 (.int .i64))) .unit)) d.2.1)])) (s27_15 N k d.1.2.2.1 d.1.2.2.2.1 d.1.2.2.2.2.1 d.1.2.2.2.2.2.1 d.1.2.2.2.2.2.2.1 d.2.1) N d.1.1
theorem s27_12 (N:Nat) {R:Type} (k:AExit→St→Option R) (t30:List (List Int)) (t31:Int) (o0_1:(Int×(List (List Int)×Unit))) (kb:List (Nat×AVal)→List Obj→Option R) (x:Int):codeK (x27 N) (loopAt 12 (loopsOf b27)) (St.of [(3,(.bptr 0 [])),(32,(.data (.int .i64) x)),(30,(.data (.sl false (.sl false (.int .i64))) t30)),(31,(.data (.int .i64) t31))] [.cell (.data (.pair (.int .i64) (.pair (.sl false (.arr 2 (.int .i64))) .unit)) o0_1)]) (kLoop (x27 N) 12 ⟨[3,32,30,31],[]⟩ kb k)=f27_L12 N t30 t31 o0_1 (fun y=>kb [(3,(.bptr 0 [])),(32,(.data (.int .i64) y)),(30,(.data (.sl false (.sl false (.int .i64))) t30)),(31,(.data (.int .i64) t31))] [.cell (.data (.pair (.int .i64) (.pair (.sl false (.arr 2 (.int .i64))) .unit)) o0_1)])
  (fun y0=>k .ret (St.of [(6,(.data (.int .i64) y0))] []))
  (fun _=>k (.exit 2) (St.of [] [])) x:=by kernel_rfl
theorem l27_12 (N:Nat):LoopOK (x27 N) (loopAt 12 (loopsOf b27)):=
 loop_mk (G27_12 N) (by kernel_rfl) (by kernel_rfl) (by kernel_rfl) fun R k d=>
  loop_eq (st:=fun (x:Int)=>([(3,(.bptr 0 [])),(32,(.data (.int .i64) x)),(30,(.data (.sl false (.sl false (.int .i64))) d.1.2.2.1)),(31,(.data (.int .i64) d.1.2.2.2.1))],[.cell (.data (.pair (.int .i64) (.pair (.sl false (.arr 2 (.int .i64))) .unit)) d.2.1)])) (s27_12 N k d.1.2.2.1 d.1.2.2.2.1 d.2.1) N d.1.2.1
theorem e27 (N:Nat) (a0:(Int×(List (List Int)×Unit))) (a1:List Int) (a2:List (List Int)):bodyK (x27 N) [(.int .i64)] [.tmp 6] b27 (entry (.pr (.val (.pair (.int .i64) (.pair (.sl false (.arr 2 (.int .i64))) .unit))) (.pr (.val (.sl false (.int .i64))) (.pr (.val (.sl false (.sl false (.int .i64)))) .un))) (a0,(a1,(a2,()))))=f27 N a0 a1 a2:=by kernel_rfl
theorem k27 (N:Nat):CalleeOK Go.Proofs.Try.prog 27 (c27 N):=
 fn_ok (fn:=Go.Proofs.Try.f27) (body:=b27) (c:=x27 N) Go.Proofs.Try.func27 (by kernel_rfl) (by kernel_rfl) ⟨ttL_ok,mtL_ok,eqL_ok,ctL_ok,msL_ok,env_cons (forall_mem1 (k38 N)) (env_nil)⟩ mixed (by kernel_rfl) (Nat.le_of_ble_eq_true (by kernel_rfl)) (by kernel_rfl) (by decide)
  (loops_ok (by kernel_rfl:loopsOf b27=[loopAt 6 (loopsOf b27),loopAt 12 (loopsOf b27),loopAt 15 (loopsOf b27)]) (.cons (l27_6 N) (.cons (l27_12 N) (.cons (l27_15 N) .nil)))) fun d=>e27 N d.1 d.2.1 d.2.2.1
def f21 (N:Nat) (a0:List (List Int)):Option (List (List Int)):=chk (decide (0+List.length a0≤room)) (some a0)
def c21 (N:Nat):Callee:=.pure (.pr (.val (.sl false (.arr 2 (.int .i64)))) .un) [(.sl true (.arr 2 (.int .i64)))] fun d=>f21 N d.1
def x21 (N:Nat):Ctx:={ fuel:=N,tt:=getL ttL,mt:=getL mtL,ntmps:=8,env:=fun f=>(getL [] f).getD [],cut:=fun _=>none,exits:=fun _ _=>none,res:=⟨[2],[]⟩,own:=fun _=>none,lp:=fun _=>none,eqs:=fun T=>memN T eqL,ct:=fun T=>memN T ctL,ms:=getMs msL }
theorem k21 (N:Nat):CalleeOK Go.Proofs.Try.prog 21 (c21 N):=
 fn_ok_nil (fn:=Go.Proofs.Try.f21) (c:=x21 N) (p:=.pr (.val (.sl false (.arr 2 (.int .i64)))) .un) (ts:=[(.sl true (.arr 2 (.int .i64)))]) (t:=(.arr 2 (.int .i64))) (σ0:=fun d=>⟨(entry (.pr (.val (.sl false (.arr 2 (.int .i64)))) .un) d |>.set 2 .nilS).slots,fun _=>none,8⟩) Go.Proofs.Try.func21 (by kernel_rfl) rfl ⟨ttL_ok,mtL_ok,eqL_ok,ctL_ok,msL_ok,env_nil⟩ mixed (by kernel_rfl) (Nat.le_of_ble_eq_true (by kernel_rfl)) (by kernel_rfl)
  (AllL.mem .nil) (AllL.mem .nil) (AllL.mem .nil) (fun d=>by kernel_rfl) rfl rfl rfl rfl rfl rfl (Nat.le_of_ble_eq_true (by kernel_rfl)) (Nat.le_of_ble_eq_true (by kernel_rfl)) (by kernel_rfl:(x21 N).tt 22=some (.sl false (.arr 2 (.int .i64)))) (fun d=>d.1) (fun d=>by kernel_rfl)
  (fun d b hb=>match d,b,hb with
   | (a0,u),false,_=>by kernel_rfl
   | ([],u),true,_=>by kernel_rfl
   | (_ :: _,u),true,hb=>nomatch hb rfl)
def f61 (N:Nat) (a0:List Int) (a1:List Int):Option (Int):=
 chk (inb a0 0) <|
 (idx a0 0).bind fun x=>
 chk (inb a1 0) <|
 (idx a1 0).bind fun x_1=>
 cond (!(decide (x=x_1)))
  (chk (inb a0 0) <|
  (idx a0 0).bind fun x_2=>
  chk (inb a1 0) <|
  (idx a1 0).bind fun x_3=>
  some (wi64 (x_2-x_3)))
  (chk (inb a0 1) <|
  (idx a0 1).bind fun x_4=>
  chk (inb a1 1) <|
  (idx a1 1).bind fun x_5=>
  some (wi64 (x_4-x_5)))
def c61 (N:Nat):Callee:=.pure (.pr (.val (.arr 2 (.int .i64))) (.pr (.val (.arr 2 (.int .i64))) .un)) [(.int .i64)] fun d=>f61 N d.1 d.2.1
def lp61 (N:Nat):Nat→Option LoopFn:=fun r=>none
def x61 (N:Nat):Ctx:={ fuel:=N,tt:=getL ttL,mt:=getL mtL,ntmps:=20,env:=fun f=>(getL [] f).getD [],cut:=getL [],exits:=fun r=>getL ((getL [] r).getD []),res:=⟨[4],[]⟩,own:=fun _=>none,lp:=lp61 N,eqs:=fun T=>memN T eqL,ct:=fun T=>memN T ctL,ms:=getMs msL }
noncomputable def b61:Code:=((Go.Proofs.Try.f61).body).getD .skip
theorem e61 (N:Nat) (a0:List Int) (a1:List Int):bodyK (x61 N) [(.int .i64)] [.tmp 4] b61 (entry (.pr (.val (.arr 2 (.int .i64))) (.pr (.val (.arr 2 (.int .i64))) .un)) (a0,(a1,())))=f61 N a0 a1:=by kernel_rfl
theorem k61 (N:Nat):CalleeOK Go.Proofs.Try.prog 61 (c61 N):=
 fn_ok (fn:=Go.Proofs.Try.f61) (body:=b61) (c:=x61 N) Go.Proofs.Try.func61 (by kernel_rfl) (by kernel_rfl) ⟨ttL_ok,mtL_ok,eqL_ok,ctL_ok,msL_ok,env_nil⟩ mixed (by kernel_rfl) (Nat.le_of_ble_eq_true (by kernel_rfl)) (by kernel_rfl) (by decide)
  (loops_ok (by kernel_rfl:loopsOf b61=[]) .nil) fun d=>e61 N d.1 d.2.1
def f60 (N:Nat) (a1:Unit) (o0:List (List Int)):Option ((Unit×Unit)×((List (List Int))×Unit)):=(sortS (.arr 2 (.int .i64)) (fun x y=>f61 N x y) o0).map fun l=>(((),()),(l,()))
def c60 (N:Nat):Callee:=.mut ⟨[(0,.ref 0),(1,.val (.fn 61 .unit))],[.row (.arr 2 (.int .i64))]⟩ [0] ⟨[(0,.ref 0)],[.row (.arr 2 (.int .i64))]⟩ fun d=>f60 N d.1.2.1 d.2.1
theorem k60 (N:Nat):CalleeOK Go.Proofs.Try.prog 60 (c60 N):=
 sortFuncS_ok Go.Proofs.Try.sortL60 (t:=(.arr 2 (.int .i64))) (by kernel_rfl) (by kernel_rfl) (fun w=>Go.Proofs.Try.isAgg45 w) (fun w=>Go.Proofs.Try.sizeOf45 w) (Go.Proofs.enters_of Go.Proofs.Try.func61 (by kernel_rfl) rfl) (k61 N)
def f62_L9 {R:Type} (N:Nat) (t4a:Int) (t4b:Int) (kb:Int×Int×List (List Int)→Option R) (kx2:Int→(List (List Int))→Option R):Int×Int×List (List Int)→Option R:=
 fun (t5,t3_1,o0_2)=>
  cond (decide (t5 < (t4b-t4a)))
   (chk ((decide (0≤t5)) && (decide (t5 < (t4b-t4a)))) <|
   (idx o0_2 (t4a+t5)).bind fun x_2=>
   chk ((decide (0≤(wi64 (t5-1)))) && (decide ((wi64 (t5-1)) < (t4b-t4a)))) <|
   (idx o0_2 (t4a+(wi64 (t5-1)))).bind fun x_3=>
   cond (!(eqD (.arr 2 (.int .i64)) x_2 x_3))
    (chk ((decide (0≤t5)) && (decide (t5 < (t4b-t4a)))) <|
    (idx o0_2 (t4a+t5)).bind fun x_4=>
    chk (inb o0_2 t3_1) <|
    (idx o0_2 t3_1).bind fun x_5=>
    (idx o0_2 t3_1).bind fun x_6=>
    kb ((wi64 (t5+1)),(wi64 (t3_1+1)),(setI o0_2 t3_1 x_4)))
    (kb ((wi64 (t5+1)),t3_1,o0_2)))
   (kx2 t3_1 o0_2)
def f62_L4 {R:Type} (N:Nat) (o0_1:List (List Int)) (kb:Int→Option R) (kret:(List (List Int))→Option R) (kx0:Unit→Option R):Int→Option R:=
 fun t3=>
  cond (decide (t3 < (len o0_1)))
   (chk (inb o0_1 t3) <|
   (idx o0_1 t3).bind fun x=>
   chk (inb o0_1 (wi64 (t3-1))) <|
   (idx o0_1 (wi64 (t3-1))).bind fun x_1=>
   cond (eqD (.arr 2 (.int .i64)) x x_1)
    (chk (((decide (0≤t3)) && (decide (t3≤(len o0_1)))) && (decide ((len o0_1)≤(len o0_1)))) <|
    iter (fun w=>f62_L9 N t3 (len o0_1) w
     (fun t3_2 o0_3=>
      chk (((decide (0≤t3_2)) && (decide (t3_2≤(len o0_3)))) && (decide ((len o0_3)≤(len o0_3)))) <|
      chk ((decide (0≤t3_2)) && (decide (t3_2≤(len (clearL (List.replicate 2 0:List Int) o0_3 t3_2 (len o0_3)))))) <|
      kret (sub (clearL (List.replicate 2 0:List Int) o0_3 t3_2 (len o0_3)) 0 t3_2))) N (1,t3,o0_1))
    (kb (wi64 (t3+1))))
   (kx0 ())
def f62 (N:Nat) (o0:List (List Int)):Option (((Unit×Unit)×((List (List Int))×Unit))):=
 cond (decide ((len o0) < 2))
  (some (((),()),(o0,())))
  (iter (fun w=>f62_L4 N o0 w
   (fun o0_4=>
    some (((),()),(o0_4,())))
   (fun (_:Unit)=>
    some (((),()),(o0,())))) N 1)
def fi62:SForm:=⟨[(0,(.ref 0))],[.row (.arr 2 (.int .i64))]⟩
def fo62:SForm:=⟨[(2,(.ref 0))],[.row (.arr 2 (.int .i64))]⟩
def c62 (N:Nat):Callee:=.mut fi62 [] fo62 fun d=>f62 N d.2.1
def F62_9:SForm:=⟨[(5,(.val (.int .i64))),(3,(.val (.int .i64))),(4,(.view 0)),(0,(.ref 0))],[.row (.arr 2 (.int .i64))]⟩
def G62_9 (N:Nat):(R:Type)→F62_9.den→(AExit→St→Option R)→Option R:=fun R d k=>iter (fun kb=>f62_L9 N d.1.2.2.1.1 d.1.2.2.1.2 kb
  (fun y0 y1=>k (.exit 2) (St.of [(3,(.data (.int .i64) y0)),(0,(.ref 0 [] 0))] [.row (.arr 2 (.int .i64)) y1 0]))) N (d.1.1,d.1.2.1,d.2.1)
def F62_4:SForm:=⟨[(3,(.val (.int .i64))),(0,(.ref 0))],[.row (.arr 2 (.int .i64))]⟩
def G62_4 (N:Nat):(R:Type)→F62_4.den→(AExit→St→Option R)→Option R:=fun R d k=>iter (fun kb=>f62_L4 N d.2.1 kb
  (fun y0=>k .ret (St.of [(2,(.ref 0 [] 0))] [.row (.arr 2 (.int .i64)) y0 0]))
  (fun _=>k (.exit 0) (St.of [(0,(.ref 0 [] 0))] [.row (.arr 2 (.int .i64)) d.2.1 0]))) N d.1.1
def lp62 (N:Nat):Nat→Option LoopFn:=fun r=>cond (Nat.beq r 9) (some fun R sl os k=>F62_9.take sl os fun d=>G62_9 N R d k) (cond (Nat.beq r 4) (some fun R sl os k=>F62_4.take sl os fun d=>G62_4 N R d k) (none))
def x62 (N:Nat):Ctx:={ fuel:=N,tt:=getL ttL,mt:=getL mtL,ntmps:=61,env:=fun f=>(getL [] f).getD [],cut:=getL [(4,⟨[3,0],[]⟩),(9,⟨[5,3,4,0],[]⟩)],exits:=fun r=>getL ((getL [(4,[(0,⟨[0],[]⟩)]),(9,[(2,⟨[3,0],[]⟩)])] r).getD []),res:=⟨[2],[(2,none,.row (.arr 2 (.int .i64)))]⟩,own:=fun _=>none,lp:=lp62 N,eqs:=fun T=>memN T eqL,ct:=fun T=>memN T ctL,ms:=getMs msL }
noncomputable def b62:Code:=((Go.Proofs.Try.f62).body).getD .skip
theorem s62_9 (N:Nat) {R:Type} (k:AExit→St→Option R) (t4a:Int) (t4b:Int) (kb:List (Nat×AVal)→List Obj→Option R) (x:Int×Int×List (List Int)):codeK (x62 N) (loopAt 9 (loopsOf b62)) (St.of [(5,(.data (.int .i64) x.1)),(3,(.data (.int .i64) x.2.1)),(4,(.view 0 [] 0 t4a t4b)),(0,(.ref 0 [] 0))] [.row (.arr 2 (.int .i64)) x.2.2 0]) (kLoop (x62 N) 9 ⟨[5,3,4,0],[]⟩ kb k)=f62_L9 N t4a t4b (fun y=>kb [(5,(.data (.int .i64) y.1)),(3,(.data (.int .i64) y.2.1)),(4,(.view 0 [] 0 t4a t4b)),(0,(.ref 0 [] 0))] [.row (.arr 2 (.int .i64)) y.2.2 0])
  (fun y0 y1=>k (.exit 2) (St.of [(3,(.data (.int .i64) y0)),(0,(.ref 0 [] 0))] [.row (.arr 2 (.int .i64)) y1 0])) x:=by kernel_rfl
theorem l62_9 (N:Nat):LoopOK (x62 N) (loopAt 9 (loopsOf b62)):=
 loop_mk (G62_9 N) (by kernel_rfl) (by kernel_rfl) (by kernel_rfl) fun R k d=>
  loop_eq (st:=fun (x:Int×Int×List (List Int))=>([(5,(.data (.int .i64) x.1)),(3,(.data (.int .i64) x.2.1)),(4,(.view 0 [] 0 d.1.2.2.1.1 d.1.2.2.1.2)),(0,(.ref 0 [] 0))],[.row (.arr 2 (.int .i64)) x.2.2 0])) (s62_9 N k d.1.2.2.1.1 d.1.2.2.1.2) N (d.1.1,d.1.2.1,d.2.1)
theorem s62_4 (N:Nat) {R:Type} (k:AExit→St→Option R) (o0_1:List (List Int)) (kb:List (Nat×AVal)→List Obj→Option R) (x:Int):codeK (x62 N) (loopAt 4 (loopsOf b62)) (St.of [(3,(.data (.int .i64) x)),(0,(.ref 0 [] 0))] [.row (.arr 2 (.int .i64)) o0_1 0]) (kLoop (x62 N) 4 ⟨[3,0],[]⟩ kb k)=f62_L4 N o0_1 (fun y=>kb [(3,(.data (.int .i64) y)),(0,(.ref 0 [] 0))] [.row (.arr 2 (.int .i64)) o0_1 0])
  (fun y0=>k .ret (St.of [(2,(.ref 0 [] 0))] [.row (.arr 2 (.int .i64)) y0 0]))
  (fun _=>k (.exit 0) (St.of [(0,(.ref 0 [] 0))] [.row (.arr 2 (.int .i64)) o0_1 0])) x:=by kernel_rfl
theorem l62_4 (N:Nat):LoopOK (x62 N) (loopAt 4 (loopsOf b62)):=
 loop_mk (G62_4 N) (by kernel_rfl) (by kernel_rfl) (by kernel_rfl) fun R k d=>
  loop_eq (st:=fun (x:Int)=>([(3,(.data (.int .i64) x)),(0,(.ref 0 [] 0))],[.row (.arr 2 (.int .i64)) d.2.1 0])) (s62_4 N k d.2.1) N d.1.1
theorem e62 (N:Nat) (o0:List (List Int)):bodyM (x62 N) fo62 b62 (St.of [(0,(.ref 0 [] 0))] [.row (.arr 2 (.int .i64)) o0 0])=f62 N o0:=by kernel_rfl
theorem k62 (N:Nat):CalleeOK Go.Proofs.Try.prog 62 (c62 N):=
 fn_ok_mut (fn:=Go.Proofs.Try.f62) (body:=b62) (c:=x62 N) (rs:=[2]) Go.Proofs.Try.func62 (by kernel_rfl) (by kernel_rfl) ⟨ttL_ok,mtL_ok,eqL_ok,ctL_ok,msL_ok,env_nil⟩ mixed (by kernel_rfl) (Nat.le_of_ble_eq_true (by kernel_rfl)) (by kernel_rfl) (by kernel_rfl) (by kernel_rfl) (anchB_ok (by kernel_rfl))
  (loops_ok (by kernel_rfl:loopsOf b62=[loopAt 4 (loopsOf b62),loopAt 9 (loopsOf b62)]) (.cons (l62_4 N) (.cons (l62_9 N) .nil))) fun d=>e62 N d.2.1
def f57 (N:Nat) (a0:Int) (a1:List (List Int)):Option ((Int×(List (List Int)×Unit))):=
 (f21 N a1).bind fun r=>
 (f60 N () r).bind fun r_1=>
 (f62 N r_1.2.1).bind fun r_2=>
 some (a0,(r_2.2.1,()))
def c57 (N:Nat):Callee:=.pure (.pr (.val (.int .i64)) (.pr (.val (.sl false (.arr 2 (.int .i64)))) .un)) [(.pair (.int .i64) (.pair (.sl true (.arr 2 (.int .i64))) .unit))] fun d=>f57 N d.1 d.2.1
def lp57 (N:Nat):Nat→Option LoopFn:=fun r=>none
def x57 (N:Nat):Ctx:={ fuel:=N,tt:=getL ttL,mt:=getL mtL,ntmps:=13,env:=fun f=>(getL [(21,[c21 N]),(60,[c60 N]),(62,[c62 N])] f).getD [],cut:=getL [],exits:=fun r=>getL ((getL [] r).getD []),res:=⟨[4],[]⟩,own:=fun _=>none,lp:=lp57 N,eqs:=fun T=>memN T eqL,ct:=fun T=>memN T ctL,ms:=getMs msL }
noncomputable def b57:Code:=((Go.Proofs.Try.f57).body).getD .skip
theorem e57 (N:Nat) (a0:Int) (a1:List (List Int)):bodyK (x57 N) [(.pair (.int .i64) (.pair (.sl true (.arr 2 (.int .i64))) .unit))] [.cell 4 24] b57 (entry (.pr (.val (.int .i64)) (.pr (.val (.sl false (.arr 2 (.int .i64)))) .un)) (a0,(a1,())))=f57 N a0 a1:=by kernel_rfl
theorem k57 (N:Nat):CalleeOK Go.Proofs.Try.prog 57 (c57 N):=
 fn_ok (fn:=Go.Proofs.Try.f57) (body:=b57) (c:=x57 N) Go.Proofs.Try.func57 (by kernel_rfl) (by kernel_rfl) ⟨ttL_ok,mtL_ok,eqL_ok,ctL_ok,msL_ok,env_cons (forall_mem1 (k21 N)) (env_cons (forall_mem1 (k60 N)) (env_cons (forall_mem1 (k62 N)) (env_nil)))⟩ mixed (by kernel_rfl) (Nat.le_of_ble_eq_true (by kernel_rfl)) (by kernel_rfl) (by decide)
  (loops_ok (by kernel_rfl:loopsOf b57=[]) .nil) fun d=>e57 N d.1 d.2.1
def f44_L3 {R:Type} (N:Nat) (t14:Int) (o1:List (List Int)) (kb:Int×List (List Int)→Option R) (kx0:(List (List Int))→Option R):Int×List (List Int)→Option R:=
 fun (t15,o0)=>
  cond (decide (t15 < t14))
   (chk (inb o1 t15) <|
   (idx o1 t15).bind fun x=>
   chk (inb x 0) <|
   chk (inb x 0) <|
   (idx x 0).bind fun x_1=>
   chk (inb o0 x_1) <|
   (idx o0 x_1).bind fun x_2=>
   chk (inb x 1) <|
   (idx x 1).bind fun x_3=>
   (idx x 0).bind fun x_4=>
   (idx o0 x_1).bind fun x_5=>
   chk (decide ((Nat.succ (List.length x_5))≤room)) <|
   chk (inb o0 x_4) <|
   chk (pathEq [.idx x_4] [.idx x_1]) <|
   (idx o0 x_4).bind fun x_6=>
   kb ((wi64 (t15+1)),(setI o0 x_4 (x_5++(x_3 :: ([]:List Int))))))
   (kx0 o0)
def f44 (N:Nat) (a0:Int) (a1:List (List Int)):Option (List (List Int)):=
 chk (((decide (0≤a0)) && (decide (a0≤a0))) && (decide (a0≤((room:Nat):Int)))) <|
 (f57 N a0 a1).bind fun r=>
 iter (fun w=>f44_L3 N (len r.2.1) r.2.1 w
  (fun o0_1=>
   some o0_1)) N (0,(List.replicate (Int.toNat a0) ([]:List Int):List (List Int)))
def c44 (N:Nat):Callee:=.pure (.pr (.val (.int .i64)) (.pr (.val (.sl false (.arr 2 (.int .i64)))) .un)) [(.sl false (.sl false (.int .i64)))] fun d=>f44 N d.1 d.2.1
def F44_3:SForm:=⟨[(15,(.val (.int .i64))),(5,(.nv 0)),(13,(.ref 1)),(14,(.val (.int .i64)))],[.nest (.sl true (.int .i64)),.row (.arr 2 (.int .i64))]⟩
def G44_3 (N:Nat):(R:Type)→F44_3.den→(AExit→St→Option R)→Option R:=fun R d k=>iter (fun kb=>f44_L3 N d.1.2.2.2.1 d.2.2.1 kb
  (fun y0=>k (.exit 0) (St.of [(5,(.nv false 0 [] 0))] [.nest (.sl true (.int .i64)) y0 0 0 none]))) N (d.1.1,d.2.1)
def lp44 (N:Nat):Nat→Option LoopFn:=fun r=>cond (Nat.beq r 3) (some fun R sl os k=>F44_3.take sl os fun d=>G44_3 N R d k) (none)
def x44 (N:Nat):Ctx:={ fuel:=N,tt:=getL ttL,mt:=getL mtL,ntmps:=34,env:=fun f=>(getL [(57,[c57 N])] f).getD [],cut:=getL [(3,⟨[15,5,13,14],[]⟩)],exits:=fun r=>getL ((getL [(3,[(0,⟨[5],[]⟩)])] r).getD []),res:=⟨[4],[]⟩,own:=getL [(9,(.sl true (.sl true (.int .i64))))],lp:=lp44 N,eqs:=fun T=>memN T eqL,ct:=fun T=>memN T ctL,ms:=getMs msL }
noncomputable def b44:Code:=((Go.Proofs.Try.f44).body).getD .skip
theorem s44_3 (N:Nat) {R:Type} (k:AExit→St→Option R) (t14:Int) (o1:List (List Int)) (kb:List (Nat×AVal)→List Obj→Option R) (x:Int×List (List Int)):codeK (x44 N) (loopAt 3 (loopsOf b44)) (St.of [(15,(.data (.int .i64) x.1)),(5,(.nv false 0 [] 0)),(13,(.ref 1 [] 0)),(14,(.data (.int .i64) t14))] [.nest (.sl true (.int .i64)) x.2 0 0 none,.row (.arr 2 (.int .i64)) o1 0]) (kLoop (x44 N) 3 ⟨[15,5,13,14],[]⟩ kb k)=f44_L3 N t14 o1 (fun y=>kb [(15,(.data (.int .i64) y.1)),(5,(.nv false 0 [] 0)),(13,(.ref 1 [] 0)),(14,(.data (.int .i64) t14))] [.nest (.sl true (.int .i64)) y.2 0 0 none,.row (.arr 2 (.int .i64)) o1 0])
  (fun y0=>k (.exit 0) (St.of [(5,(.nv false 0 [] 0))] [.nest (.sl true (.int .i64)) y0 0 0 none])) x:=by kernel_rfl
theorem l44_3 (N:Nat):LoopOK (x44 N) (loopAt 3 (loopsOf b44)):=
 loop_mk (G44_3 N) (by kernel_rfl) (by kernel_rfl) (by kernel_rfl) fun R k d=>
  loop_eq (st:=fun (x:Int×List (List Int))=>([(15,(.data (.int .i64) x.1)),(5,(.nv false 0 [] 0)),(13,(.ref 1 [] 0)),(14,(.data (.int .i64) d.1.2.2.2.1))],[.nest (.sl true (.int .i64)) x.2 0 0 none,.row (.arr 2 (.int .i64)) d.2.2.1 0])) (s44_3 N k d.1.2.2.2.1 d.2.2.1) N (d.1.1,d.2.1)
theorem e44 (N:Nat) (a0:Int) (a1:List (List Int)):bodyK (x44 N) [(.sl false (.sl false (.int .i64)))] [.tmp 4] b44 (entry (.pr (.val (.int .i64)) (.pr (.val (.sl false (.arr 2 (.int .i64)))) .un)) (a0,(a1,())))=f44 N a0 a1:=by kernel_rfl
theorem k44 (N:Nat):CalleeOK Go.Proofs.Try.prog 44 (c44 N):=
 fn_ok (fn:=Go.Proofs.Try.f44) (body:=b44) (c:=x44 N) Go.Proofs.Try.func44 (by kernel_rfl) (by kernel_rfl) ⟨ttL_ok,mtL_ok,eqL_ok,ctL_ok,msL_ok,env_cons (forall_mem1 (k57 N)) (env_nil)⟩ mixed (by kernel_rfl) (Nat.le_of_ble_eq_true (by kernel_rfl)) (by kernel_rfl) (by decide)
  (loops_ok (by kernel_rfl:loopsOf b44=[loopAt 3 (loopsOf b44)]) (.cons (l44_3 N) .nil)) fun d=>e44 N d.1 d.2.1
def f28 (N:Nat) (a0:(Int×(List (List Int)×Unit))):Option (List (List Int)×Int):=
 (f38 N a0).bind fun r=>
 cond (!(decide (r=0)))
  (some (([]:List (List Int)),r))
  ((f44 N a0.1 a0.2.1).bind fun r_1=>
  some (r_1,0))
def c28 (N:Nat):Callee:=.pure (.pr (.val (.pair (.int .i64) (.pair (.sl false (.arr 2 (.int .i64))) .unit))) .un) [(.sl false (.sl false (.int .i64))),(.int .i64)] fun d=>f28 N d.1
def lp28 (N:Nat):Nat→Option LoopFn:=fun r=>none
def x28 (N:Nat):Ctx:={ fuel:=N,tt:=getL ttL,mt:=getL mtL,ntmps:=15,env:=fun f=>(getL [(38,[c38 N]),(44,[c44 N])] f).getD [],cut:=getL [],exits:=fun r=>getL ((getL [] r).getD []),res:=⟨[2,3],[]⟩,own:=fun _=>none,lp:=lp28 N,eqs:=fun T=>memN T eqL,ct:=fun T=>memN T ctL,ms:=getMs msL }
noncomputable def b28:Code:=((Go.Proofs.Try.f28).body).getD .skip
theorem e28 (N:Nat) (a0:(Int×(List (List Int)×Unit))):bodyK (x28 N) [(.sl false (.sl false (.int .i64))),(.int .i64)] [.tmp 2,.tmp 3] b28 (entry (.pr (.val (.pair (.int .i64) (.pair (.sl false (.arr 2 (.int .i64))) .unit))) .un) (a0,()))=f28 N a0:=by kernel_rfl
theorem k28 (N:Nat):CalleeOK Go.Proofs.Try.prog 28 (c28 N):=
 fn_ok (fn:=Go.Proofs.Try.f28) (body:=b28) (c:=x28 N) Go.Proofs.Try.func28 (by kernel_rfl) (by kernel_rfl) ⟨ttL_ok,mtL_ok,eqL_ok,ctL_ok,msL_ok,env_cons (forall_mem1 (k38 N)) (env_cons (forall_mem1 (k44 N)) (env_nil))⟩ mixed (by kernel_rfl) (Nat.le_of_ble_eq_true (by kernel_rfl)) (by kernel_rfl) (by decide)
  (loops_ok (by kernel_rfl:loopsOf b28=[]) .nil) fun d=>e28 N d.1
def f41_L3 {R:Type} (N:Nat) (t10:List Int) (t11:Int) (kb:Int×List Bool→Option R) (kx0:(List Bool)→Option R):Int×List Bool→Option R:=
 fun (t12,o0)=>
  cond (decide (t12 < t11))
   ((idx t10 t12).bind fun x=>
   chk (inb o0 x) <|
   (idx o0 x).bind fun x_1=>
   (idx o0 x).bind fun x_2=>
   kb ((wi64 (t12+1)),(setI o0 x true)))
   (kx0 o0)
def f41 (N:Nat) (a0:Int) (a1:List Int):Option (List Bool):=
 chk (((decide (0≤a0)) && (decide (a0≤a0))) && (decide (a0≤((room:Nat):Int)))) <|
 iter (fun w=>f41_L3 N a1 (len a1) w
  (fun o0_1=>
   some o0_1)) N (0,(List.replicate (Int.toNat a0) false:List Bool))
def c41 (N:Nat):Callee:=.pure (.pr (.val (.int .i64)) (.pr (.val (.sl false (.int .i64))) .un)) [(.sl true .bool)] fun d=>f41 N d.1 d.2.1
def F41_3:SForm:=⟨[(12,(.val (.int .i64))),(5,(.ref 0)),(10,(.val (.sl false (.int .i64)))),(11,(.val (.int .i64)))],[.row .bool]⟩
def G41_3 (N:Nat):(R:Type)→F41_3.den→(AExit→St→Option R)→Option R:=fun R d k=>iter (fun kb=>f41_L3 N d.1.2.2.1 d.1.2.2.2.1 kb
  (fun y0=>k (.exit 0) (St.of [(5,(.ref 0 [] 0))] [.row .bool y0 0]))) N (d.1.1,d.2.1)
def lp41 (N:Nat):Nat→Option LoopFn:=fun r=>cond (Nat.beq r 3) (some fun R sl os k=>F41_3.take sl os fun d=>G41_3 N R d k) (none)
def x41 (N:Nat):Ctx:={ fuel:=N,tt:=getL ttL,mt:=getL mtL,ntmps:=21,env:=fun f=>(getL [] f).getD [],cut:=getL [(3,⟨[12,5,10,11],[]⟩)],exits:=fun r=>getL ((getL [(3,[(0,⟨[5],[]⟩)])] r).getD []),res:=⟨[4],[]⟩,own:=fun _=>none,lp:=lp41 N,eqs:=fun T=>memN T eqL,ct:=fun T=>memN T ctL,ms:=getMs msL }
noncomputable def b41:Code:=((Go.Proofs.Try.f41).body).getD .skip
theorem s41_3 (N:Nat) {R:Type} (k:AExit→St→Option R) (t10:List Int) (t11:Int) (kb:List (Nat×AVal)→List Obj→Option R) (x:Int×List Bool):codeK (x41 N) (loopAt 3 (loopsOf b41)) (St.of [(12,(.data (.int .i64) x.1)),(5,(.ref 0 [] 0)),(10,(.data (.sl false (.int .i64)) t10)),(11,(.data (.int .i64) t11))] [.row .bool x.2 0]) (kLoop (x41 N) 3 ⟨[12,5,10,11],[]⟩ kb k)=f41_L3 N t10 t11 (fun y=>kb [(12,(.data (.int .i64) y.1)),(5,(.ref 0 [] 0)),(10,(.data (.sl false (.int .i64)) t10)),(11,(.data (.int .i64) t11))] [.row .bool y.2 0])
  (fun y0=>k (.exit 0) (St.of [(5,(.ref 0 [] 0))] [.row .bool y0 0])) x:=by kernel_rfl
theorem l41_3 (N:Nat):LoopOK (x41 N) (loopAt 3 (loopsOf b41)):=
 loop_mk (G41_3 N) (by kernel_rfl) (by kernel_rfl) (by kernel_rfl) fun R k d=>
  loop_eq (st:=fun (x:Int×List Bool)=>([(12,(.data (.int .i64) x.1)),(5,(.ref 0 [] 0)),(10,(.data (.sl false (.int .i64)) d.1.2.2.1)),(11,(.data (.int .i64) d.1.2.2.2.1))],[.row .bool x.2 0])) (s41_3 N k d.1.2.2.1 d.1.2.2.2.1) N (d.1.1,d.2.1)
theorem e41 (N:Nat) (a0:Int) (a1:List Int):bodyK (x41 N) [(.sl true .bool)] [.tmp 4] b41 (entry (.pr (.val (.int .i64)) (.pr (.val (.sl false (.int .i64))) .un)) (a0,(a1,())))=f41 N a0 a1:=by kernel_rfl
theorem k41 (N:Nat):CalleeOK Go.Proofs.Try.prog 41 (c41 N):=
 fn_ok (fn:=Go.Proofs.Try.f41) (body:=b41) (c:=x41 N) Go.Proofs.Try.func41 (by kernel_rfl) (by kernel_rfl) ⟨ttL_ok,mtL_ok,eqL_ok,ctL_ok,msL_ok,env_nil⟩ mixed (by kernel_rfl) (Nat.le_of_ble_eq_true (by kernel_rfl)) (by kernel_rfl) (by decide)
  (loops_ok (by kernel_rfl:loopsOf b41=[loopAt 3 (loopsOf b41)]) (.cons (l41_3 N) .nil)) fun d=>e41 N d.1 d.2.1
def f45 (N:Nat) (t0:Int) (o1:List Bool) (o2:List Bool):Option (((Unit×(Unit×(Unit×Unit)))×(Unit×((List Bool)×(List Bool×(Unit×((List Int)×Unit))))))):=
 chk (inb o1 t0) <|
 (idx o1 t0).bind fun x=>
 (cond (!x)
   ((idx o2 t0).bind fun x_1=>
   some (!x_1))
   (some false)).bind fun b=>
 cond b
  (chk (inb o1 t0) <|
  (idx o1 t0).bind fun x_2=>
  (idx o1 t0).bind fun x_3=>
  chk (decide (1≤room)) <|
  some (((),((),((),()))),((),((setI o1 t0 true),(o2,((),((t0 :: ([]:List Int)),())))))))
  (some (((),((),((),()))),((),(o1,(o2,((),(([]:List Int),())))))))
def f45v1 (N:Nat) (t0:Int) (o1:List Bool) (o2:List Bool) (o4:List Int):Option (((Unit×(Unit×(Unit×Unit)))×(Unit×((List Bool)×(List Bool×(Unit×((List Int)×Unit))))))):=
 chk (inb o1 t0) <|
 (idx o1 t0).bind fun x=>
 (cond (!x)
   ((idx o2 t0).bind fun x_1=>
   some (!x_1))
   (some false)).bind fun b=>
 cond b
  (chk (inb o1 t0) <|
  (idx o1 t0).bind fun x_2=>
  (idx o1 t0).bind fun x_3=>
  chk (decide ((Nat.succ (List.length o4))≤room)) <|
  some (((),((),((),()))),((),((setI o1 t0 true),(o2,((),((o4++(t0 :: ([]:List Int))),())))))))
  (some (((),((),((),()))),((),(o1,(o2,((),(o4,())))))))
def fi45v1:SForm:=⟨[(0,(.val (.int .i64))),(1,(.bptr 0 [])),(2,(.bptr 2 [])),(3,(.bptr 3 []))],[.cell (.ref 1),.row .bool,.cell (.val (.sl false .bool)),.cell (.ref 4),.row (.int .i64)]⟩
def fo45v1:SForm:=⟨[(1,(.bptr 0 [])),(2,(.bptr 2 [])),(3,(.bptr 3 []))],[.cell (.ref 1),.row .bool,.cell (.val (.sl false .bool)),.cell (.ref 4),.row (.int .i64)]⟩
def c45v1 (N:Nat):Callee:=.mut fi45v1 [1,2,3] fo45v1 fun d=>f45v1 N d.1.1 d.2.2.1 d.2.2.2.1 d.2.2.2.2.2.1
def lp45v1 (N:Nat):Nat→Option LoopFn:=fun r=>none
def x45v1 (N:Nat):Ctx:={ fuel:=N,tt:=getL ttL,mt:=getL mtL,ntmps:=24,env:=fun f=>(getL [] f).getD [],cut:=getL [],exits:=fun r=>getL ((getL [] r).getD []),res:=⟨[1,2,3],[]⟩,own:=fun _=>none,lp:=lp45v1 N,eqs:=fun T=>memN T eqL,ct:=fun T=>memN T ctL,ms:=getMs msL }
noncomputable def b45v1:Code:=((Go.Proofs.Try.f45).body).getD .skip
theorem e45v1 (N:Nat) (t0:Int) (o1:List Bool) (o2:List Bool) (o4:List Int):bodyM (x45v1 N) fo45v1 b45v1 (St.of [(0,(.data (.int .i64) t0)),(1,(.bptr 0 [])),(2,(.bptr 2 [])),(3,(.bptr 3 []))] [.cell (.ref 1 [] 0),.row .bool o1 0,.cell (.data (.sl false .bool) o2),.cell (.ref 4 [] 0),.row (.int .i64) o4 0])=f45v1 N t0 o1 o2 o4:=by kernel_rfl
theorem k45v1 (N:Nat):CalleeOK Go.Proofs.Try.prog 45 (c45v1 N):=
 fn_ok_mut (fn:=Go.Proofs.Try.f45) (body:=b45v1) (c:=x45v1 N) (rs:=[]) Go.Proofs.Try.func45 (by kernel_rfl) (by kernel_rfl) ⟨ttL_ok,mtL_ok,eqL_ok,ctL_ok,msL_ok,env_nil⟩ mixed (by kernel_rfl) (Nat.le_of_ble_eq_true (by kernel_rfl)) (by kernel_rfl) (by kernel_rfl) (by kernel_rfl) (anchB_ok (by kernel_rfl))
  (loops_ok (by kernel_rfl:loopsOf b45v1=[]) .nil) fun d=>e45v1 N d.1.1 d.2.2.1 d.2.2.2.1 d.2.2.2.2.2.1
def f29_L6 {R:Type} (N:Nat) (t26:List Int) (t0:List (List Int)) (t27:Int) (o5:List Bool) (kb:Int×List Bool×List Bool×List Int→Option R) (kx0:(List Bool)→(List Bool)→(List Int)→Option R):Int×List Bool×List Bool×List Int→Option R:=
 fun (t28,o1,o2,o4)=>
  cond (decide (t28 < t27))
   ((idx t26 t28).bind fun x=>
   (f45v1 N x o1 o2 o4).bind fun r_1=>
   kb ((wi64 (t28+1)),r_1.2.2.1,r_1.2.2.2.1,r_1.2.2.2.2.2.1))
   (kx0 o1 o2 o4)
def f29_L16 {R:Type} (N:Nat) (t51:List Int) (t0_2:List (List Int)) (t52:Int) (o5_2:List Bool) (kb:Int×List Bool×List Bool×List Int→Option R) (kx4:(List Bool)→(List Bool)→(List Int)→Option R):Int×List Bool×List Bool×List Int→Option R:=
 fun (t53,o1_3,o2_3,o4_3)=>
  cond (decide (t53 < t52))
   ((idx t51 t53).bind fun x_4=>
   (f45v1 N x_4 o1_3 o2_3 o4_3).bind fun r_2=>
   kb ((wi64 (t53+1)),r_2.2.2.1,r_2.2.2.2.1,r_2.2.2.2.2.2.1))
   (kx4 o1_3 o2_3 o4_3)
def f29_L10 {R:Type} (N:Nat) (t0_1:List (List Int)) (o5_1:List Bool) (kb:List Bool×List Bool×List Int→Option R) (kret:Bool→Option R) (kx2:Unit→Option R):List Bool×List Bool×List Int→Option R:=
 fun (o1_2,o2_2,o4_2)=>
  cond (decide (0 < (len o4_2)))
   (chk (inb o4_2 0) <|
   (idx o4_2 0).bind fun x_1=>
   chk ((decide (1≤(len o4_2))) && (decide ((len o4_2)≤(len o4_2)))) <|
   chk (inb o5_1 x_1) <|
   (idx o5_1 x_1).bind fun x_2=>
   cond x_2
    (kret false)
    ((idx t0_1 x_1).bind fun x_3=>
    iter (fun w=>f29_L16 N x_3 t0_1 (len x_3) o5_1 w
     (fun o1_4 o2_4 o4_4=>
      kb (o1_4,o2_4,o4_4))) N (0,o1_2,o2_2,(sub o4_2 1 (len o4_2)))))
   (kx2 ())
def f29 (N:Nat) (a0:List (List Int)) (a1:List Int) (a2:List Int) (a3:List Bool):Option (Bool):=
 (f41 N (len a0) a2).bind fun r=>
 chk (((decide (0≤(len a0))) && (decide ((len a0)≤(len a0)))) && (decide ((len a0)≤((room:Nat):Int)))) <|
 iter (fun w=>f29_L6 N a1 a0 (len a1) r w
  (fun o1_1 o2_1 o4_1=>
   iter (fun w=>f29_L10 N a0 r w
    (fun t8=>
     some t8)
    (fun (_:Unit)=>
     some true)) N (o1_1,o2_1,o4_1))) N (0,(List.replicate (Int.toNat (len a0)) false:List Bool),a3,([]:List Int))
def c29 (N:Nat):Callee:=.pure (.pr (.val (.sl false (.sl false (.int .i64)))) (.pr (.val (.sl false (.int .i64))) (.pr (.val (.sl false (.int .i64))) (.pr (.val (.sl false .bool)) .un)))) [.bool] fun d=>f29 N d.1 d.2.1 d.2.2.1 d.2.2.2.1
def F29_6:SForm:=⟨[(28,(.val (.int .i64))),(12,(.clos 45 (.pr (.bptr 0 []) (.pr (.bptr 2 []) (.pr (.bptr 3 []) .un))))),(26,(.val (.sl false (.int .i64)))),(0,(.val (.sl false (.sl false (.int .i64))))),(9,(.ref 5)),(11,(.bptr 3 [])),(27,(.val (.int .i64)))],[.cell (.ref 1),.row .bool,.cell (.val (.sl false .bool)),.cell (.ref 4),.row (.int .i64),.row .bool]⟩
def G29_6 (N:Nat):(R:Type)→F29_6.den→(AExit→St→Option R)→Option R:=fun R d k=>iter (fun kb=>f29_L6 N d.1.2.2.1 d.1.2.2.2.1 d.1.2.2.2.2.2.2.1 d.2.2.2.2.2.2.1 kb
  (fun y1 y2 y3=>k (.exit 0) (St.of [(12,(.clos 45 (.pr (.bptr 0 []) (.pr (.bptr 2 []) (.pr (.bptr 3 []) .un))))),(0,(.data (.sl false (.sl false (.int .i64))) d.1.2.2.2.1)),(9,(.ref 5 [] 0)),(11,(.bptr 3 []))] [.cell (.ref 1 [] 0),.row .bool y1 0,.cell (.data (.sl false .bool) y2),.cell (.ref 4 [] 0),.row (.int .i64) y3 0,.row .bool d.2.2.2.2.2.2.1 0]))) N (d.1.1,d.2.2.1,d.2.2.2.1,d.2.2.2.2.2.1)
def F29_16:SForm:=⟨[(53,(.val (.int .i64))),(12,(.clos 45 (.pr (.bptr 0 []) (.pr (.bptr 2 []) (.pr (.bptr 3 []) .un))))),(51,(.val (.sl false (.int .i64)))),(0,(.val (.sl false (.sl false (.int .i64))))),(9,(.ref 5)),(11,(.bptr 3 [])),(52,(.val (.int .i64)))],[.cell (.ref 1),.row .bool,.cell (.val (.sl false .bool)),.cell (.ref 4),.row (.int .i64),.row .bool]⟩
def G29_16 (N:Nat):(R:Type)→F29_16.den→(AExit→St→Option R)→Option R:=fun R d k=>iter (fun kb=>f29_L16 N d.1.2.2.1 d.1.2.2.2.1 d.1.2.2.2.2.2.2.1 d.2.2.2.2.2.2.1 kb
  (fun y1 y2 y3=>k (.exit 4) (St.of [(12,(.clos 45 (.pr (.bptr 0 []) (.pr (.bptr 2 []) (.pr (.bptr 3 []) .un))))),(0,(.data (.sl false (.sl false (.int .i64))) d.1.2.2.2.1)),(9,(.ref 5 [] 0)),(11,(.bptr 3 []))] [.cell (.ref 1 [] 0),.row .bool y1 0,.cell (.data (.sl false .bool) y2),.cell (.ref 4 [] 0),.row (.int .i64) y3 0,.row .bool d.2.2.2.2.2.2.1 0]))) N (d.1.1,d.2.2.1,d.2.2.2.1,d.2.2.2.2.2.1)
def F29_10:SForm:=⟨[(12,(.clos 45 (.pr (.bptr 0 []) (.pr (.bptr 2 []) (.pr (.bptr 3 []) .un))))),(0,(.val (.sl false (.sl false (.int .i64))))),(9,(.ref 5)),(11,(.bptr 3 []))],[.cell (.ref 1),.row .bool,.cell (.val (.sl false .bool)),.cell (.ref 4),.row (.int .i64),.row .bool]⟩
def G29_10 (N:Nat):(R:Type)→F29_10.den→(AExit→St→Option R)→Option R:=fun R d k=>iter (fun kb=>f29_L10 N d.1.2.1 d.2.2.2.2.2.2.1 kb
  (fun y0=>k .ret (St.of [(8,(.data .bool y0))] []))
  (fun _=>k (.exit 2) (St.of [] []))) N (d.2.2.1,d.2.2.2.1,d.2.2.2.2.2.1)
def lp29 (N:Nat):Nat→Option LoopFn:=fun r=>cond (Nat.beq r 6) (some fun R sl os k=>F29_6.take sl os fun d=>G29_6 N R d k) (cond (Nat.beq r 16) (some fun R sl os k=>F29_16.take sl os fun d=>G29_16 N R d k) (cond (Nat.beq r 10) (some fun R sl os k=>F29_10.take sl os fun d=>G29_10 N R d k) (none)))
def x29 (N:Nat):Ctx:={ fuel:=N,tt:=getL ttL,mt:=getL mtL,ntmps:=61,env:=fun f=>(getL [(41,[c41 N]),(45,[c45v1 N])] f).getD [],cut:=getL [(6,⟨[28,12,26,0,9,11,27],[(11,some [],.row (.int .i64))]⟩),(10,⟨[12,0,9,11],[]⟩),(16,⟨[53,12,51,0,9,11,52],[(11,some [],.row (.int .i64))]⟩)],exits:=fun r=>getL ((getL [(6,[(0,⟨[12,0,9,11],[]⟩)]),(10,[(2,⟨[],[]⟩)]),(16,[(4,⟨[12,0,9,11],[]⟩)])] r).getD []),res:=⟨[8],[]⟩,own:=fun _=>none,lp:=lp29 N,eqs:=fun T=>memN T eqL,ct:=fun T=>memN T ctL,ms:=getMs msL }
noncomputable def b29:Code:=((Go.Proofs.Try.f29).body).getD .skip
theorem s29_6 (N:Nat) {R:Type} (k:AExit→St→Option R) (t26:List Int) (t0:List (List Int)) (t27:Int) (o5:List Bool) (kb:List (Nat×AVal)→List Obj→Option R) (x:Int×List Bool×List Bool×List Int):codeK (x29 N) (loopAt 6 (loopsOf b29)) (St.of [(28,(.data (.int .i64) x.1)),(12,(.clos 45 (.pr (.bptr 0 []) (.pr (.bptr 2 []) (.pr (.bptr 3 []) .un))))),(26,(.data (.sl false (.int .i64)) t26)),(0,(.data (.sl false (.sl false (.int .i64))) t0)),(9,(.ref 5 [] 0)),(11,(.bptr 3 [])),(27,(.data (.int .i64) t27))] [.cell (.ref 1 [] 0),.row .bool x.2.1 0,.cell (.data (.sl false .bool) x.2.2.1),.cell (.ref 4 [] 0),.row (.int .i64) x.2.2.2 0,.row .bool o5 0]) (kLoop (x29 N) 6 ⟨[28,12,26,0,9,11,27],[(11,some [],.row (.int .i64))]⟩ kb k)=f29_L6 N t26 t0 t27 o5 (fun y=>kb [(28,(.data (.int .i64) y.1)),(12,(.clos 45 (.pr (.bptr 0 []) (.pr (.bptr 2 []) (.pr (.bptr 3 []) .un))))),(26,(.data (.sl false (.int .i64)) t26)),(0,(.data (.sl false (.sl false (.int .i64))) t0)),(9,(.ref 5 [] 0)),(11,(.bptr 3 [])),(27,(.data (.int .i64) t27))] [.cell (.ref 1 [] 0),.row .bool y.2.1 0,.cell (.data (.sl false .bool) y.2.2.1),.cell (.ref 4 [] 0),.row (.int .i64) y.2.2.2 0,.row .bool o5 0])
  (fun y1 y2 y3=>k (.exit 0) (St.of [(12,(.clos 45 (.pr (.bptr 0 []) (.pr (.bptr 2 []) (.pr (.bptr 3 []) .un))))),(0,(.data (.sl false (.sl false (.int .i64))) t0)),(9,(.ref 5 [] 0)),(11,(.bptr 3 []))] [.cell (.ref 1 [] 0),.row .bool y1 0,.cell (.data (.sl false .bool) y2),.cell (.ref 4 [] 0),.row (.int .i64) y3 0,.row .bool o5 0])) x:=by kernel_rfl
theorem l29_6 (N:Nat):LoopOK (x29 N) (loopAt 6 (loopsOf b29)):=
 loop_mk (G29_6 N) (by kernel_rfl) (by kernel_rfl) (by kernel_rfl) fun R k d=>
  loop_eq (st:=fun (x:Int×List Bool×List Bool×List Int)=>([(28,(.data (.int .i64) x.1)),(12,(.clos 45 (.pr (.bptr 0 []) (.pr (.bptr 2 []) (.pr (.bptr 3 []) .un))))),(26,(.data (.sl false (.int .i64)) d.1.2.2.1)),(0,(.data (.sl false (.sl false (.int .i64))) d.1.2.2.2.1)),(9,(.ref 5 [] 0)),(11,(.bptr 3 [])),(27,(.data (.int .i64) d.1.2.2.2.2.2.2.1))],[.cell (.ref 1 [] 0),.row .bool x.2.1 0,.cell (.data (.sl false .bool) x.2.2.1),.cell (.ref 4 [] 0),.row (.int .i64) x.2.2.2 0,.row .bool d.2.2.2.2.2.2.1 0])) (s29_6 N k d.1.2.2.1 d.1.2.2.2.1 d.1.2.2.2.2.2.2.1 d.2.2.2.2.2.2.1) N (d.1.1,d.2.2.1,d.2.2.2.1,d.2.2.2.2.2.1)
theorem s29_16 (N:Nat) {R:Type} (k:AExit→St→Option R) (t51:List Int) (t0_2:List (List Int)) (t52:Int) (o5_2:List Bool) (kb:List (Nat×AVal)→List Obj→Option R) (x:Int×List Bool×List Bool×List Int):codeK (x29 N) (loopAt 16 (loopsOf b29)) (St.of [(53,(.data (.int .i64) x.1)),(12,(.clos 45 (.pr (.bptr 0 []) (.pr (.bptr 2 []) (.pr (.bptr 3 []) .un))))),(51,(.data (.sl false (.int .i64)) t51)),(0,(.data (.sl false (.sl false (.int .i64))) t0_2)),(9,(.ref 5 [] 0)),(11,(.bptr 3 [])),(52,(.data (.int .i64) t52))] [.cell (.ref 1 [] 0),.row .bool x.2.1 0,.cell (.data (.sl false .bool) x.2.2.1),.cell (.ref 4 [] 0),.row (.int .i64) x.2.2.2 0,.row .bool o5_2 0]) (kLoop (x29 N) 16 ⟨[53,12,51,0,9,11,52],[(11,some [],.row (.int .i64))]⟩ kb k)=f29_L16 N t51 t0_2 t52 o5_2 (fun y=>kb [(53,(.data (.int .i64) y.1)),(12,(.clos 45 (.pr (.bptr 0 []) (.pr (.bptr 2 []) (.pr (.bptr 3 []) .un))))),(51,(.data (.sl false (.int .i64)) t51)),(0,(.data (.sl false (.sl false (.int .i64))) t0_2)),(9,(.ref 5 [] 0)),(11,(.bptr 3 [])),(52,(.data (.int .i64) t52))] [.cell (.ref 1 [] 0),.row .bool y.2.1 0,.cell (.data (.sl false .bool) y.2.2.1),.cell (.ref 4 [] 0),.row (.int .i64) y.2.2.2 0,.row .bool o5_2 0])
  (fun y1 y2 y3=>k (.exit 4) (St.of [(12,(.clos 45 (.pr (.bptr 0 []) (.pr (.bptr 2 []) (.pr (.bptr 3 []) .un))))),(0,(.data (.sl false (.sl false (.int .i64))) t0_2)),(9,(.ref 5 [] 0)),(11,(.bptr 3 []))] [.cell (.ref 1 [] 0),.row .bool y1 0,.cell (.data (.sl false .bool) y2),.cell (.ref 4 [] 0),.row (.int .i64) y3 0,.row .bool o5_2 0])) x:=by kernel_rfl
theorem l29_16 (N:Nat):LoopOK (x29 N) (loopAt 16 (loopsOf b29)):=
 loop_mk (G29_16 N) (by kernel_rfl) (by kernel_rfl) (by kernel_rfl) fun R k d=>
  loop_eq (st:=fun (x:Int×List Bool×List Bool×List Int)=>([(53,(.data (.int .i64) x.1)),(12,(.clos 45 (.pr (.bptr 0 []) (.pr (.bptr 2 []) (.pr (.bptr 3 []) .un))))),(51,(.data (.sl false (.int .i64)) d.1.2.2.1)),(0,(.data (.sl false (.sl false (.int .i64))) d.1.2.2.2.1)),(9,(.ref 5 [] 0)),(11,(.bptr 3 [])),(52,(.data (.int .i64) d.1.2.2.2.2.2.2.1))],[.cell (.ref 1 [] 0),.row .bool x.2.1 0,.cell (.data (.sl false .bool) x.2.2.1),.cell (.ref 4 [] 0),.row (.int .i64) x.2.2.2 0,.row .bool d.2.2.2.2.2.2.1 0])) (s29_16 N k d.1.2.2.1 d.1.2.2.2.1 d.1.2.2.2.2.2.2.1 d.2.2.2.2.2.2.1) N (d.1.1,d.2.2.1,d.2.2.2.1,d.2.2.2.2.2.1)
theorem s29_10 (N:Nat) {R:Type} (k:AExit→St→Option R) (t0_1:List (List Int)) (o5_1:List Bool) (kb:List (Nat×AVal)→List Obj→Option R) (x:List Bool×List Bool×List Int):codeK (x29 N) (loopAt 10 (loopsOf b29)) (St.of [(12,(.clos 45 (.pr (.bptr 0 []) (.pr (.bptr 2 []) (.pr (.bptr 3 []) .un))))),(0,(.data (.sl false (.sl false (.int .i64))) t0_1)),(9,(.ref 5 [] 0)),(11,(.bptr 3 []))] [.cell (.ref 1 [] 0),.row .bool x.1 0,.cell (.data (.sl false .bool) x.2.1),.cell (.ref 4 [] 0),.row (.int .i64) x.2.2 0,.row .bool o5_1 0]) (kLoop (x29 N) 10 ⟨[12,0,9,11],[]⟩ kb k)=f29_L10 N t0_1 o5_1 (fun y=>kb [(12,(.clos 45 (.pr (.bptr 0 []) (.pr (.bptr 2 []) (.pr (.bptr 3 []) .un))))),(0,(.data (.sl false (.sl false (.int .i64))) t0_1)),(9,(.ref 5 [] 0)),(11,(.bptr 3 []))] [.cell (.ref 1 [] 0),.row .bool y.1 0,.cell (.data (.sl false .bool) y.2.1),.cell (.ref 4 [] 0),.row (.int .i64) y.2.2 0,.row .bool o5_1 0])
  (fun y0=>k .ret (St.of [(8,(.data .bool y0))] []))
  (fun _=>k (.exit 2) (St.of [] [])) x:=by kernel_rfl
theorem l29_10 (N:Nat):LoopOK (x29 N) (loopAt 10 (loopsOf b29)):=
 loop_mk (G29_10 N) (by kernel_rfl) (by kernel_rfl) (by kernel_rfl) fun R k d=>
  loop_eq (st:=fun (x:List Bool×List Bool×List Int)=>([(12,(.clos 45 (.pr (.bptr 0 []) (.pr (.bptr 2 []) (.pr (.bptr 3 []) .un))))),(0,(.data (.sl false (.sl false (.int .i64))) d.1.2.1)),(9,(.ref 5 [] 0)),(11,(.bptr 3 []))],[.cell (.ref 1 [] 0),.row .bool x.1 0,.cell (.data (.sl false .bool) x.2.1),.cell (.ref 4 [] 0),.row (.int .i64) x.2.2 0,.row .bool d.2.2.2.2.2.2.1 0])) (s29_10 N k d.1.2.1 d.2.2.2.2.2.2.1) N (d.2.2.1,d.2.2.2.1,d.2.2.2.2.2.1)
theorem e29 (N:Nat) (a0:List (List Int)) (a1:List Int) (a2:List Int) (a3:List Bool):bodyK (x29 N) [.bool] [.tmp 8] b29 (entry (.pr (.val (.sl false (.sl false (.int .i64)))) (.pr (.val (.sl false (.int .i64))) (.pr (.val (.sl false (.int .i64))) (.pr (.val (.sl false .bool)) .un)))) (a0,(a1,(a2,(a3,())))))=f29 N a0 a1 a2 a3:=by kernel_rfl
theorem k29 (N:Nat):CalleeOK Go.Proofs.Try.prog 29 (c29 N):=
 fn_ok (fn:=Go.Proofs.Try.f29) (body:=b29) (c:=x29 N) Go.Proofs.Try.func29 (by kernel_rfl) (by kernel_rfl) ⟨ttL_ok,mtL_ok,eqL_ok,ctL_ok,msL_ok,env_cons (forall_mem1 (k41 N)) (env_cons (forall_mem1 (k45v1 N)) (env_nil))⟩ mixed (by kernel_rfl) (Nat.le_of_ble_eq_true (by kernel_rfl)) (by kernel_rfl) (by decide)
  (loops_ok (by kernel_rfl:loopsOf b29=[loopAt 6 (loopsOf b29),loopAt 10 (loopsOf b29),loopAt 16 (loopsOf b29)]) (.cons (l29_6 N) (.cons (l29_10 N) (.cons (l29_16 N) .nil)))) fun d=>e29 N d.1 d.2.1 d.2.2.1 d.2.2.2.1
def f22 (N:Nat) (a0:List Int):Option (List Int):=chk (decide (0+List.length a0≤room)) (some a0)
def c22 (N:Nat):Callee:=.pure (.pr (.val (.sl false (.int .i64))) .un) [(.sl true (.int .i64))] fun d=>f22 N d.1
def x22 (N:Nat):Ctx:={ fuel:=N,tt:=getL ttL,mt:=getL mtL,ntmps:=8,env:=fun f=>(getL [] f).getD [],cut:=fun _=>none,exits:=fun _ _=>none,res:=⟨[2],[]⟩,own:=fun _=>none,lp:=fun _=>none,eqs:=fun T=>memN T eqL,ct:=fun T=>memN T ctL,ms:=getMs msL }
theorem k22 (N:Nat):CalleeOK Go.Proofs.Try.prog 22 (c22 N):=
 fn_ok_nil (fn:=Go.Proofs.Try.f22) (c:=x22 N) (p:=.pr (.val (.sl false (.int .i64))) .un) (ts:=[(.sl true (.int .i64))]) (t:=(.int .i64)) (σ0:=fun d=>⟨(entry (.pr (.val (.sl false (.int .i64))) .un) d |>.set 2 .nilS).slots,fun _=>none,8⟩) Go.Proofs.Try.func22 (by kernel_rfl) rfl ⟨ttL_ok,mtL_ok,eqL_ok,ctL_ok,msL_ok,env_nil⟩ mixed (by kernel_rfl) (Nat.le_of_ble_eq_true (by kernel_rfl)) (by kernel_rfl)
  (AllL.mem .nil) (AllL.mem .nil) (AllL.mem .nil) (fun d=>by kernel_rfl) rfl rfl rfl rfl rfl rfl (Nat.le_of_ble_eq_true (by kernel_rfl)) (Nat.le_of_ble_eq_true (by kernel_rfl)) (by kernel_rfl:(x22 N).tt 25=some (.sl false (.int .i64))) (fun d=>d.1) (fun d=>by kernel_rfl)
  (fun d b hb=>match d,b,hb with
   | (a0,u),false,_=>by kernel_rfl
   | ([],u),true,_=>by kernel_rfl
   | (_ :: _,u),true,hb=>nomatch hb rfl)
def f46 (N:Nat) (t1:Int) (t2:Int) (t3:Int) (o0':Int) (o0'':Int) (o1:List (List (Int×(Int×(Int×Unit))))):Option (((Unit×Unit)×((Unit×(Int×(Int×Unit)))×((List (List (Int×(Int×(Int×Unit)))))×Unit)))):=
 chk (inb o1 t1) <|
 (idx o1 t1).bind fun x=>
 chk (inb o1 t2) <|
 (idx o1 t2).bind fun x_1=>
 (idx o1 t2).bind fun x_2=>
 (idx o1 t1).bind fun x_3=>
 chk (decide ((Nat.succ (List.length x_3))≤room)) <|
 chk (inb o1 t1) <|
 chk (pathEq [.idx t1] [.idx t1]) <|
 (idx o1 t1).bind fun x_4=>
 chk (inb (setI o1 t1 (x_3++((t2,(t3,((len x_2),()))) :: ([]:List (Int×(Int×(Int×Unit))))))) t2) <|
 (idx (setI o1 t1 (x_3++((t2,(t3,((len x_2),()))) :: ([]:List (Int×(Int×(Int×Unit))))))) t2).bind fun x_5=>
 chk (inb (setI o1 t1 (x_3++((t2,(t3,((len x_2),()))) :: ([]:List (Int×(Int×(Int×Unit))))))) t1) <|
 (idx (setI o1 t1 (x_3++((t2,(t3,((len x_2),()))) :: ([]:List (Int×(Int×(Int×Unit))))))) t1).bind fun x_6=>
 (idx (setI o1 t1 (x_3++((t2,(t3,((len x_2),()))) :: ([]:List (Int×(Int×(Int×Unit))))))) t1).bind fun x_7=>
 (idx (setI o1 t1 (x_3++((t2,(t3,((len x_2),()))) :: ([]:List (Int×(Int×(Int×Unit))))))) t2).bind fun x_8=>
 chk (decide ((Nat.succ (List.length x_8))≤room)) <|
 chk (inb (setI o1 t1 (x_3++((t2,(t3,((len x_2),()))) :: ([]:List (Int×(Int×(Int×Unit))))))) t2) <|
 chk (pathEq [.idx t2] [.idx t2]) <|
 (idx (setI o1 t1 (x_3++((t2,(t3,((len x_2),()))) :: ([]:List (Int×(Int×(Int×Unit))))))) t2).bind fun x_9=>
 some (((),()),(((),(o0',(o0'',()))),((setI (setI o1 t1 (x_3++((t2,(t3,((len x_2),()))) :: ([]:List (Int×(Int×(Int×Unit))))))) t2 (x_8++((t1,(0,((wi64 ((len x_7)-1)),()))) :: ([]:List (Int×(Int×(Int×Unit))))))),())))
def fi46:SForm:=⟨[(0,(.bptr 0 [])),(1,(.val (.int .i64))),(2,(.val (.int .i64))),(3,(.val (.int .i64)))],[.cell (.agg (.pr (.nv 1) (.pr (.val (.int .i64)) (.pr (.val (.int .i64)) .un)))),.nest (.sl true (.pair (.int .i64) (.pair (.int .i64) (.pair (.int .i64) .unit))))]⟩
def fo46:SForm:=⟨[(0,(.bptr 0 []))],[.cell (.agg (.pr (.nv 1) (.pr (.val (.int .i64)) (.pr (.val (.int .i64)) .un)))),.nest (.sl true (.pair (.int .i64) (.pair (.int .i64) (.pair (.int .i64) .unit))))]⟩
def c46 (N:Nat):Callee:=.mut fi46 [0] fo46 fun d=>f46 N d.1.2.1 d.1.2.2.1 d.1.2.2.2.1 d.2.1.2.1 d.2.1.2.2.1 d.2.2.1
def lp46 (N:Nat):Nat→Option LoopFn:=fun r=>none
def x46 (N:Nat):Ctx:={ fuel:=N,tt:=getL ttL,mt:=getL mtL,ntmps:=60,env:=fun f=>(getL [] f).getD [],cut:=getL [],exits:=fun r=>getL ((getL [] r).getD []),res:=⟨[0],[]⟩,own:=fun _=>none,lp:=lp46 N,eqs:=fun T=>memN T eqL,ct:=fun T=>memN T ctL,ms:=getMs msL }
noncomputable def b46:Code:=((Go.Proofs.Try.f46).body).getD .skip
theorem e46 (N:Nat) (t1:Int) (t2:Int) (t3:Int) (o0':Int) (o0'':Int) (o1:List (List (Int×(Int×(Int×Unit))))):bodyM (x46 N) fo46 b46 (St.of [(0,(.bptr 0 [])),(1,(.data (.int .i64) t1)),(2,(.data (.int .i64) t2)),(3,(.data (.int .i64) t3))] [.cell (.agg (.pr (.nv false 1 [] 0) (.pr (.data (.int .i64) o0') (.pr (.data (.int .i64) o0'') .un)))),.nest (.sl true (.pair (.int .i64) (.pair (.int .i64) (.pair (.int .i64) .unit)))) o1 0 0 none])=f46 N t1 t2 t3 o0' o0'' o1:=by kernel_rfl
theorem k46 (N:Nat):CalleeOK Go.Proofs.Try.prog 46 (c46 N):=
 fn_ok_mut (fn:=Go.Proofs.Try.f46) (body:=b46) (c:=x46 N) (rs:=[]) Go.Proofs.Try.func46 (by kernel_rfl) (by kernel_rfl) ⟨ttL_ok,mtL_ok,eqL_ok,ctL_ok,msL_ok,env_nil⟩ mixed (by kernel_rfl) (Nat.le_of_ble_eq_true (by kernel_rfl)) (by kernel_rfl) (by kernel_rfl) (by kernel_rfl) (anchB_ok (by kernel_rfl))
  (loops_ok (by kernel_rfl:loopsOf b46=[]) .nil) fun d=>e46 N d.1.2.1 d.1.2.2.1 d.1.2.2.2.1 d.2.1.2.1 d.2.1.2.2.1 d.2.2.1
def f30_L5 {R:Type} (N:Nat) (t35:List Int) (t0_1:List (List Int)) (t10:Int) (t3_1:List Int) (t2_1:List Int) (t1_1:List Int) (t36:Int) (o0':Int) (o0'':Int) (o1:List (List (Int×(Int×(Int×Unit))))) (kb:Int×Int→Option R) (kx0:Int→Option R):Int×Int→Option R:=
 fun (t37,t12)=>
  cond (decide (t37 < t36))
   ((idx t35 t37).bind fun x=>
   kb ((wi64 (t37+1)),(wi64 (t12+(maxI x 0)))))
   (kx0 t12)
def f30_L11 {R:Type} (N:Nat) (t12_2:Int) (t0_2:List (List Int)) (t10_1:Int) (t3_2:List Int) (t2_2:List Int) (t48:Int) (kb:Int×List Int×Int×Int×(List (List (Int×(Int×(Int×Unit)))))→Option R) (kx2:Int→Int→(List (List (Int×(Int×(Int×Unit)))))→Option R):Int×List Int×Int×Int×(List (List (Int×(Int×(Int×Unit)))))→Option R:=
 fun (t49,o0,o1',o1'',o2)=>
  cond (decide (t49 < t48))
   (chk (inb o0 t49) <|
   (idx o0 t49).bind fun x_1=>
   cond (decide (x_1 < 0))
    (chk (inb o0 t49) <|
    (idx o0 t49).bind fun x_2=>
    (idx o0 t49).bind fun x_3=>
    chk (inb (setI o0 t49 t12_2) t49) <|
    (idx (setI o0 t49 t12_2) t49).bind fun x_4=>
    (f46 N (wi64 (2*t49)) (wi64 ((wi64 (2*t49))+1)) x_4 o1' o1'' o2).bind fun r_1=>
    kb ((wi64 (t49+1)),(setI o0 t49 t12_2),r_1.2.1.2.1,r_1.2.1.2.2.1,r_1.2.2.1))
    (chk (inb o0 t49) <|
    (idx o0 t49).bind fun x_5=>
    (f46 N (wi64 (2*t49)) (wi64 ((wi64 (2*t49))+1)) x_5 o1' o1'' o2).bind fun r_2=>
    kb ((wi64 (t49+1)),o0,r_2.2.1.2.1,r_2.2.1.2.2.1,r_2.2.2.1)))
   (kx2 o1' o1'' o2)
def f30_L22 {R:Type} (N:Nat) (t12_4:Int) (t19:Int) (t86:List Int) (t0_4:List (List Int)) (t79_1:Int) (t80_1:Int) (t87:Int) (o2_2:List Bool) (o3_1:List Bool) (kb:Int×Int×Int×(List (List (Int×(Int×(Int×Unit)))))→Option R) (kx6:Int→Int→(List (List (Int×(Int×(Int×Unit)))))→Option R):Int×Int×Int×(List (List (Int×(Int×(Int×Unit)))))→Option R:=
 fun (t88,o0'_3,o0''_3,o1_3)=>
  cond (decide (t88 < t87))
   ((idx t86 t88).bind fun x_7=>
   cond (!(decide (x_7=t19)))
    ((f46 N (wi64 ((wi64 (2*t19))+1)) (wi64 (2*x_7)) t12_4 o0'_3 o0''_3 o1_3).bind fun r_5=>
    kb ((wi64 (t88+1)),r_5.2.1.2.1,r_5.2.1.2.2.1,r_5.2.2.1))
    (kb ((wi64 (t88+1)),o0'_3,o0''_3,o1_3)))
   (kx6 o0'_3 o0''_3 o1_3)
def f30_L19 {R:Type} (N:Nat) (t12_3:Int) (t0_3:List (List Int)) (t79:Int) (o2_1:List Bool) (o3:List Bool) (kb:Int×Int×Int×(List (List (Int×(Int×(Int×Unit)))))→Option R) (kx4:Int→Int→(List (List (Int×(Int×(Int×Unit)))))→Option R):Int×Int×Int×(List (List (Int×(Int×(Int×Unit)))))→Option R:=
 fun (t80,o0'_2,o0''_2,o1_2)=>
  cond (decide (t80 < t79))
   ((idx t0_3 t80).bind fun x_6=>
   iter (fun w=>f30_L22 N t12_3 t80 x_6 t0_3 t79 t80 (len x_6) o2_1 o3 w
    (fun o0'_4 o0''_4 o1_4=>
     chk (inb o3 t80) <|
     (idx o3 t80).bind fun x_8=>
     cond x_8
      ((f46 N o0'_4 (wi64 (2*t80)) t12_3 o0'_4 o0''_4 o1_4).bind fun r_6=>
      chk (inb o2_1 t80) <|
      (idx o2_1 t80).bind fun x_9=>
      cond x_9
       ((f46 N (wi64 ((wi64 (2*t80))+1)) r_6.2.1.2.2.1 t12_3 r_6.2.1.2.1 r_6.2.1.2.2.1 r_6.2.2.1).bind fun r_7=>
       kb ((wi64 (t80+1)),r_7.2.1.2.1,r_7.2.1.2.2.1,r_7.2.2.1))
       (kb ((wi64 (t80+1)),r_6.2.1.2.1,r_6.2.1.2.2.1,r_6.2.2.1)))
      (chk (inb o2_1 t80) <|
      (idx o2_1 t80).bind fun x_10=>
      cond x_10
       ((f46 N (wi64 ((wi64 (2*t80))+1)) o0''_4 t12_3 o0'_4 o0''_4 o1_4).bind fun r_8=>
       kb ((wi64 (t80+1)),r_8.2.1.2.1,r_8.2.1.2.2.1,r_8.2.2.1))
       (kb ((wi64 (t80+1)),o0'_4,o0''_4,o1_4))))) N (0,o0'_2,o0''_2,o1_2))
   (kx4 o0'_2 o0''_2 o1_2)
def f30 (N:Nat) (t0:List (List Int)) (t1:List Int) (t2:List Int) (t3:List Int):Option (((Unit×(Int×Unit))×((Unit×(Int×(Int×Unit)))×((List (List (Int×(Int×(Int×Unit)))))×Unit)))):=
 chk (((decide (0≤(wi64 ((wi64 (2*(len t0)))+2)))) && (decide ((wi64 ((wi64 (2*(len t0)))+2))≤(wi64 ((wi64 (2*(len t0)))+2))))) && (decide ((wi64 ((wi64 (2*(len t0)))+2))≤((room:Nat):Int)))) <|
 iter (fun w=>f30_L5 N t1 t0 (len t0) t3 t2 t1 (len t1) (wi64 (2*(len t0))) (wi64 ((wi64 (2*(len t0)))+1)) (List.replicate (Int.toNat (wi64 ((wi64 (2*(len t0)))+2))) ([]:List (Int×(Int×(Int×Unit)))):List (List (Int×(Int×(Int×Unit))))) w
  (fun t12_1=>
   (f22 N t1).bind fun r=>
   iter (fun w=>f30_L11 N t12_1 t0 (len t0) t3 t2 (len t0) w
    (fun o0'_1 o0''_1 o1_1=>
     (f41 N (len t0) t2).bind fun r_3=>
     (f41 N (len t0) t3).bind fun r_4=>
     iter (fun w=>f30_L19 N t12_1 t0 (len t0) r_4 r_3 w
      (fun o0'_5 o0''_5 o1_5=>
       some (((),(t12_1,())),(((),(o0'_5,(o0''_5,()))),(o1_5,()))))) N (0,o0'_1,o0''_1,o1_1))) N (0,r,(wi64 (2*(len t0))),(wi64 ((wi64 (2*(len t0)))+1)),(List.replicate (Int.toNat (wi64 ((wi64 (2*(len t0)))+2))) ([]:List (Int×(Int×(Int×Unit)))):List (List (Int×(Int×(Int×Unit)))))))) N (0,1)
def fi30:SForm:=⟨[(0,(.val (.sl false (.sl false (.int .i64))))),(1,(.val (.sl false (.int .i64)))),(2,(.val (.sl false (.int .i64)))),(3,(.val (.sl false (.int .i64))))],[]⟩
def fo30:SForm:=⟨[(8,(.bptr 0 [])),(9,(.val (.int .i64)))],[.cell (.agg (.pr (.nv 1) (.pr (.val (.int .i64)) (.pr (.val (.int .i64)) .un)))),.nest (.sl true (.pair (.int .i64) (.pair (.int .i64) (.pair (.int .i64) .unit))))]⟩
def c30 (N:Nat):Callee:=.mut fi30 [] fo30 fun d=>f30 N d.1.1 d.1.2.1 d.1.2.2.1 d.1.2.2.2.1
def F30_5:SForm:=⟨[(37,(.val (.int .i64))),(12,(.val (.int .i64))),(35,(.val (.sl false (.int .i64)))),(11,(.bptr 0 [])),(0,(.val (.sl false (.sl false (.int .i64))))),(10,(.val (.int .i64))),(3,(.val (.sl false (.int .i64)))),(2,(.val (.sl false (.int .i64)))),(1,(.val (.sl false (.int .i64)))),(36,(.val (.int .i64)))],[.cell (.agg (.pr (.nv 1) (.pr (.val (.int .i64)) (.pr (.val (.int .i64)) .un)))),.nest (.sl true (.pair (.int .i64) (.pair (.int .i64) (.pair (.int .i64) .unit))))]⟩
def G30_5 (N:Nat):(R:Type)→F30_5.den→(AExit→St→Option R)→Option R:=fun R d k=>iter (fun kb=>f30_L5 N d.1.2.2.1 d.1.2.2.2.2.1 d.1.2.2.2.2.2.1 d.1.2.2.2.2.2.2.1 d.1.2.2.2.2.2.2.2.1 d.1.2.2.2.2.2.2.2.2.1 d.1.2.2.2.2.2.2.2.2.2.1 d.2.1.2.1 d.2.1.2.2.1 d.2.2.1 kb
  (fun y0=>k (.exit 0) (St.of [(11,(.bptr 0 [])),(12,(.data (.int .i64) y0)),(0,(.data (.sl false (.sl false (.int .i64))) d.1.2.2.2.2.1)),(10,(.data (.int .i64) d.1.2.2.2.2.2.1)),(3,(.data (.sl false (.int .i64)) d.1.2.2.2.2.2.2.1)),(2,(.data (.sl false (.int .i64)) d.1.2.2.2.2.2.2.2.1)),(1,(.data (.sl false (.int .i64)) d.1.2.2.2.2.2.2.2.2.1))] [.cell (.agg (.pr (.nv false 1 [] 0) (.pr (.data (.int .i64) d.2.1.2.1) (.pr (.data (.int .i64) d.2.1.2.2.1) .un)))),.nest (.sl true (.pair (.int .i64) (.pair (.int .i64) (.pair (.int .i64) .unit)))) d.2.2.1 0 0 none]))) N (d.1.1,d.1.2.1)
def F30_11:SForm:=⟨[(49,(.val (.int .i64))),(15,(.ref 0)),(11,(.bptr 1 [])),(12,(.val (.int .i64))),(0,(.val (.sl false (.sl false (.int .i64))))),(10,(.val (.int .i64))),(3,(.val (.sl false (.int .i64)))),(2,(.val (.sl false (.int .i64)))),(48,(.val (.int .i64)))],[.row (.int .i64),.cell (.agg (.pr (.nv 2) (.pr (.val (.int .i64)) (.pr (.val (.int .i64)) .un)))),.nest (.sl true (.pair (.int .i64) (.pair (.int .i64) (.pair (.int .i64) .unit))))]⟩
def G30_11 (N:Nat):(R:Type)→F30_11.den→(AExit→St→Option R)→Option R:=fun R d k=>iter (fun kb=>f30_L11 N d.1.2.2.2.1 d.1.2.2.2.2.1 d.1.2.2.2.2.2.1 d.1.2.2.2.2.2.2.1 d.1.2.2.2.2.2.2.2.1 d.1.2.2.2.2.2.2.2.2.1 kb
  (fun y5 y6 y7=>k (.exit 2) (St.of [(12,(.data (.int .i64) d.1.2.2.2.1)),(11,(.bptr 0 [])),(0,(.data (.sl false (.sl false (.int .i64))) d.1.2.2.2.2.1)),(10,(.data (.int .i64) d.1.2.2.2.2.2.1)),(3,(.data (.sl false (.int .i64)) d.1.2.2.2.2.2.2.1)),(2,(.data (.sl false (.int .i64)) d.1.2.2.2.2.2.2.2.1))] [.cell (.agg (.pr (.nv false 1 [] 0) (.pr (.data (.int .i64) y5) (.pr (.data (.int .i64) y6) .un)))),.nest (.sl true (.pair (.int .i64) (.pair (.int .i64) (.pair (.int .i64) .unit)))) y7 0 0 none]))) N (d.1.1,d.2.1,d.2.2.1.2.1,d.2.2.1.2.2.1,d.2.2.2.1)
def F30_22:SForm:=⟨[(88,(.val (.int .i64))),(12,(.val (.int .i64))),(19,(.val (.int .i64))),(11,(.bptr 0 [])),(86,(.val (.sl false (.int .i64)))),(18,(.ref 2)),(17,(.ref 3)),(0,(.val (.sl false (.sl false (.int .i64))))),(79,(.val (.int .i64))),(80,(.val (.int .i64))),(87,(.val (.int .i64)))],[.cell (.agg (.pr (.nv 1) (.pr (.val (.int .i64)) (.pr (.val (.int .i64)) .un)))),.nest (.sl true (.pair (.int .i64) (.pair (.int .i64) (.pair (.int .i64) .unit)))),.row .bool,.row .bool]⟩
def G30_22 (N:Nat):(R:Type)→F30_22.den→(AExit→St→Option R)→Option R:=fun R d k=>iter (fun kb=>f30_L22 N d.1.2.1 d.1.2.2.1 d.1.2.2.2.2.1 d.1.2.2.2.2.2.2.2.1 d.1.2.2.2.2.2.2.2.2.1 d.1.2.2.2.2.2.2.2.2.2.1 d.1.2.2.2.2.2.2.2.2.2.2.1 d.2.2.2.1 d.2.2.2.2.1 kb
  (fun y5 y6 y7=>k (.exit 6) (St.of [(12,(.data (.int .i64) d.1.2.1)),(11,(.bptr 0 [])),(18,(.ref 2 [] 0)),(17,(.ref 3 [] 0)),(0,(.data (.sl false (.sl false (.int .i64))) d.1.2.2.2.2.2.2.2.1)),(79,(.data (.int .i64) d.1.2.2.2.2.2.2.2.2.1)),(80,(.data (.int .i64) d.1.2.2.2.2.2.2.2.2.2.1)),(19,(.data (.int .i64) d.1.2.2.1))] [.cell (.agg (.pr (.nv false 1 [] 0) (.pr (.data (.int .i64) y5) (.pr (.data (.int .i64) y6) .un)))),.nest (.sl true (.pair (.int .i64) (.pair (.int .i64) (.pair (.int .i64) .unit)))) y7 0 0 none,.row .bool d.2.2.2.1 0,.row .bool d.2.2.2.2.1 0]))) N (d.1.1,d.2.1.2.1,d.2.1.2.2.1,d.2.2.1)
def F30_19:SForm:=⟨[(12,(.val (.int .i64))),(11,(.bptr 0 [])),(80,(.val (.int .i64))),(18,(.ref 2)),(17,(.ref 3)),(0,(.val (.sl false (.sl false (.int .i64))))),(79,(.val (.int .i64)))],[.cell (.agg (.pr (.nv 1) (.pr (.val (.int .i64)) (.pr (.val (.int .i64)) .un)))),.nest (.sl true (.pair (.int .i64) (.pair (.int .i64) (.pair (.int .i64) .unit)))),.row .bool,.row .bool]⟩
def G30_19 (N:Nat):(R:Type)→F30_19.den→(AExit→St→Option R)→Option R:=fun R d k=>iter (fun kb=>f30_L19 N d.1.1 d.1.2.2.2.2.2.1 d.1.2.2.2.2.2.2.1 d.2.2.2.1 d.2.2.2.2.1 kb
  (fun y1 y2 y3=>k (.exit 4) (St.of [(12,(.data (.int .i64) d.1.1)),(11,(.bptr 0 []))] [.cell (.agg (.pr (.nv false 1 [] 0) (.pr (.data (.int .i64) y1) (.pr (.data (.int .i64) y2) .un)))),.nest (.sl true (.pair (.int .i64) (.pair (.int .i64) (.pair (.int .i64) .unit)))) y3 0 0 none]))) N (d.1.2.2.1,d.2.1.2.1,d.2.1.2.2.1,d.2.2.1)
def lp30 (N:Nat):Nat→Option LoopFn:=fun r=>cond (Nat.beq r 5) (some fun R sl os k=>F30_5.take sl os fun d=>G30_5 N R d k) (cond (Nat.beq r 11) (some fun R sl os k=>F30_11.take sl os fun d=>G30_11 N R d k) (cond (Nat.beq r 22) (some fun R sl os k=>F30_22.take sl os fun d=>G30_22 N R d k) (cond (Nat.beq r 19) (some fun R sl os k=>F30_19.take sl os fun d=>G30_19 N R d k) (none))))
def x30 (N:Nat):Ctx:={ fuel:=N,tt:=getL ttL,mt:=getL mtL,ntmps:=134,env:=fun f=>(getL [(22,[c22 N]),(46,[c46 N]),(41,[c41 N])] f).getD [],cut:=getL [(5,⟨[37,12,35,11,0,10,3,2,1,36],[]⟩),(11,⟨[49,15,11,12,0,10,3,2,48],[]⟩),(19,⟨[12,11,80,18,17,0,79],[]⟩),(22,⟨[88,12,19,11,86,18,17,0,79,80,87],[]⟩)],exits:=fun r=>getL ((getL [(5,[(0,⟨[11,12,0,10,3,2,1],[]⟩)]),(11,[(2,⟨[12,11,0,10,3,2],[]⟩)]),(19,[(4,⟨[12,11],[]⟩)]),(22,[(6,⟨[12,11,18,17,0,79,80,19],[]⟩)])] r).getD []),res:=⟨[8,9],[]⟩,own:=getL [(27,(.sl true (.sl true (.pair (.int .i64) (.pair (.int .i64) (.pair (.int .i64) .unit))))))],lp:=lp30 N,eqs:=fun T=>memN T eqL,ct:=fun T=>memN T ctL,ms:=getMs msL }
noncomputable def b30:Code:=((Go.Proofs.Try.f30).body).getD .skip
theorem s30_5 (N:Nat) {R:Type} (k:AExit→St→Option R) (t35:List Int) (t0_1:List (List Int)) (t10:Int) (t3_1:List Int) (t2_1:List Int) (t1_1:List Int) (t36:Int) (o0':Int) (o0'':Int) (o1:List (List (Int×(Int×(Int×Unit))))) (kb:List (Nat×AVal)→List Obj→Option R) (x:Int×Int):codeK (x30 N) (loopAt 5 (loopsOf b30)) (St.of [(37,(.data (.int .i64) x.1)),(12,(.data (.int .i64) x.2)),(35,(.data (.sl false (.int .i64)) t35)),(11,(.bptr 0 [])),(0,(.data (.sl false (.sl false (.int .i64))) t0_1)),(10,(.data (.int .i64) t10)),(3,(.data (.sl false (.int .i64)) t3_1)),(2,(.data (.sl false (.int .i64)) t2_1)),(1,(.data (.sl false (.int .i64)) t1_1)),(36,(.data (.int .i64) t36))] [.cell (.agg (.pr (.nv false 1 [] 0) (.pr (.data (.int .i64) o0') (.pr (.data (.int .i64) o0'') .un)))),.nest (.sl true (.pair (.int .i64) (.pair (.int .i64) (.pair (.int .i64) .unit)))) o1 0 0 none]) (kLoop (x30 N) 5 ⟨[37,12,35,11,0,10,3,2,1,36],[]⟩ kb k)=f30_L5 N t35 t0_1 t10 t3_1 t2_1 t1_1 t36 o0' o0'' o1 (fun y=>kb [(37,(.data (.int .i64) y.1)),(12,(.data (.int .i64) y.2)),(35,(.data (.sl false (.int .i64)) t35)),(11,(.bptr 0 [])),(0,(.data (.sl false (.sl false (.int .i64))) t0_1)),(10,(.data (.int .i64) t10)),(3,(.data (.sl false (.int .i64)) t3_1)),(2,(.data (.sl false (.int .i64)) t2_1)),(1,(.data (.sl false (.int .i64)) t1_1)),(36,(.data (.int .i64) t36))] [.cell (.agg (.pr (.nv false 1 [] 0) (.pr (.data (.int .i64) o0') (.pr (.data (.int .i64) o0'') .un)))),.nest (.sl true (.pair (.int .i64) (.pair (.int .i64) (.pair (.int .i64) .unit)))) o1 0 0 none])
  (fun y0=>k (.exit 0) (St.of [(11,(.bptr 0 [])),(12,(.data (.int .i64) y0)),(0,(.data (.sl false (.sl false (.int .i64))) t0_1)),(10,(.data (.int .i64) t10)),(3,(.data (.sl false (.int .i64)) t3_1)),(2,(.data (.sl false (.int .i64)) t2_1)),(1,(.data (.sl false (.int .i64)) t1_1))] [.cell (.agg (.pr (.nv false 1 [] 0) (.pr (.data (.int .i64) o0') (.pr (.data (.int .i64) o0'') .un)))),.nest (.sl true (.pair (.int .i64) (.pair (.int .i64) (.pair (.int .i64) .unit)))) o1 0 0 none])) x:=by kernel_rfl
theorem l30_5 (N:Nat):LoopOK (x30 N) (loopAt 5 (loopsOf b30)):=
 loop_mk (G30_5 N) (by kernel_rfl) (by kernel_rfl) (by kernel_rfl) fun R k d=>
  loop_eq (st:=fun (x:Int×Int)=>([(37,(.data (.int .i64) x.1)),(12,(.data (.int .i64) x.2)),(35,(.data (.sl false (.int .i64)) d.1.2.2.1)),(11,(.bptr 0 [])),(0,(.data (.sl false (.sl false (.int .i64))) d.1.2.2.2.2.1)),(10,(.data (.int .i64) d.1.2.2.2.2.2.1)),(3,(.data (.sl false (.int .i64)) d.1.2.2.2.2.2.2.1)),(2,(.data (.sl false (.int .i64)) d.1.2.2.2.2.2.2.2.1)),(1,(.data (.sl false (.int .i64)) d.1.2.2.2.2.2.2.2.2.1)),(36,(.data (.int .i64) d.1.2.2.2.2.2.2.2.2.2.1))],[.cell (.agg (.pr (.nv false 1 [] 0) (.pr (.data (.int .i64) d.2.1.2.1) (.pr (.data (.int .i64) d.2.1.2.2.1) .un)))),.nest (.sl true (.pair (.int .i64) (.pair (.int .i64) (.pair (.int .i64) .unit)))) d.2.2.1 0 0 none])) (s30_5 N k d.1.2.2.1 d.1.2.2.2.2.1 d.1.2.2.2.2.2.1 d.1.2.2.2.2.2.2.1 d.1.2.2.2.2.2.2.2.1 d.1.2.2.2.2.2.2.2.2.1 d.1.2.2.2.2.2.2.2.2.2.1 d.2.1.2.1 d.2.1.2.2.1 d.2.2.1) N (d.1.1,d.1.2.1)
theorem s30_11 (N:Nat) {R:Type} (k:AExit→St→Option R) (t12_2:Int) (t0_2:List (List Int)) (t10_1:Int) (t3_2:List Int) (t2_2:List Int) (t48:Int) (kb:List (Nat×AVal)→List Obj→Option R) (x:Int×List Int×Int×Int×(List (List (Int×(Int×(Int×Unit)))))):codeK (x30 N) (loopAt 11 (loopsOf b30)) (St.of [(49,(.data (.int .i64) x.1)),(15,(.ref 0 [] 0)),(11,(.bptr 1 [])),(12,(.data (.int .i64) t12_2)),(0,(.data (.sl false (.sl false (.int .i64))) t0_2)),(10,(.data (.int .i64) t10_1)),(3,(.data (.sl false (.int .i64)) t3_2)),(2,(.data (.sl false (.int .i64)) t2_2)),(48,(.data (.int .i64) t48))] [.row (.int .i64) x.2.1 0,.cell (.agg (.pr (.nv false 2 [] 0) (.pr (.data (.int .i64) x.2.2.1) (.pr (.data (.int .i64) x.2.2.2.1) .un)))),.nest (.sl true (.pair (.int .i64) (.pair (.int .i64) (.pair (.int .i64) .unit)))) x.2.2.2.2 0 0 none]) (kLoop (x30 N) 11 ⟨[49,15,11,12,0,10,3,2,48],[]⟩ kb k)=f30_L11 N t12_2 t0_2 t10_1 t3_2 t2_2 t48 (fun y=>kb [(49,(.data (.int .i64) y.1)),(15,(.ref 0 [] 0)),(11,(.bptr 1 [])),(12,(.data (.int .i64) t12_2)),(0,(.data (.sl false (.sl false (.int .i64))) t0_2)),(10,(.data (.int .i64) t10_1)),(3,(.data (.sl false (.int .i64)) t3_2)),(2,(.data (.sl false (.int .i64)) t2_2)),(48,(.data (.int .i64) t48))] [.row (.int .i64) y.2.1 0,.cell (.agg (.pr (.nv false 2 [] 0) (.pr (.data (.int .i64) y.2.2.1) (.pr (.data (.int .i64) y.2.2.2.1) .un)))),.nest (.sl true (.pair (.int .i64) (.pair (.int .i64) (.pair (.int .i64) .unit)))) y.2.2.2.2 0 0 none])
  (fun y5 y6 y7=>k (.exit 2) (St.of [(12,(.data (.int .i64) t12_2)),(11,(.bptr 0 [])),(0,(.data (.sl false (.sl false (.int .i64))) t0_2)),(10,(.data (.int .i64) t10_1)),(3,(.data (.sl false (.int .i64)) t3_2)),(2,(.data (.sl false (.int .i64)) t2_2))] [.cell (.agg (.pr (.nv false 1 [] 0) (.pr (.data (.int .i64) y5) (.pr (.data (.int .i64) y6) .un)))),.nest (.sl true (.pair (.int .i64) (.pair (.int .i64) (.pair (.int .i64) .unit)))) y7 0 0 none])) x:=by kernel_rfl
theorem l30_11 (N:Nat):LoopOK (x30 N) (loopAt 11 (loopsOf b30)):=
 loop_mk (G30_11 N) (by kernel_rfl) (by kernel_rfl) (by kernel_rfl) fun R k d=>
  loop_eq (st:=fun (x:Int×List Int×Int×Int×(List (List (Int×(Int×(Int×Unit))))))=>([(49,(.data (.int .i64) x.1)),(15,(.ref 0 [] 0)),(11,(.bptr 1 [])),(12,(.data (.int .i64) d.1.2.2.2.1)),(0,(.data (.sl false (.sl false (.int .i64))) d.1.2.2.2.2.1)),(10,(.data (.int .i64) d.1.2.2.2.2.2.1)),(3,(.data (.sl false (.int .i64)) d.1.2.2.2.2.2.2.1)),(2,(.data (.sl false (.int .i64)) d.1.2.2.2.2.2.2.2.1)),(48,(.data (.int .i64) d.1.2.2.2.2.2.2.2.2.1))],[.row (.int .i64) x.2.1 0,.cell (.agg (.pr (.nv false 2 [] 0) (.pr (.data (.int .i64) x.2.2.1) (.pr (.data (.int .i64) x.2.2.2.1) .un)))),.nest (.sl true (.pair (.int .i64) (.pair (.int .i64) (.pair (.int .i64) .unit)))) x.2.2.2.2 0 0 none])) (s30_11 N k d.1.2.2.2.1 d.1.2.2.2.2.1 d.1.2.2.2.2.2.1 d.1.2.2.2.2.2.2.1 d.1.2.2.2.2.2.2.2.1 d.1.2.2.2.2.2.2.2.2.1) N (d.1.1,d.2.1,d.2.2.1.2.1,d.2.2.1.2.2.1,d.2.2.2.1)
theorem s30_22 (N:Nat) {R:Type} (k:AExit→St→Option R) (t12_4:Int) (t19:Int) (t86:List Int) (t0_4:List (List Int)) (t79_1:Int) (t80_1:Int) (t87:Int) (o2_2:List Bool) (o3_1:List Bool) (kb:List (Nat×AVal)→List Obj→Option R) (x:Int×Int×Int×(List (List (Int×(Int×(Int×Unit)))))):codeK (x30 N) (loopAt 22 (loopsOf b30)) (St.of [(88,(.data (.int .i64) x.1)),(12,(.data (.int .i64) t12_4)),(19,(.data (.int .i64) t19)),(11,(.bptr 0 [])),(86,(.data (.sl false (.int .i64)) t86)),(18,(.ref 2 [] 0)),(17,(.ref 3 [] 0)),(0,(.data (.sl false (.sl false (.int .i64))) t0_4)),(79,(.data (.int .i64) t79_1)),(80,(.data (.int .i64) t80_1)),(87,(.data (.int .i64) t87))] [.cell (.agg (.pr (.nv false 1 [] 0) (.pr (.data (.int .i64) x.2.1) (.pr (.data (.int .i64) x.2.2.1) .un)))),.nest (.sl true (.pair (.int .i64) (.pair (.int .i64) (.pair (.int .i64) .unit)))) x.2.2.2 0 0 none,.row .bool o2_2 0,.row .bool o3_1 0]) (kLoop (x30 N) 22 ⟨[88,12,19,11,86,18,17,0,79,80,87],[]⟩ kb k)=f30_L22 N t12_4 t19 t86 t0_4 t79_1 t80_1 t87 o2_2 o3_1 (fun y=>kb [(88,(.data (.int .i64) y.1)),(12,(.data (.int .i64) t12_4)),(19,(.data (.int .i64) t19)),(11,(.bptr 0 [])),(86,(.data (.sl false (.int .i64)) t86)),(18,(.ref 2 [] 0)),(17,(.ref 3 [] 0)),(0,(.data (.sl false (.sl false (.int .i64))) t0_4)),(79,(.data (.int .i64) t79_1)),(80,(.data (.int .i64) t80_1)),(87,(.data (.int .i64) t87))] [.cell (.agg (.pr (.nv false 1 [] 0) (.pr (.data (.int .i64) y.2.1) (.pr (.data (.int .i64) y.2.2.1) .un)))),.nest (.sl true (.pair (.int .i64) (.pair (.int .i64) (.pair (.int .i64) .unit)))) y.2.2.2 0 0 none,.row .bool o2_2 0,.row .bool o3_1 0])
  (fun y5 y6 y7=>k (.exit 6) (St.of [(12,(.data (.int .i64) t12_4)),(11,(.bptr 0 [])),(18,(.ref 2 [] 0)),(17,(.ref 3 [] 0)),(0,(.data (.sl false (.sl false (.int .i64))) t0_4)),(79,(.data (.int .i64) t79_1)),(80,(.data (.int .i64) t80_1)),(19,(.data (.int .i64) t19))] [.cell (.agg (.pr (.nv false 1 [] 0) (.pr (.data (.int .i64) y5) (.pr (.data (.int .i64) y6) .un)))),.nest (.sl true (.pair (.int .i64) (.pair (.int .i64) (.pair (.int .i64) .unit)))) y7 0 0 none,.row .bool o2_2 0,.row .bool o3_1 0])) x:=by kernel_rfl
theorem l30_22 (N:Nat):LoopOK (x30 N) (loopAt 22 (loopsOf b30)):=
 loop_mk (G30_22 N) (by kernel_rfl) (by kernel_rfl) (by kernel_rfl) fun R k d=>
  loop_eq (st:=fun (x:Int×Int×Int×(List (List (Int×(Int×(Int×Unit))))))=>([(88,(.data (.int .i64) x.1)),(12,(.data (.int .i64) d.1.2.1)),(19,(.data (.int .i64) d.1.2.2.1)),(11,(.bptr 0 [])),(86,(.data (.sl false (.int .i64)) d.1.2.2.2.2.1)),(18,(.ref 2 [] 0)),(17,(.ref 3 [] 0)),(0,(.data (.sl false (.sl false (.int .i64))) d.1.2.2.2.2.2.2.2.1)),(79,(.data (.int .i64) d.1.2.2.2.2.2.2.2.2.1)),(80,(.data (.int .i64) d.1.2.2.2.2.2.2.2.2.2.1)),(87,(.data (.int .i64) d.1.2.2.2.2.2.2.2.2.2.2.1))],[.cell (.agg (.pr (.nv false 1 [] 0) (.pr (.data (.int .i64) x.2.1) (.pr (.data (.int .i64) x.2.2.1) .un)))),.nest (.sl true (.pair (.int .i64) (.pair (.int .i64) (.pair (.int .i64) .unit)))) x.2.2.2 0 0 none,.row .bool d.2.2.2.1 0,.row .bool d.2.2.2.2.1 0])) (s30_22 N k d.1.2.1 d.1.2.2.1 d.1.2.2.2.2.1 d.1.2.2.2.2.2.2.2.1 d.1.2.2.2.2.2.2.2.2.1 d.1.2.2.2.2.2.2.2.2.2.1 d.1.2.2.2.2.2.2.2.2.2.2.1 d.2.2.2.1 d.2.2.2.2.1) N (d.1.1,d.2.1.2.1,d.2.1.2.2.1,d.2.2.1)
theorem s30_19 (N:Nat) {R:Type} (k:AExit→St→Option R) (t12_3:Int) (t0_3:List (List Int)) (t79:Int) (o2_1:List Bool) (o3:List Bool) (kb:List (Nat×AVal)→List Obj→Option R) (x:Int×Int×Int×(List (List (Int×(Int×(Int×Unit)))))):codeK (x30 N) (loopAt 19 (loopsOf b30)) (St.of [(12,(.data (.int .i64) t12_3)),(11,(.bptr 0 [])),(80,(.data (.int .i64) x.1)),(18,(.ref 2 [] 0)),(17,(.ref 3 [] 0)),(0,(.data (.sl false (.sl false (.int .i64))) t0_3)),(79,(.data (.int .i64) t79))] [.cell (.agg (.pr (.nv false 1 [] 0) (.pr (.data (.int .i64) x.2.1) (.pr (.data (.int .i64) x.2.2.1) .un)))),.nest (.sl true (.pair (.int .i64) (.pair (.int .i64) (.pair (.int .i64) .unit)))) x.2.2.2 0 0 none,.row .bool o2_1 0,.row .bool o3 0]) (kLoop (x30 N) 19 ⟨[12,11,80,18,17,0,79],[]⟩ kb k)=f30_L19 N t12_3 t0_3 t79 o2_1 o3 (fun y=>kb [(12,(.data (.int .i64) t12_3)),(11,(.bptr 0 [])),(80,(.data (.int .i64) y.1)),(18,(.ref 2 [] 0)),(17,(.ref 3 [] 0)),(0,(.data (.sl false (.sl false (.int .i64))) t0_3)),(79,(.data (.int .i64) t79))] [.cell (.agg (.pr (.nv false 1 [] 0) (.pr (.data (.int .i64) y.2.1) (.pr (.data (.int .i64) y.2.2.1) .un)))),.nest (.sl true (.pair (.int .i64) (.pair (.int .i64) (.pair (.int .i64) .unit)))) y.2.2.2 0 0 none,.row .bool o2_1 0,.row .bool o3 0])
  (fun y1 y2 y3=>k (.exit 4) (St.of [(12,(.data (.int .i64) t12_3)),(11,(.bptr 0 []))] [.cell (.agg (.pr (.nv false 1 [] 0) (.pr (.data (.int .i64) y1) (.pr (.data (.int .i64) y2) .un)))),.nest (.sl true (.pair (.int .i64) (.pair (.int .i64) (.pair (.int .i64) .unit)))) y3 0 0 none])) x:=by kernel_rfl
theorem l30_19 (N:Nat):LoopOK (x30 N) (loopAt 19 (loopsOf b30)):=
 loop_mk (G30_19 N) (by kernel_rfl) (by kernel_rfl) (by kernel_rfl) fun R k d=>
  loop_eq (st:=fun (x:Int×Int×Int×(List (List (Int×(Int×(Int×Unit))))))=>([(12,(.data (.int .i64) d.1.1)),(11,(.bptr 0 [])),(80,(.data (.int .i64) x.1)),(18,(.ref 2 [] 0)),(17,(.ref 3 [] 0)),(0,(.data (.sl false (.sl false (.int .i64))) d.1.2.2.2.2.2.1)),(79,(.data (.int .i64) d.1.2.2.2.2.2.2.1))],[.cell (.agg (.pr (.nv false 1 [] 0) (.pr (.data (.int .i64) x.2.1) (.pr (.data (.int .i64) x.2.2.1) .un)))),.nest (.sl true (.pair (.int .i64) (.pair (.int .i64) (.pair (.int .i64) .unit)))) x.2.2.2 0 0 none,.row .bool d.2.2.2.1 0,.row .bool d.2.2.2.2.1 0])) (s30_19 N k d.1.1 d.1.2.2.2.2.2.1 d.1.2.2.2.2.2.2.1 d.2.2.2.1 d.2.2.2.2.1) N (d.1.2.2.1,d.2.1.2.1,d.2.1.2.2.1,d.2.2.1)
theorem e30 (N:Nat) (t0:List (List Int)) (t1:List Int) (t2:List Int) (t3:List Int):bodyM (x30 N) fo30 b30 (St.of [(0,(.data (.sl false (.sl false (.int .i64))) t0)),(1,(.data (.sl false (.int .i64)) t1)),(2,(.data (.sl false (.int .i64)) t2)),(3,(.data (.sl false (.int .i64)) t3))] [])=f30 N t0 t1 t2 t3:=by kernel_rfl
theorem k30 (N:Nat):CalleeOK Go.Proofs.Try.prog 30 (c30 N):=
 fn_ok_mut (fn:=Go.Proofs.Try.f30) (body:=b30) (c:=x30 N) (rs:=[8,9]) Go.Proofs.Try.func30 (by kernel_rfl) (by kernel_rfl) ⟨ttL_ok,mtL_ok,eqL_ok,ctL_ok,msL_ok,env_cons (forall_mem1 (k22 N)) (env_cons (forall_mem1 (k46 N)) (env_cons (forall_mem1 (k41 N)) (env_nil)))⟩ mixed (by kernel_rfl) (Nat.le_of_ble_eq_true (by kernel_rfl)) (by kernel_rfl) (by kernel_rfl) (by kernel_rfl) (anchB_ok (by kernel_rfl))
  (loops_ok (by kernel_rfl:loopsOf b30=[loopAt 5 (loopsOf b30),loopAt 11 (loopsOf b30),loopAt 19 (loopsOf b30),loopAt 22 (loopsOf b30)]) (.cons (l30_5 N) (.cons (l30_11 N) (.cons (l30_19 N) (.cons (l30_22 N) .nil))))) fun d=>e30 N d.1.1 d.1.2.1 d.1.2.2.1 d.1.2.2.2.1
def f47_L3 {R:Type} (N:Nat) (t16:Int) (o1':Int) (o1'':Int) (o2:List (List (Int×(Int×(Int×Unit))))) (kb:Int×List (List Int)→Option R) (kx0:(List (List Int))→Option R):Int×List (List Int)→Option R:=
 fun (t17,o0)=>
  cond (decide (t17 < t16))
   (chk (inb o0 t17) <|
   (idx o0 t17).bind fun x=>
   (idx o0 t17).bind fun x_1=>
   kb ((wi64 (t17+1)),(setI o0 t17 ((-1) :: ((-1) :: ([]:List Int))))))
   (kx0 o0)
def f47_L13 {R:Type} (N:Nat) (t6:Int) (t55:Int) (t56:Int) (o2_2:List (List (Int×(Int×(Int×Unit))))) (o3':Int) (o3'':Int) (kb:Int×List Int×List (List Int)→Option R) (kx4:(List (List Int))→(List Int)→Option R):Int×List Int×List (List Int)→Option R:=
 fun (t57,o0_3,o1_1)=>
  cond (decide (t57 < t56))
   ((idx o2_2 t55).bind fun x_7=>
   chk (inb x_7 t57) <|
   (idx o2_2 t55).bind fun x_8=>
   (idx x_8 t57).bind fun x_9=>
   (cond (decide (0 < x_9.2.1))
     (chk (inb o1_1 x_9.1) <|
     (idx o1_1 x_9.1).bind fun x_10=>
     chk (inb x_10 0) <|
     (idx o1_1 x_9.1).bind fun x_11=>
     (idx x_11 0).bind fun x_12=>
     some (decide (x_12 < 0)))
     (some false)).bind fun b=>
   cond b
    (chk (inb o1_1 x_9.1) <|
    (idx o1_1 x_9.1).bind fun x_13=>
    (idx o1_1 x_9.1).bind fun x_14=>
    chk (decide ((Nat.succ (List.length o0_3))≤room)) <|
    kb ((wi64 (t57+1)),(o0_3++(x_9.1 :: ([]:List Int))),(setI o1_1 x_9.1 (t6 :: (t57 :: ([]:List Int))))))
    (kb ((wi64 (t57+1)),o0_3,o1_1)))
   (kx4 o1_1 o0_3)
def f47_L9 {R:Type} (N:Nat) (o1'_1:Int) (o1''_1:Int) (o2_1:List (List (Int×(Int×(Int×Unit))))) (kb:List (List Int)×List Int→Option R) (kx2:(List (List Int))→Option R):List (List Int)×List Int→Option R:=
 fun (o0_2,o3)=>
  cond (decide (0 < (len o3)))
   (chk (inb o3 0) <|
   (idx o3 0).bind fun x_4=>
   chk ((decide (1≤(len o3))) && (decide ((len o3)≤(len o3)))) <|
   chk (inb o2_1 x_4) <|
   (idx o2_1 x_4).bind fun x_5=>
   (idx o2_1 x_4).bind fun x_6=>
   iter (fun w=>f47_L13 N x_4 x_4 (len x_6) o2_1 o1'_1 o1''_1 w
    (fun o0_4 o3_1=>
     kb (o0_4,o3_1))) N (0,(sub o3 1 (len o3)),o0_2))
   (kx2 o0_2)
def f47 (N:Nat) (o0':Int) (o0'':Int) (o1:List (List (Int×(Int×(Int×Unit))))):Option (((Unit×(Unit×Unit))×((Unit×(Int×(Int×Unit)))×((List (List (Int×(Int×(Int×Unit)))))×((List (List Int))×Unit))))):=
 chk (((decide (0≤(len o1))) && (decide ((len o1)≤(len o1)))) && (decide ((len o1)≤((room:Nat):Int)))) <|
 iter (fun w=>f47_L3 N (len (List.replicate (Int.toNat (len o1)) (List.replicate 2 0:List Int):List (List Int))) o0' o0'' o1 w
  (fun o0_1=>
   chk (inb o0_1 o0') <|
   (idx o0_1 o0').bind fun x_2=>
   (idx o0_1 o0').bind fun x_3=>
   iter (fun w=>f47_L9 N o0' o0'' o1 w
    (fun o2_3=>
     some (((),((),())),(((),(o0',(o0'',()))),(o1,(o2_3,())))))) N ((setI o0_1 o0' (o0' :: ((-1) :: ([]:List Int)))),(o0' :: ([]:List Int))))) N (0,(List.replicate (Int.toNat (len o1)) (List.replicate 2 0:List Int):List (List Int)))
def fi47:SForm:=⟨[(0,(.bptr 0 []))],[.cell (.agg (.pr (.nv 1) (.pr (.val (.int .i64)) (.pr (.val (.int .i64)) .un)))),.nest (.sl true (.pair (.int .i64) (.pair (.int .i64) (.pair (.int .i64) .unit))))]⟩
def fo47:SForm:=⟨[(0,(.bptr 0 [])),(2,(.ref 2))],[.cell (.agg (.pr (.nv 1) (.pr (.val (.int .i64)) (.pr (.val (.int .i64)) .un)))),.nest (.sl true (.pair (.int .i64) (.pair (.int .i64) (.pair (.int .i64) .unit)))),.row (.arr 2 (.int .i64))]⟩
def c47 (N:Nat):Callee:=.mut fi47 [0] fo47 fun d=>f47 N d.2.1.2.1 d.2.1.2.2.1 d.2.2.1
def F47_3:SForm:=⟨[(17,(.val (.int .i64))),(3,(.ref 0)),(0,(.bptr 1 [])),(16,(.val (.int .i64)))],[.row (.arr 2 (.int .i64)),.cell (.agg (.pr (.nv 2) (.pr (.val (.int .i64)) (.pr (.val (.int .i64)) .un)))),.nest (.sl true (.pair (.int .i64) (.pair (.int .i64) (.pair (.int .i64) .unit))))]⟩
def G47_3 (N:Nat):(R:Type)→F47_3.den→(AExit→St→Option R)→Option R:=fun R d k=>iter (fun kb=>f47_L3 N d.1.2.2.2.1 d.2.2.1.2.1 d.2.2.1.2.2.1 d.2.2.2.1 kb
  (fun y0=>k (.exit 0) (St.of [(3,(.ref 0 [] 0)),(0,(.bptr 1 []))] [.row (.arr 2 (.int .i64)) y0 0,.cell (.agg (.pr (.nv false 2 [] 0) (.pr (.data (.int .i64) d.2.2.1.2.1) (.pr (.data (.int .i64) d.2.2.1.2.2.1) .un)))),.nest (.sl true (.pair (.int .i64) (.pair (.int .i64) (.pair (.int .i64) .unit)))) d.2.2.2.1 0 0 none]))) N (d.1.1,d.2.1)
def F47_13:SForm:=⟨[(57,(.val (.int .i64))),(5,(.ref 0)),(6,(.val (.int .i64))),(3,(.ref 1)),(55,(.nvi 2)),(0,(.bptr 3 [])),(56,(.val (.int .i64)))],[.row (.int .i64),.row (.arr 2 (.int .i64)),.nest (.sl true (.pair (.int .i64) (.pair (.int .i64) (.pair (.int .i64) .unit)))),.cell (.agg (.pr (.nv 2) (.pr (.val (.int .i64)) (.pr (.val (.int .i64)) .un))))]⟩
def G47_13 (N:Nat):(R:Type)→F47_13.den→(AExit→St→Option R)→Option R:=fun R d k=>iter (fun kb=>f47_L13 N d.1.2.2.1 d.1.2.2.2.2.1 d.1.2.2.2.2.2.2.1 d.2.2.2.1 d.2.2.2.2.1.2.1 d.2.2.2.2.1.2.2.1 kb
  (fun y0 y4=>k (.exit 4) (St.of [(3,(.ref 0 [] 0)),(0,(.bptr 1 [])),(5,(.ref 3 [] 0))] [.row (.arr 2 (.int .i64)) y0 0,.cell (.agg (.pr (.nv false 2 [] 0) (.pr (.data (.int .i64) d.2.2.2.2.1.2.1) (.pr (.data (.int .i64) d.2.2.2.2.1.2.2.1) .un)))),.nest (.sl true (.pair (.int .i64) (.pair (.int .i64) (.pair (.int .i64) .unit)))) d.2.2.2.1 0 0 none,.row (.int .i64) y4 0]))) N (d.1.1,d.2.1,d.2.2.1)
def F47_9:SForm:=⟨[(3,(.ref 0)),(0,(.bptr 1 [])),(5,(.ref 3))],[.row (.arr 2 (.int .i64)),.cell (.agg (.pr (.nv 2) (.pr (.val (.int .i64)) (.pr (.val (.int .i64)) .un)))),.nest (.sl true (.pair (.int .i64) (.pair (.int .i64) (.pair (.int .i64) .unit)))),.row (.int .i64)]⟩
def G47_9 (N:Nat):(R:Type)→F47_9.den→(AExit→St→Option R)→Option R:=fun R d k=>iter (fun kb=>f47_L9 N d.2.2.1.2.1 d.2.2.1.2.2.1 d.2.2.2.1 kb
  (fun y3=>k (.exit 2) (St.of [(0,(.bptr 0 [])),(3,(.ref 2 [] 0))] [.cell (.agg (.pr (.nv false 1 [] 0) (.pr (.data (.int .i64) d.2.2.1.2.1) (.pr (.data (.int .i64) d.2.2.1.2.2.1) .un)))),.nest (.sl true (.pair (.int .i64) (.pair (.int .i64) (.pair (.int .i64) .unit)))) d.2.2.2.1 0 0 none,.row (.arr 2 (.int .i64)) y3 0]))) N (d.2.1,d.2.2.2.2.1)
def lp47 (N:Nat):Nat→Option LoopFn:=fun r=>cond (Nat.beq r 3) (some fun R sl os k=>F47_3.take sl os fun d=>G47_3 N R d k) (cond (Nat.beq r 13) (some fun R sl os k=>F47_13.take sl os fun d=>G47_13 N R d k) (cond (Nat.beq r 9) (some fun R sl os k=>F47_9.take sl os fun d=>G47_9 N R d k) (none)))
def x47 (N:Nat):Ctx:={ fuel:=N,tt:=getL ttL,mt:=getL mtL,ntmps:=88,env:=fun f=>(getL [] f).getD [],cut:=getL [(3,⟨[17,3,0,16],[]⟩),(9,⟨[3,0,5],[]⟩),(13,⟨[57,5,6,3,55,0,56],[(5,none,.row (.int .i64))]⟩)],exits:=fun r=>getL ((getL [(3,[(0,⟨[3,0],[]⟩)]),(9,[(2,⟨[0,3],[]⟩)]),(13,[(4,⟨[3,0,5],[]⟩)])] r).getD []),res:=⟨[0,2],[]⟩,own:=fun _=>none,lp:=lp47 N,eqs:=fun T=>memN T eqL,ct:=fun T=>memN T ctL,ms:=getMs msL }
noncomputable def b47:Code:=((Go.Proofs.Try.f47).body).getD .skip
theorem s47_3 (N:Nat) {R:Type} (k:AExit→St→Option R) (t16:Int) (o1':Int) (o1'':Int) (o2:List (List (Int×(Int×(Int×Unit))))) (kb:List (Nat×AVal)→List Obj→Option R) (x:Int×List (List Int)):codeK (x47 N) (loopAt 3 (loopsOf b47)) (St.of [(17,(.data (.int .i64) x.1)),(3,(.ref 0 [] 0)),(0,(.bptr 1 [])),(16,(.data (.int .i64) t16))] [.row (.arr 2 (.int .i64)) x.2 0,.cell (.agg (.pr (.nv false 2 [] 0) (.pr (.data (.int .i64) o1') (.pr (.data (.int .i64) o1'') .un)))),.nest (.sl true (.pair (.int .i64) (.pair (.int .i64) (.pair (.int .i64) .unit)))) o2 0 0 none]) (kLoop (x47 N) 3 ⟨[17,3,0,16],[]⟩ kb k)=f47_L3 N t16 o1' o1'' o2 (fun y=>kb [(17,(.data (.int .i64) y.1)),(3,(.ref 0 [] 0)),(0,(.bptr 1 [])),(16,(.data (.int .i64) t16))] [.row (.arr 2 (.int .i64)) y.2 0,.cell (.agg (.pr (.nv false 2 [] 0) (.pr (.data (.int .i64) o1') (.pr (.data (.int .i64) o1'') .un)))),.nest (.sl true (.pair (.int .i64) (.pair (.int .i64) (.pair (.int .i64) .unit)))) o2 0 0 none])
  (fun y0=>k (.exit 0) (St.of [(3,(.ref 0 [] 0)),(0,(.bptr 1 []))] [.row (.arr 2 (.int .i64)) y0 0,.cell (.agg (.pr (.nv false 2 [] 0) (.pr (.data (.int .i64) o1') (.pr (.data (.int .i64) o1'') .un)))),.nest (.sl true (.pair (.int .i64) (.pair (.int .i64) (.pair (.int .i64) .unit)))) o2 0 0 none])) x:=by kernel_rfl
theorem l47_3 (N:Nat):LoopOK (x47 N) (loopAt 3 (loopsOf b47)):=
 loop_mk (G47_3 N) (by kernel_rfl) (by kernel_rfl) (by kernel_rfl) fun R k d=>
  loop_eq (st:=fun (x:Int×List (List Int))=>([(17,(.data (.int .i64) x.1)),(3,(.ref 0 [] 0)),(0,(.bptr 1 [])),(16,(.data (.int .i64) d.1.2.2.2.1))],[.row (.arr 2 (.int .i64)) x.2 0,.cell (.agg (.pr (.nv false 2 [] 0) (.pr (.data (.int .i64) d.2.2.1.2.1) (.pr (.data (.int .i64) d.2.2.1.2.2.1) .un)))),.nest (.sl true (.pair (.int .i64) (.pair (.int .i64) (.pair (.int .i64) .unit)))) d.2.2.2.1 0 0 none])) (s47_3 N k d.1.2.2.2.1 d.2.2.1.2.1 d.2.2.1.2.2.1 d.2.2.2.1) N (d.1.1,d.2.1)
theorem s47_13 (N:Nat) {R:Type} (k:AExit→St→Option R) (t6:Int) (t55:Int) (t56:Int) (o2_2:List (List (Int×(Int×(Int×Unit))))) (o3':Int) (o3'':Int) (kb:List (Nat×AVal)→List Obj→Option R) (x:Int×List Int×List (List Int)):codeK (x47 N) (loopAt 13 (loopsOf b47)) (St.of [(57,(.data (.int .i64) x.1)),(5,(.ref 0 [] 0)),(6,(.data (.int .i64) t6)),(3,(.ref 1 [] 0)),(55,(.nv false 2 [.idx t55] 0)),(0,(.bptr 3 [])),(56,(.data (.int .i64) t56))] [.row (.int .i64) x.2.1 0,.row (.arr 2 (.int .i64)) x.2.2 0,.nest (.sl true (.pair (.int .i64) (.pair (.int .i64) (.pair (.int .i64) .unit)))) o2_2 0 0 none,.cell (.agg (.pr (.nv false 2 [] 0) (.pr (.data (.int .i64) o3') (.pr (.data (.int .i64) o3'') .un))))]) (kLoop (x47 N) 13 ⟨[57,5,6,3,55,0,56],[(5,none,.row (.int .i64))]⟩ kb k)=f47_L13 N t6 t55 t56 o2_2 o3' o3'' (fun y=>kb [(57,(.data (.int .i64) y.1)),(5,(.ref 0 [] 0)),(6,(.data (.int .i64) t6)),(3,(.ref 1 [] 0)),(55,(.nv false 2 [.idx t55] 0)),(0,(.bptr 3 [])),(56,(.data (.int .i64) t56))] [.row (.int .i64) y.2.1 0,.row (.arr 2 (.int .i64)) y.2.2 0,.nest (.sl true (.pair (.int .i64) (.pair (.int .i64) (.pair (.int .i64) .unit)))) o2_2 0 0 none,.cell (.agg (.pr (.nv false 2 [] 0) (.pr (.data (.int .i64) o3') (.pr (.data (.int .i64) o3'') .un))))])
  (fun y0 y4=>k (.exit 4) (St.of [(3,(.ref 0 [] 0)),(0,(.bptr 1 [])),(5,(.ref 3 [] 0))] [.row (.arr 2 (.int .i64)) y0 0,.cell (.agg (.pr (.nv false 2 [] 0) (.pr (.data (.int .i64) o3') (.pr (.data (.int .i64) o3'') .un)))),.nest (.sl true (.pair (.int .i64) (.pair (.int .i64) (.pair (.int .i64) .unit)))) o2_2 0 0 none,.row (.int .i64) y4 0])) x:=by kernel_rfl
theorem l47_13 (N:Nat):LoopOK (x47 N) (loopAt 13 (loopsOf b47)):=
 loop_mk (G47_13 N) (by kernel_rfl) (by kernel_rfl) (by kernel_rfl) fun R k d=>
  loop_eq (st:=fun (x:Int×List Int×List (List Int))=>([(57,(.data (.int .i64) x.1)),(5,(.ref 0 [] 0)),(6,(.data (.int .i64) d.1.2.2.1)),(3,(.ref 1 [] 0)),(55,(.nv false 2 [.idx d.1.2.2.2.2.1] 0)),(0,(.bptr 3 [])),(56,(.data (.int .i64) d.1.2.2.2.2.2.2.1))],[.row (.int .i64) x.2.1 0,.row (.arr 2 (.int .i64)) x.2.2 0,.nest (.sl true (.pair (.int .i64) (.pair (.int .i64) (.pair (.int .i64) .unit)))) d.2.2.2.1 0 0 none,.cell (.agg (.pr (.nv false 2 [] 0) (.pr (.data (.int .i64) d.2.2.2.2.1.2.1) (.pr (.data (.int .i64) d.2.2.2.2.1.2.2.1) .un))))])) (s47_13 N k d.1.2.2.1 d.1.2.2.2.2.1 d.1.2.2.2.2.2.2.1 d.2.2.2.1 d.2.2.2.2.1.2.1 d.2.2.2.2.1.2.2.1) N (d.1.1,d.2.1,d.2.2.1)
theorem s47_9 (N:Nat) {R:Type} (k:AExit→St→Option R) (o1'_1:Int) (o1''_1:Int) (o2_1:List (List (Int×(Int×(Int×Unit))))) (kb:List (Nat×AVal)→List Obj→Option R) (x:List (List Int)×List Int):codeK (x47 N) (loopAt 9 (loopsOf b47)) (St.of [(3,(.ref 0 [] 0)),(0,(.bptr 1 [])),(5,(.ref 3 [] 0))] [.row (.arr 2 (.int .i64)) x.1 0,.cell (.agg (.pr (.nv false 2 [] 0) (.pr (.data (.int .i64) o1'_1) (.pr (.data (.int .i64) o1''_1) .un)))),.nest (.sl true (.pair (.int .i64) (.pair (.int .i64) (.pair (.int .i64) .unit)))) o2_1 0 0 none,.row (.int .i64) x.2 0]) (kLoop (x47 N) 9 ⟨[3,0,5],[]⟩ kb k)=f47_L9 N o1'_1 o1''_1 o2_1 (fun y=>kb [(3,(.ref 0 [] 0)),(0,(.bptr 1 [])),(5,(.ref 3 [] 0))] [.row (.arr 2 (.int .i64)) y.1 0,.cell (.agg (.pr (.nv false 2 [] 0) (.pr (.data (.int .i64) o1'_1) (.pr (.data (.int .i64) o1''_1) .un)))),.nest (.sl true (.pair (.int .i64) (.pair (.int .i64) (.pair (.int .i64) .unit)))) o2_1 0 0 none,.row (.int .i64) y.2 0])
  (fun y3=>k (.exit 2) (St.of [(0,(.bptr 0 [])),(3,(.ref 2 [] 0))] [.cell (.agg (.pr (.nv false 1 [] 0) (.pr (.data (.int .i64) o1'_1) (.pr (.data (.int .i64) o1''_1) .un)))),.nest (.sl true (.pair (.int .i64) (.pair (.int .i64) (.pair (.int .i64) .unit)))) o2_1 0 0 none,.row (.arr 2 (.int .i64)) y3 0])) x:=by kernel_rfl
theorem l47_9 (N:Nat):LoopOK (x47 N) (loopAt 9 (loopsOf b47)):=
 loop_mk (G47_9 N) (by kernel_rfl) (by kernel_rfl) (by kernel_rfl) fun R k d=>
  loop_eq (st:=fun (x:List (List Int)×List Int)=>([(3,(.ref 0 [] 0)),(0,(.bptr 1 [])),(5,(.ref 3 [] 0))],[.row (.arr 2 (.int .i64)) x.1 0,.cell (.agg (.pr (.nv false 2 [] 0) (.pr (.data (.int .i64) d.2.2.1.2.1) (.pr (.data (.int .i64) d.2.2.1.2.2.1) .un)))),.nest (.sl true (.pair (.int .i64) (.pair (.int .i64) (.pair (.int .i64) .unit)))) d.2.2.2.1 0 0 none,.row (.int .i64) x.2 0])) (s47_9 N k d.2.2.1.2.1 d.2.2.1.2.2.1 d.2.2.2.1) N (d.2.1,d.2.2.2.2.1)
theorem e47 (N:Nat) (o0':Int) (o0'':Int) (o1:List (List (Int×(Int×(Int×Unit))))):bodyM (x47 N) fo47 b47 (St.of [(0,(.bptr 0 []))] [.cell (.agg (.pr (.nv false 1 [] 0) (.pr (.data (.int .i64) o0') (.pr (.data (.int .i64) o0'') .un)))),.nest (.sl true (.pair (.int .i64) (.pair (.int .i64) (.pair (.int .i64) .unit)))) o1 0 0 none])=f47 N o0' o0'' o1:=by kernel_rfl
theorem k47 (N:Nat):CalleeOK Go.Proofs.Try.prog 47 (c47 N):=
 fn_ok_mut (fn:=Go.Proofs.Try.f47) (body:=b47) (c:=x47 N) (rs:=[2]) Go.Proofs.Try.func47 (by kernel_rfl) (by kernel_rfl) ⟨ttL_ok,mtL_ok,eqL_ok,ctL_ok,msL_ok,env_nil⟩ mixed (by kernel_rfl) (Nat.le_of_ble_eq_true (by kernel_rfl)) (by kernel_rfl) (by kernel_rfl) (by kernel_rfl) (anchB_ok (by kernel_rfl))
  (loops_ok (by kernel_rfl:loopsOf b47=[loopAt 3 (loopsOf b47),loopAt 9 (loopsOf b47),loopAt 13 (loopsOf b47)]) (.cons (l47_3 N) (.cons (l47_9 N) (.cons (l47_13 N) .nil)))) fun d=>e47 N d.2.1.2.1 d.2.1.2.2.1 d.2.2.1
def f48 (N:Nat) (t1:Int) (t2:Int) (t3:Int) (o0':Int) (o0'':Int) (o1:List (List (Int×(Int×(Int×Unit))))):Option (((Unit×Unit)×((Unit×(Int×(Int×Unit)))×((List (List (Int×(Int×(Int×Unit)))))×Unit)))):=
 chk (inb o1 t1) <|
 (idx o1 t1).bind fun x=>
 (idx o1 t1).bind fun x_1=>
 chk (inb x_1 t2) <|
 (idx o1 t1).bind fun x_2=>
 (idx x_2 t2).bind fun x_3=>
 (idx o1 t1).bind fun x_4=>
 (idx x_4 t2).bind fun x_5=>
 (idx o1 t1).bind fun x_6=>
 (idx x_6 t2).bind fun x_7=>
 (idx o1 t1).bind fun x_8=>
 (idx x_8 t2).bind fun x_9=>
 (idx x_8 t2).bind fun x_10=>
 (idx o1 t1).bind fun x_11=>
 (idx (setI o1 t1 (setI x_8 t2 (x_10.1,((wi64 (x_5.2.1-t3)),x_10.2.2)))) t1).bind fun x_12=>
 (idx x_12 t2).bind fun x_13=>
 (idx (setI o1 t1 (setI x_8 t2 (x_10.1,((wi64 (x_5.2.1-t3)),x_10.2.2)))) t1).bind fun x_14=>
 (idx x_14 t2).bind fun x_15=>
 chk (inb (setI o1 t1 (setI x_8 t2 (x_10.1,((wi64 (x_5.2.1-t3)),x_10.2.2)))) x_15.1) <|
 (idx (setI o1 t1 (setI x_8 t2 (x_10.1,((wi64 (x_5.2.1-t3)),x_10.2.2)))) x_15.1).bind fun x_16=>
 (idx (setI o1 t1 (setI x_8 t2 (x_10.1,((wi64 (x_5.2.1-t3)),x_10.2.2)))) t1).bind fun x_17=>
 (idx x_17 t2).bind fun x_18=>
 (idx (setI o1 t1 (setI x_8 t2 (x_10.1,((wi64 (x_5.2.1-t3)),x_10.2.2)))) t1).bind fun x_19=>
 (idx x_19 t2).bind fun x_20=>
 (idx (setI o1 t1 (setI x_8 t2 (x_10.1,((wi64 (x_5.2.1-t3)),x_10.2.2)))) x_15.1).bind fun x_21=>
 chk (inb x_21 x_20.2.2.1) <|
 (idx (setI o1 t1 (setI x_8 t2 (x_10.1,((wi64 (x_5.2.1-t3)),x_10.2.2)))) x_15.1).bind fun x_22=>
 (idx x_22 x_20.2.2.1).bind fun x_23=>
 (idx (setI o1 t1 (setI x_8 t2 (x_10.1,((wi64 (x_5.2.1-t3)),x_10.2.2)))) x_15.1).bind fun x_24=>
 (idx x_24 x_20.2.2.1).bind fun x_25=>
 (idx (setI o1 t1 (setI x_8 t2 (x_10.1,((wi64 (x_5.2.1-t3)),x_10.2.2)))) x_15.1).bind fun x_26=>
 chk (inb x_26 x_20.2.2.1) <|
 (idx (setI o1 t1 (setI x_8 t2 (x_10.1,((wi64 (x_5.2.1-t3)),x_10.2.2)))) x_15.1).bind fun x_27=>
 (idx x_27 x_20.2.2.1).bind fun x_28=>
 (idx (setI o1 t1 (setI x_8 t2 (x_10.1,((wi64 (x_5.2.1-t3)),x_10.2.2)))) x_15.1).bind fun x_29=>
 (idx x_29 x_20.2.2.1).bind fun x_30=>
 (idx x_29 x_20.2.2.1).bind fun x_31=>
 (idx (setI o1 t1 (setI x_8 t2 (x_10.1,((wi64 (x_5.2.1-t3)),x_10.2.2)))) x_15.1).bind fun x_32=>
 some (((),()),(((),(o0',(o0'',()))),((setI (setI o1 t1 (setI x_8 t2 (x_10.1,((wi64 (x_5.2.1-t3)),x_10.2.2)))) x_15.1 (setI x_29 x_20.2.2.1 (x_31.1,((wi64 (x_25.2.1+t3)),x_31.2.2)))),())))
def fi48:SForm:=⟨[(0,(.bptr 0 [])),(1,(.val (.int .i64))),(2,(.val (.int .i64))),(3,(.val (.int .i64)))],[.cell (.agg (.pr (.nv 1) (.pr (.val (.int .i64)) (.pr (.val (.int .i64)) .un)))),.nest (.sl true (.pair (.int .i64) (.pair (.int .i64) (.pair (.int .i64) .unit))))]⟩
def fo48:SForm:=⟨[(0,(.bptr 0 []))],[.cell (.agg (.pr (.nv 1) (.pr (.val (.int .i64)) (.pr (.val (.int .i64)) .un)))),.nest (.sl true (.pair (.int .i64) (.pair (.int .i64) (.pair (.int .i64) .unit))))]⟩
def c48 (N:Nat):Callee:=.mut fi48 [0] fo48 fun d=>f48 N d.1.2.1 d.1.2.2.1 d.1.2.2.2.1 d.2.1.2.1 d.2.1.2.2.1 d.2.2.1
def lp48 (N:Nat):Nat→Option LoopFn:=fun r=>none
def x48 (N:Nat):Ctx:={ fuel:=N,tt:=getL ttL,mt:=getL mtL,ntmps:=47,env:=fun f=>(getL [] f).getD [],cut:=getL [],exits:=fun r=>getL ((getL [] r).getD []),res:=⟨[0],[]⟩,own:=fun _=>none,lp:=lp48 N,eqs:=fun T=>memN T eqL,ct:=fun T=>memN T ctL,ms:=getMs msL }
noncomputable def b48:Code:=((Go.Proofs.Try.f48).body).getD .skip
theorem e48 (N:Nat) (t1:Int) (t2:Int) (t3:Int) (o0':Int) (o0'':Int) (o1:List (List (Int×(Int×(Int×Unit))))):bodyM (x48 N) fo48 b48 (St.of [(0,(.bptr 0 [])),(1,(.data (.int .i64) t1)),(2,(.data (.int .i64) t2)),(3,(.data (.int .i64) t3))] [.cell (.agg (.pr (.nv false 1 [] 0) (.pr (.data (.int .i64) o0') (.pr (.data (.int .i64) o0'') .un)))),.nest (.sl true (.pair (.int .i64) (.pair (.int .i64) (.pair (.int .i64) .unit)))) o1 0 0 none])=f48 N t1 t2 t3 o0' o0'' o1:=by kernel_rfl
theorem k48 (N:Nat):CalleeOK Go.Proofs.Try.prog 48 (c48 N):=
 fn_ok_mut (fn:=Go.Proofs.Try.f48) (body:=b48) (c:=x48 N) (rs:=[]) Go.Proofs.Try.func48 (by kernel_rfl) (by kernel_rfl) ⟨ttL_ok,mtL_ok,eqL_ok,ctL_ok,msL_ok,env_nil⟩ mixed (by kernel_rfl) (Nat.le_of_ble_eq_true (by kernel_rfl)) (by kernel_rfl) (by kernel_rfl) (by kernel_rfl) (anchB_ok (by kernel_rfl))
  (loops_ok (by kernel_rfl:loopsOf b48=[]) .nil) fun d=>e48 N d.1.2.1 d.1.2.2.1 d.1.2.2.2.1 d.2.1.2.1 d.2.1.2.2.1 d.2.2.1
end
end Go.Kz
