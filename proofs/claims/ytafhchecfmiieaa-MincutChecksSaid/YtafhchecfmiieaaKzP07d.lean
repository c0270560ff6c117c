/-
  The functions of the program as plain functions on lists and numbers, and the proofs that the program computes them. Printed by a program.
-/
import Derived.Test.YtafhchecfmiieaaKzP07c
set_option linter.unusedSimpArgs false
set_option maxRecDepth 100000
set_option linter.unusedVariables false
namespace Go.Kz
open Go.Proofs
noncomputable section
def f25_L11 {R:Type} (N:Nat) (t1:List Int) (t14:List (List Int)) (t57:List (List Int×(Int×Unit))) (t4:List Int) (t58:Int) (kb:Int×Int×List Int×List Bool×List Bool→Option R) (kret:Int→Option R) (kx0:Int→Option R):Int×Int×List Int×List Bool×List Bool→Option R:=
 fun (t59,t19,o0,o1,o2)=>
  cond (decide (t59 < t58))
   ((idx t57 t59).bind fun x=>
   (f43 N t14 t1 x o2 o1 o0).bind fun r_5=>
   cond (!r_5.1.2.2.2.1)
    (kret 13)
    (kb ((wi64 (t59+1)),(wi64 (t19+x.2.1)),r_5.2.2.2.1,r_5.2.2.1,r_5.2.1)))
   (kx0 t19)
def f25_L19 {R:Type} (N:Nat) (t1_1:List Int) (t76:List Int) (t19_2:Int) (t77:Int) (kb:Int×Int→Option R) (kx2:Int→Option R):Int×Int→Option R:=
 fun (t78,t22)=>
  cond (decide (t78 < t77))
   ((idx t76 t78).bind fun x_1=>
   (idx t1_1 x_1).bind fun x_2=>
   kb ((wi64 (t78+1)),(wi64 (t22+x_2))))
   (kx2 t22)
def f25 (N:Nat) (a0:(Int×(List (List Int)×Unit))) (a1:List Int) (a2:List Int) (a3:List Int) (a4:List Int) (a5:List (List Int×(Int×Unit))):Option (Int):=
 (f27 N a0 a1 (a2 :: (a3 :: ([]:List (List Int))))).bind fun r=>
 cond (!(decide (r=0)))
  (some r)
  ((f28 N a0).bind fun r_1=>
  (f42 N r_1.1 a1 a2 a3 a4).bind fun r_2=>
  cond (!r_2)
   (some 13)
   ((f41 N a0.1 a2).bind fun r_3=>
   (f41 N a0.1 a3).bind fun r_4=>
   chk (((decide (0≤a0.1)) && (decide (a0.1≤a0.1))) && (decide (a0.1≤((room:Nat):Int)))) <|
   iter (fun w=>f25_L11 N a1 r_1.1 a5 a4 (len a5) w
    (fun t12=>
     some t12)
    (fun t19_1=>
     iter (fun w=>f25_L19 N a1 a4 t19_1 (len a4) w
      (fun t22_1=>
       cond (!(decide (t19_1=t22_1)))
        (some 13)
        (some 0))) N (0,0))) N (0,0,(List.replicate (Int.toNat a0.1) 0:List Int),r_4,r_3)))
def c25 (N:Nat):Callee:=.pure (.pr (.val (.pair (.int .i64) (.pair (.sl false (.arr 2 (.int .i64))) .unit))) (.pr (.val (.sl false (.int .i64))) (.pr (.val (.sl false (.int .i64))) (.pr (.val (.sl false (.int .i64))) (.pr (.val (.sl false (.int .i64))) (.pr (.val (.sl false (.pair (.sl false (.int .i64)) (.pair (.int .i64) .unit)))) .un)))))) [(.int .i64)] fun d=>f25 N d.1 d.2.1 d.2.2.1 d.2.2.2.1 d.2.2.2.2.1 d.2.2.2.2.2.1
def F25_11:SForm:=⟨[(59,(.val (.int .i64))),(19,(.val (.int .i64))),(18,(.ref 0)),(17,(.ref 1)),(16,(.ref 2)),(1,(.val (.sl false (.int .i64)))),(14,(.val (.sl false (.sl false (.int .i64))))),(57,(.val (.sl false (.pair (.sl false (.int .i64)) (.pair (.int .i64) .unit))))),(4,(.val (.sl false (.int .i64)))),(58,(.val (.int .i64)))],[.row (.int .i64),.row .bool,.row .bool]⟩
def G25_11 (N:Nat):(R:Type)→F25_11.den→(AExit→St→Option R)→Option R:=fun R d k=>iter (fun kb=>f25_L11 N d.1.2.2.2.2.2.1 d.1.2.2.2.2.2.2.1 d.1.2.2.2.2.2.2.2.1 d.1.2.2.2.2.2.2.2.2.1 d.1.2.2.2.2.2.2.2.2.2.1 kb
  (fun y0=>k .ret (St.of [(12,(.data (.int .i64) y0))] []))
  (fun y1=>k (.exit 0) (St.of [(1,(.data (.sl false (.int .i64)) d.1.2.2.2.2.2.1)),(19,(.data (.int .i64) y1)),(4,(.data (.sl false (.int .i64)) d.1.2.2.2.2.2.2.2.2.1))] []))) N (d.1.1,d.1.2.1,d.2.1,d.2.2.1,d.2.2.2.1)
def F25_19:SForm:=⟨[(78,(.val (.int .i64))),(1,(.val (.sl false (.int .i64)))),(22,(.val (.int .i64))),(76,(.val (.sl false (.int .i64)))),(19,(.val (.int .i64))),(77,(.val (.int .i64)))],[]⟩
def G25_19 (N:Nat):(R:Type)→F25_19.den→(AExit→St→Option R)→Option R:=fun R d k=>iter (fun kb=>f25_L19 N d.1.2.1 d.1.2.2.2.1 d.1.2.2.2.2.1 d.1.2.2.2.2.2.1 kb
  (fun y0=>k (.exit 2) (St.of [(22,(.data (.int .i64) y0)),(19,(.data (.int .i64) d.1.2.2.2.2.1))] []))) N (d.1.1,d.1.2.2.1)
def lp25 (N:Nat):Nat→Option LoopFn:=fun r=>cond (Nat.beq r 11) (some fun R sl os k=>F25_11.take sl os fun d=>G25_11 N R d k) (cond (Nat.beq r 19) (some fun R sl os k=>F25_19.take sl os fun d=>G25_19 N R d k) (none))
def x25 (N:Nat):Ctx:={ fuel:=N,tt:=getL ttL,mt:=getL mtL,ntmps:=92,env:=fun f=>(getL [(27,[c27 N]),(28,[c28 N]),(42,[c42 N]),(41,[c41 N]),(43,[c43 N])] f).getD [],cut:=getL [(11,⟨[59,19,18,17,16,1,14,57,4,58],[]⟩),(19,⟨[78,1,22,76,19,77],[]⟩)],exits:=fun r=>getL ((getL [(11,[(0,⟨[1,19,4],[]⟩)]),(19,[(2,⟨[22,19],[]⟩)])] r).getD []),res:=⟨[12],[]⟩,own:=fun _=>none,lp:=lp25 N,eqs:=fun T=>memN T eqL,ct:=fun T=>memN T ctL,ms:=getMs msL }
noncomputable def b25:Code:=((Go.Proofs.Try.f25).body).getD .skip
theorem s25_11 (N:Nat) {R:Type} (k:AExit→St→Option R) (t1:List Int) (t14:List (List Int)) (t57:List (List Int×(Int×Unit))) (t4:List Int) (t58:Int) (kb:List (Nat×AVal)→List Obj→Option R) (x:Int×Int×List Int×List Bool×List Bool):codeK (x25 N) (loopAt 11 (loopsOf b25)) (St.of [(59,(.data (.int .i64) x.1)),(19,(.data (.int .i64) x.2.1)),(18,(.ref 0 [] 0)),(17,(.ref 1 [] 0)),(16,(.ref 2 [] 0)),(1,(.data (.sl false (.int .i64)) t1)),(14,(.data (.sl false (.sl false (.int .i64))) t14)),(57,(.data (.sl false (.pair (.sl false (.int .i64)) (.pair (.int .i64) .unit))) t57)),(4,(.data (.sl false (.int .i64)) t4)),(58,(.data (.int .i64) t58))] [.row (.int .i64) x.2.2.1 0,.row .bool x.2.2.2.1 0,.row .bool x.2.2.2.2 0]) (kLoop (x25 N) 11 ⟨[59,19,18,17,16,1,14,57,4,58],[]⟩ kb k)=f25_L11 N t1 t14 t57 t4 t58 (fun y=>kb [(59,(.data (.int .i64) y.1)),(19,(.data (.int .i64) y.2.1)),(18,(.ref 0 [] 0)),(17,(.ref 1 [] 0)),(16,(.ref 2 [] 0)),(1,(.data (.sl false (.int .i64)) t1)),(14,(.data (.sl false (.sl false (.int .i64))) t14)),(57,(.data (.sl false (.pair (.sl false (.int .i64)) (.pair (.int .i64) .unit))) t57)),(4,(.data (.sl false (.int .i64)) t4)),(58,(.data (.int .i64) t58))] [.row (.int .i64) y.2.2.1 0,.row .bool y.2.2.2.1 0,.row .bool y.2.2.2.2 0])
  (fun y0=>k .ret (St.of [(12,(.data (.int .i64) y0))] []))
  (fun y1=>k (.exit 0) (St.of [(1,(.data (.sl false (.int .i64)) t1)),(19,(.data (.int .i64) y1)),(4,(.data (.sl false (.int .i64)) t4))] [])) x:=by kernel_rfl
theorem l25_11 (N:Nat):LoopOK (x25 N) (loopAt 11 (loopsOf b25)):=
 loop_mk (G25_11 N) (by kernel_rfl) (by kernel_rfl) (by kernel_rfl) fun R k d=>
  loop_eq (st:=fun (x:Int×Int×List Int×List Bool×List Bool)=>([(59,(.data (.int .i64) x.1)),(19,(.data (.int .i64) x.2.1)),(18,(.ref 0 [] 0)),(17,(.ref 1 [] 0)),(16,(.ref 2 [] 0)),(1,(.data (.sl false (.int .i64)) d.1.2.2.2.2.2.1)),(14,(.data (.sl false (.sl false (.int .i64))) d.1.2.2.2.2.2.2.1)),(57,(.data (.sl false (.pair (.sl false (.int .i64)) (.pair (.int .i64) .unit))) d.1.2.2.2.2.2.2.2.1)),(4,(.data (.sl false (.int .i64)) d.1.2.2.2.2.2.2.2.2.1)),(58,(.data (.int .i64) d.1.2.2.2.2.2.2.2.2.2.1))],[.row (.int .i64) x.2.2.1 0,.row .bool x.2.2.2.1 0,.row .bool x.2.2.2.2 0])) (s25_11 N k d.1.2.2.2.2.2.1 d.1.2.2.2.2.2.2.1 d.1.2.2.2.2.2.2.2.1 d.1.2.2.2.2.2.2.2.2.1 d.1.2.2.2.2.2.2.2.2.2.1) N (d.1.1,d.1.2.1,d.2.1,d.2.2.1,d.2.2.2.1)
theorem s25_19 (N:Nat) {R:Type} (k:AExit→St→Option R) (t1_1:List Int) (t76:List Int) (t19_2:Int) (t77:Int) (kb:List (Nat×AVal)→List Obj→Option R) (x:Int×Int):codeK (x25 N) (loopAt 19 (loopsOf b25)) (St.of [(78,(.data (.int .i64) x.1)),(1,(.data (.sl false (.int .i64)) t1_1)),(22,(.data (.int .i64) x.2)),(76,(.data (.sl false (.int .i64)) t76)),(19,(.data (.int .i64) t19_2)),(77,(.data (.int .i64) t77))] []) (kLoop (x25 N) 19 ⟨[78,1,22,76,19,77],[]⟩ kb k)=f25_L19 N t1_1 t76 t19_2 t77 (fun y=>kb [(78,(.data (.int .i64) y.1)),(1,(.data (.sl false (.int .i64)) t1_1)),(22,(.data (.int .i64) y.2)),(76,(.data (.sl false (.int .i64)) t76)),(19,(.data (.int .i64) t19_2)),(77,(.data (.int .i64) t77))] [])
  (fun y0=>k (.exit 2) (St.of [(22,(.data (.int .i64) y0)),(19,(.data (.int .i64) t19_2))] [])) x:=by kernel_rfl
theorem l25_19 (N:Nat):LoopOK (x25 N) (loopAt 19 (loopsOf b25)):=
 loop_mk (G25_19 N) (by kernel_rfl) (by kernel_rfl) (by kernel_rfl) fun R k d=>
  loop_eq (st:=fun (x:Int×Int)=>([(78,(.data (.int .i64) x.1)),(1,(.data (.sl false (.int .i64)) d.1.2.1)),(22,(.data (.int .i64) x.2)),(76,(.data (.sl false (.int .i64)) d.1.2.2.2.1)),(19,(.data (.int .i64) d.1.2.2.2.2.1)),(77,(.data (.int .i64) d.1.2.2.2.2.2.1))],[])) (s25_19 N k d.1.2.1 d.1.2.2.2.1 d.1.2.2.2.2.1 d.1.2.2.2.2.2.1) N (d.1.1,d.1.2.2.1)
theorem e25 (N:Nat) (a0:(Int×(List (List Int)×Unit))) (a1:List Int) (a2:List Int) (a3:List Int) (a4:List Int) (a5:List (List Int×(Int×Unit))):bodyK (x25 N) [(.int .i64)] [.tmp 12] b25 (entry (.pr (.val (.pair (.int .i64) (.pair (.sl false (.arr 2 (.int .i64))) .unit))) (.pr (.val (.sl false (.int .i64))) (.pr (.val (.sl false (.int .i64))) (.pr (.val (.sl false (.int .i64))) (.pr (.val (.sl false (.int .i64))) (.pr (.val (.sl false (.pair (.sl false (.int .i64)) (.pair (.int .i64) .unit)))) .un)))))) (a0,(a1,(a2,(a3,(a4,(a5,())))))))=f25 N a0 a1 a2 a3 a4 a5:=by kernel_rfl
theorem k25 (N:Nat):CalleeOK Go.Proofs.Try.prog 25 (c25 N):=
 fn_ok (fn:=Go.Proofs.Try.f25) (body:=b25) (c:=x25 N) Go.Proofs.Try.func25 (by kernel_rfl) (by kernel_rfl) ⟨ttL_ok,mtL_ok,eqL_ok,ctL_ok,msL_ok,env_cons (forall_mem1 (k27 N)) (env_cons (forall_mem1 (k28 N)) (env_cons (forall_mem1 (k42 N)) (env_cons (forall_mem1 (k41 N)) (env_cons (forall_mem1 (k43 N)) (env_nil)))))⟩ mixed (by kernel_rfl) (Nat.le_of_ble_eq_true (by kernel_rfl)) (by kernel_rfl) (by decide)
  (loops_ok (by kernel_rfl:loopsOf b25=[loopAt 11 (loopsOf b25),loopAt 19 (loopsOf b25)]) (.cons (l25_11 N) (.cons (l25_19 N) .nil))) fun d=>e25 N d.1 d.2.1 d.2.2.1 d.2.2.2.1 d.2.2.2.2.1 d.2.2.2.2.2.1
def f9 (N:Nat) (a0:((Int×(List (List Int)×Unit))×(List Int×(List Int×(List Int×Unit))))) (a1:List Int) (a2:List (List Int×(Int×Unit))):Option (Bool):=
 (f11 N).bind fun r=>
 cond (!r)
  (some false)
  ((f12 N a0 12 60).bind fun r_1=>
  (cond (!r_1)
    (some true)
    (some (decide (20 < (len a1))))).bind fun b=>
  (cond b
    (some true)
    (some (decide (20 < (len a2))))).bind fun b_1=>
  cond b_1
   (some true)
   ((f25 N (a0.1.1,a0.1.2) a0.2.1 a0.2.2.1 a0.2.2.2.1 a1 a2).bind fun r_2=>
   (f16 N (a0.1.1,a0.1.2) a0.2.1 a0.2.2.1 a0.2.2.2.1 a1 a2).bind fun r_3=>
   some (decide (r_2=r_3))))
def c9 (N:Nat):Callee:=.pure (.pr (.val (.pair (.pair (.int .i64) (.pair (.sl false (.arr 2 (.int .i64))) .unit)) (.pair (.sl false (.int .i64)) (.pair (.sl false (.int .i64)) (.pair (.sl false (.int .i64)) .unit))))) (.pr (.val (.sl false (.int .i64))) (.pr (.val (.sl false (.pair (.sl false (.int .i64)) (.pair (.int .i64) .unit)))) .un))) [.bool] fun d=>f9 N d.1 d.2.1 d.2.2.1
def lp9 (N:Nat):Nat→Option LoopFn:=fun r=>none
def x9 (N:Nat):Ctx:={ fuel:=N,tt:=getL ttL,mt:=getL mtL,ntmps:=45,env:=fun f=>(getL [(11,[c11 N]),(12,[c12 N]),(25,[c25 N]),(16,[c16 N])] f).getD [],cut:=getL [],exits:=fun r=>getL ((getL [] r).getD []),res:=⟨[6],[]⟩,own:=fun _=>none,lp:=lp9 N,eqs:=fun T=>memN T eqL,ct:=fun T=>memN T ctL,ms:=getMs msL }
noncomputable def b9:Code:=((Go.Proofs.Try.f9).body).getD .skip
theorem e9 (N:Nat) (a0:((Int×(List (List Int)×Unit))×(List Int×(List Int×(List Int×Unit))))) (a1:List Int) (a2:List (List Int×(Int×Unit))):bodyK (x9 N) [.bool] [.tmp 6] b9 (entry (.pr (.val (.pair (.pair (.int .i64) (.pair (.sl false (.arr 2 (.int .i64))) .unit)) (.pair (.sl false (.int .i64)) (.pair (.sl false (.int .i64)) (.pair (.sl false (.int .i64)) .unit))))) (.pr (.val (.sl false (.int .i64))) (.pr (.val (.sl false (.pair (.sl false (.int .i64)) (.pair (.int .i64) .unit)))) .un))) (a0,(a1,(a2,()))))=f9 N a0 a1 a2:=by kernel_rfl
theorem k9 (N:Nat):CalleeOK Go.Proofs.Try.prog 9 (c9 N):=
 fn_ok (fn:=Go.Proofs.Try.f9) (body:=b9) (c:=x9 N) Go.Proofs.Try.func9 (by kernel_rfl) (by kernel_rfl) ⟨ttL_ok,mtL_ok,eqL_ok,ctL_ok,msL_ok,env_cons (forall_mem1 (k11 N)) (env_cons (forall_mem1 (k12 N)) (env_cons (forall_mem1 (k25 N)) (env_cons (forall_mem1 (k16 N)) (env_nil))))⟩ mixed (by kernel_rfl) (Nat.le_of_ble_eq_true (by kernel_rfl)) (by kernel_rfl) (by decide)
  (loops_ok (by kernel_rfl:loopsOf b9=[]) .nil) fun d=>e9 N d.1 d.2.1 d.2.2.1
end
end Go.Kz
