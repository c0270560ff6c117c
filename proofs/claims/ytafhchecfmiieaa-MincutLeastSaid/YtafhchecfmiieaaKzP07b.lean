/-
  The functions of the program as plain functions on lists and numbers, and the proofs that the program computes them. Printed by a program.
-/
import Derived.Test.YtafhchecfmiieaaKzP07
set_option linter.unusedSimpArgs false
set_option maxRecDepth 100000
set_option linter.unusedVariables false
namespace Go.Kz
open Go.Proofs
noncomputable section
def f31_L6 {R:Type} (N:Nat) (o0:List (List Int)) (o1':Int) (o1'':Int) (o2:List (List (Int×(Int×(Int×Unit))))) (kb:Int×Int→Option R) (kx2:Int→Option R):Int×Int→Option R:=
 fun (t5,t4)=>
  cond (!(decide (t5=o1')))
   (chk (inb o0 t5) <|
   (idx o0 t5).bind fun x_3=>
   chk (inb x_3 0) <|
   (idx o0 t5).bind fun x_4=>
   (idx x_4 0).bind fun x_5=>
   chk (inb o2 x_5) <|
   (idx o2 x_5).bind fun x_6=>
   chk (inb o0 t5) <|
   (idx o0 t5).bind fun x_7=>
   chk (inb x_7 1) <|
   (idx o0 t5).bind fun x_8=>
   (idx x_8 1).bind fun x_9=>
   (idx o2 x_5).bind fun x_10=>
   chk (inb x_10 x_9) <|
   (idx o2 x_5).bind fun x_11=>
   (idx x_11 x_9).bind fun x_12=>
   (idx o2 x_5).bind fun x_13=>
   (idx x_13 x_9).bind fun x_14=>
   (cond (decide (t4 < 0))
     (some true)
     (some (decide (x_14.2.1 < t4)))).bind fun b=>
   cond b
    (chk (inb o0 t5) <|
    (idx o0 t5).bind fun x_15=>
    chk (inb x_15 0) <|
    (idx o0 t5).bind fun x_16=>
    (idx x_16 0).bind fun x_17=>
    kb (x_17,x_14.2.1))
    (chk (inb o0 t5) <|
    (idx o0 t5).bind fun x_18=>
    chk (inb x_18 0) <|
    (idx o0 t5).bind fun x_19=>
    (idx x_19 0).bind fun x_20=>
    kb (x_20,t4)))
   (kx2 t4)
def f31_L12 {R:Type} (N:Nat) (t4_2:Int) (o0_1:List (List Int)) (kb:Int×Int×Int×(List (List (Int×(Int×(Int×Unit)))))→Option R) (kx4:Int→Int→(List (List (Int×(Int×(Int×Unit)))))→Option R):Int×Int×Int×(List (List (Int×(Int×(Int×Unit)))))→Option R:=
 fun (t7,o1'_1,o1''_1,o2_1)=>
  cond (!(decide (t7=o1'_1)))
   (chk (inb o0_1 t7) <|
   (idx o0_1 t7).bind fun x_21=>
   chk (inb x_21 0) <|
   (idx o0_1 t7).bind fun x_22=>
   (idx x_22 0).bind fun x_23=>
   chk (inb o0_1 t7) <|
   (idx o0_1 t7).bind fun x_24=>
   chk (inb x_24 1) <|
   (idx o0_1 t7).bind fun x_25=>
   (idx x_25 1).bind fun x_26=>
   (f48 N x_23 x_26 t4_2 o1'_1 o1''_1 o2_1).bind fun r_1=>
   chk (inb o0_1 t7) <|
   (idx o0_1 t7).bind fun x_27=>
   chk (inb x_27 0) <|
   (idx o0_1 t7).bind fun x_28=>
   (idx x_28 0).bind fun x_29=>
   kb (x_29,r_1.2.1.2.1,r_1.2.1.2.2.1,r_1.2.2.1))
   (kx4 o1'_1 o1''_1 o2_1)
def f31_L1 {R:Type} (N:Nat) (kb:Int×Int×(List (List (Int×(Int×(Int×Unit)))))→Option R) (kret:Int→Int→(List (List (Int×(Int×(Int×Unit)))))→(List (List Int))→Option R):Int×Int×(List (List (Int×(Int×(Int×Unit)))))→Option R:=
 fun (o0'_1,o0''_1,o1_1)=>
  (f47 N o0'_1 o0''_1 o1_1).bind fun r=>
  chk (inb r.2.2.2.1 r.2.1.2.2.1) <|
  (idx r.2.2.2.1 r.2.1.2.2.1).bind fun x=>
  chk (inb x 0) <|
  (idx r.2.2.2.1 r.2.1.2.2.1).bind fun x_1=>
  (idx x_1 0).bind fun x_2=>
  cond (decide (x_2 < 0))
   (kret r.2.1.2.1 r.2.1.2.2.1 r.2.2.1 r.2.2.2.1)
   (iter (fun w=>f31_L6 N r.2.2.2.1 r.2.1.2.1 r.2.1.2.2.1 r.2.2.1 w
    (fun t4_1=>
     iter (fun w=>f31_L12 N t4_1 r.2.2.2.1 w
      (fun o0'_2 o0''_2 o1_2=>
       kb (o0'_2,o0''_2,o1_2))) N (r.2.1.2.2.1,r.2.1.2.1,r.2.1.2.2.1,r.2.2.1))) N (r.2.1.2.2.1,(-1)))
def f31 (N:Nat) (o0':Int) (o0'':Int) (o1:List (List (Int×(Int×(Int×Unit))))):Option (((Unit×(Unit×Unit))×((Unit×(Int×(Int×Unit)))×((List (List (Int×(Int×(Int×Unit)))))×((List (List Int))×Unit))))):=
 iter (fun w=>f31_L1 N w
  (fun o0'_3 o0''_3 o1_3 o2_2=>
   some (((),((),())),(((),(o0'_3,(o0''_3,()))),(o1_3,(o2_2,())))))) N (o0',o0'',o1)
def fi31:SForm:=⟨[(0,(.bptr 0 []))],[.cell (.agg (.pr (.nv 1) (.pr (.val (.int .i64)) (.pr (.val (.int .i64)) .un)))),.nest (.sl true (.pair (.int .i64) (.pair (.int .i64) (.pair (.int .i64) .unit))))]⟩
def fo31:SForm:=⟨[(0,(.bptr 0 [])),(2,(.ref 2))],[.cell (.agg (.pr (.nv 1) (.pr (.val (.int .i64)) (.pr (.val (.int .i64)) .un)))),.nest (.sl true (.pair (.int .i64) (.pair (.int .i64) (.pair (.int .i64) .unit)))),.row (.arr 2 (.int .i64))]⟩
def c31 (N:Nat):Callee:=.mut fi31 [0] fo31 fun d=>f31 N d.2.1.2.1 d.2.1.2.2.1 d.2.2.1
def F31_6:SForm:=⟨[(5,(.val (.int .i64))),(3,(.ref 0)),(4,(.val (.int .i64))),(0,(.bptr 1 []))],[.row (.arr 2 (.int .i64)),.cell (.agg (.pr (.nv 2) (.pr (.val (.int .i64)) (.pr (.val (.int .i64)) .un)))),.nest (.sl true (.pair (.int .i64) (.pair (.int .i64) (.pair (.int .i64) .unit))))]⟩
def G31_6 (N:Nat):(R:Type)→F31_6.den→(AExit→St→Option R)→Option R:=fun R d k=>iter (fun kb=>f31_L6 N d.2.1 d.2.2.1.2.1 d.2.2.1.2.2.1 d.2.2.2.1 kb
  (fun y0=>k (.exit 2) (St.of [(3,(.ref 0 [] 0)),(4,(.data (.int .i64) y0)),(0,(.bptr 1 []))] [.row (.arr 2 (.int .i64)) d.2.1 0,.cell (.agg (.pr (.nv false 2 [] 0) (.pr (.data (.int .i64) d.2.2.1.2.1) (.pr (.data (.int .i64) d.2.2.1.2.2.1) .un)))),.nest (.sl true (.pair (.int .i64) (.pair (.int .i64) (.pair (.int .i64) .unit)))) d.2.2.2.1 0 0 none]))) N (d.1.1,d.1.2.2.1)
def F31_12:SForm:=⟨[(7,(.val (.int .i64))),(3,(.ref 0)),(4,(.val (.int .i64))),(0,(.bptr 1 []))],[.row (.arr 2 (.int .i64)),.cell (.agg (.pr (.nv 2) (.pr (.val (.int .i64)) (.pr (.val (.int .i64)) .un)))),.nest (.sl true (.pair (.int .i64) (.pair (.int .i64) (.pair (.int .i64) .unit))))]⟩
def G31_12 (N:Nat):(R:Type)→F31_12.den→(AExit→St→Option R)→Option R:=fun R d k=>iter (fun kb=>f31_L12 N d.1.2.2.1 d.2.1 kb
  (fun y0 y1 y2=>k (.exit 4) (St.of [(0,(.bptr 0 []))] [.cell (.agg (.pr (.nv false 1 [] 0) (.pr (.data (.int .i64) y0) (.pr (.data (.int .i64) y1) .un)))),.nest (.sl true (.pair (.int .i64) (.pair (.int .i64) (.pair (.int .i64) .unit)))) y2 0 0 none]))) N (d.1.1,d.2.2.1.2.1,d.2.2.1.2.2.1,d.2.2.2.1)
def F31_1:SForm:=⟨[(0,(.bptr 0 []))],[.cell (.agg (.pr (.nv 1) (.pr (.val (.int .i64)) (.pr (.val (.int .i64)) .un)))),.nest (.sl true (.pair (.int .i64) (.pair (.int .i64) (.pair (.int .i64) .unit))))]⟩
def G31_1 (N:Nat):(R:Type)→F31_1.den→(AExit→St→Option R)→Option R:=fun R d k=>iter (fun kb=>f31_L1 N kb
  (fun y0 y1 y2 y3=>k .ret (St.of [(0,(.bptr 0 [])),(2,(.ref 2 [] 0))] [.cell (.agg (.pr (.nv false 1 [] 0) (.pr (.data (.int .i64) y0) (.pr (.data (.int .i64) y1) .un)))),.nest (.sl true (.pair (.int .i64) (.pair (.int .i64) (.pair (.int .i64) .unit)))) y2 0 0 none,.row (.arr 2 (.int .i64)) y3 0]))) N (d.2.1.2.1,d.2.1.2.2.1,d.2.2.1)
def lp31 (N:Nat):Nat→Option LoopFn:=fun r=>cond (Nat.beq r 6) (some fun R sl os k=>F31_6.take sl os fun d=>G31_6 N R d k) (cond (Nat.beq r 12) (some fun R sl os k=>F31_12.take sl os fun d=>G31_12 N R d k) (cond (Nat.beq r 1) (some fun R sl os k=>F31_1.take sl os fun d=>G31_1 N R d k) (none)))
def x31 (N:Nat):Ctx:={ fuel:=N,tt:=getL ttL,mt:=getL mtL,ntmps:=90,env:=fun f=>(getL [(47,[c47 N]),(48,[c48 N])] f).getD [],cut:=getL [(1,⟨[0],[]⟩),(6,⟨[5,3,4,0],[]⟩),(12,⟨[7,3,4,0],[]⟩)],exits:=fun r=>getL ((getL [(1,[]),(6,[(2,⟨[3,4,0],[]⟩)]),(12,[(4,⟨[0],[]⟩)])] r).getD []),res:=⟨[0,2],[]⟩,own:=fun _=>none,lp:=lp31 N,eqs:=fun T=>memN T eqL,ct:=fun T=>memN T ctL,ms:=getMs msL }
noncomputable def b31:Code:=((Go.Proofs.Try.f31).body).getD .skip
theorem s31_6 (N:Nat) {R:Type} (k:AExit→St→Option R) (o0:List (List Int)) (o1':Int) (o1'':Int) (o2:List (List (Int×(Int×(Int×Unit))))) (kb:List (Nat×AVal)→List Obj→Option R) (x:Int×Int):codeK (x31 N) (loopAt 6 (loopsOf b31)) (St.of [(5,(.data (.int .i64) x.1)),(3,(.ref 0 [] 0)),(4,(.data (.int .i64) x.2)),(0,(.bptr 1 []))] [.row (.arr 2 (.int .i64)) o0 0,.cell (.agg (.pr (.nv false 2 [] 0) (.pr (.data (.int .i64) o1') (.pr (.data (.int .i64) o1'') .un)))),.nest (.sl true (.pair (.int .i64) (.pair (.int .i64) (.pair (.int .i64) .unit)))) o2 0 0 none]) (kLoop (x31 N) 6 ⟨[5,3,4,0],[]⟩ kb k)=f31_L6 N o0 o1' o1'' o2 (fun y=>kb [(5,(.data (.int .i64) y.1)),(3,(.ref 0 [] 0)),(4,(.data (.int .i64) y.2)),(0,(.bptr 1 []))] [.row (.arr 2 (.int .i64)) o0 0,.cell (.agg (.pr (.nv false 2 [] 0) (.pr (.data (.int .i64) o1') (.pr (.data (.int .i64) o1'') .un)))),.nest (.sl true (.pair (.int .i64) (.pair (.int .i64) (.pair (.int .i64) .unit)))) o2 0 0 none])
  (fun y0=>k (.exit 2) (St.of [(3,(.ref 0 [] 0)),(4,(.data (.int .i64) y0)),(0,(.bptr 1 []))] [.row (.arr 2 (.int .i64)) o0 0,.cell (.agg (.pr (.nv false 2 [] 0) (.pr (.data (.int .i64) o1') (.pr (.data (.int .i64) o1'') .un)))),.nest (.sl true (.pair (.int .i64) (.pair (.int .i64) (.pair (.int .i64) .unit)))) o2 0 0 none])) x:=by kernel_rfl
theorem l31_6 (N:Nat):LoopOK (x31 N) (loopAt 6 (loopsOf b31)):=
 loop_mk (G31_6 N) (by kernel_rfl) (by kernel_rfl) (by kernel_rfl) fun R k d=>
  loop_eq (st:=fun (x:Int×Int)=>([(5,(.data (.int .i64) x.1)),(3,(.ref 0 [] 0)),(4,(.data (.int .i64) x.2)),(0,(.bptr 1 []))],[.row (.arr 2 (.int .i64)) d.2.1 0,.cell (.agg (.pr (.nv false 2 [] 0) (.pr (.data (.int .i64) d.2.2.1.2.1) (.pr (.data (.int .i64) d.2.2.1.2.2.1) .un)))),.nest (.sl true (.pair (.int .i64) (.pair (.int .i64) (.pair (.int .i64) .unit)))) d.2.2.2.1 0 0 none])) (s31_6 N k d.2.1 d.2.2.1.2.1 d.2.2.1.2.2.1 d.2.2.2.1) N (d.1.1,d.1.2.2.1)
theorem s31_12 (N:Nat) {R:Type} (k:AExit→St→Option R) (t4_2:Int) (o0_1:List (List Int)) (kb:List (Nat×AVal)→List Obj→Option R) (x:Int×Int×Int×(List (List (Int×(Int×(Int×Unit)))))):codeK (x31 N) (loopAt 12 (loopsOf b31)) (St.of [(7,(.data (.int .i64) x.1)),(3,(.ref 0 [] 0)),(4,(.data (.int .i64) t4_2)),(0,(.bptr 1 []))] [.row (.arr 2 (.int .i64)) o0_1 0,.cell (.agg (.pr (.nv false 2 [] 0) (.pr (.data (.int .i64) x.2.1) (.pr (.data (.int .i64) x.2.2.1) .un)))),.nest (.sl true (.pair (.int .i64) (.pair (.int .i64) (.pair (.int .i64) .unit)))) x.2.2.2 0 0 none]) (kLoop (x31 N) 12 ⟨[7,3,4,0],[]⟩ kb k)=f31_L12 N t4_2 o0_1 (fun y=>kb [(7,(.data (.int .i64) y.1)),(3,(.ref 0 [] 0)),(4,(.data (.int .i64) t4_2)),(0,(.bptr 1 []))] [.row (.arr 2 (.int .i64)) o0_1 0,.cell (.agg (.pr (.nv false 2 [] 0) (.pr (.data (.int .i64) y.2.1) (.pr (.data (.int .i64) y.2.2.1) .un)))),.nest (.sl true (.pair (.int .i64) (.pair (.int .i64) (.pair (.int .i64) .unit)))) y.2.2.2 0 0 none])
  (fun y0 y1 y2=>k (.exit 4) (St.of [(0,(.bptr 0 []))] [.cell (.agg (.pr (.nv false 1 [] 0) (.pr (.data (.int .i64) y0) (.pr (.data (.int .i64) y1) .un)))),.nest (.sl true (.pair (.int .i64) (.pair (.int .i64) (.pair (.int .i64) .unit)))) y2 0 0 none])) x:=by kernel_rfl
theorem l31_12 (N:Nat):LoopOK (x31 N) (loopAt 12 (loopsOf b31)):=
 loop_mk (G31_12 N) (by kernel_rfl) (by kernel_rfl) (by kernel_rfl) fun R k d=>
  loop_eq (st:=fun (x:Int×Int×Int×(List (List (Int×(Int×(Int×Unit))))))=>([(7,(.data (.int .i64) x.1)),(3,(.ref 0 [] 0)),(4,(.data (.int .i64) d.1.2.2.1)),(0,(.bptr 1 []))],[.row (.arr 2 (.int .i64)) d.2.1 0,.cell (.agg (.pr (.nv false 2 [] 0) (.pr (.data (.int .i64) x.2.1) (.pr (.data (.int .i64) x.2.2.1) .un)))),.nest (.sl true (.pair (.int .i64) (.pair (.int .i64) (.pair (.int .i64) .unit)))) x.2.2.2 0 0 none])) (s31_12 N k d.1.2.2.1 d.2.1) N (d.1.1,d.2.2.1.2.1,d.2.2.1.2.2.1,d.2.2.2.1)
theorem s31_1 (N:Nat) {R:Type} (k:AExit→St→Option R) (kb:List (Nat×AVal)→List Obj→Option R) (x:Int×Int×(List (List (Int×(Int×(Int×Unit)))))):codeK (x31 N) (loopAt 1 (loopsOf b31)) (St.of [(0,(.bptr 0 []))] [.cell (.agg (.pr (.nv false 1 [] 0) (.pr (.data (.int .i64) x.1) (.pr (.data (.int .i64) x.2.1) .un)))),.nest (.sl true (.pair (.int .i64) (.pair (.int .i64) (.pair (.int .i64) .unit)))) x.2.2 0 0 none]) (kLoop (x31 N) 1 ⟨[0],[]⟩ kb k)=f31_L1 N (fun y=>kb [(0,(.bptr 0 []))] [.cell (.agg (.pr (.nv false 1 [] 0) (.pr (.data (.int .i64) y.1) (.pr (.data (.int .i64) y.2.1) .un)))),.nest (.sl true (.pair (.int .i64) (.pair (.int .i64) (.pair (.int .i64) .unit)))) y.2.2 0 0 none])
  (fun y0 y1 y2 y3=>k .ret (St.of [(0,(.bptr 0 [])),(2,(.ref 2 [] 0))] [.cell (.agg (.pr (.nv false 1 [] 0) (.pr (.data (.int .i64) y0) (.pr (.data (.int .i64) y1) .un)))),.nest (.sl true (.pair (.int .i64) (.pair (.int .i64) (.pair (.int .i64) .unit)))) y2 0 0 none,.row (.arr 2 (.int .i64)) y3 0])) x:=by kernel_rfl
theorem l31_1 (N:Nat):LoopOK (x31 N) (loopAt 1 (loopsOf b31)):=
 loop_mk (G31_1 N) (by kernel_rfl) (by kernel_rfl) (by kernel_rfl) fun R k d=>
  loop_eq (st:=fun (x:Int×Int×(List (List (Int×(Int×(Int×Unit))))))=>([(0,(.bptr 0 []))],[.cell (.agg (.pr (.nv false 1 [] 0) (.pr (.data (.int .i64) x.1) (.pr (.data (.int .i64) x.2.1) .un)))),.nest (.sl true (.pair (.int .i64) (.pair (.int .i64) (.pair (.int .i64) .unit)))) x.2.2 0 0 none])) (s31_1 N k) N (d.2.1.2.1,d.2.1.2.2.1,d.2.2.1)
theorem e31 (N:Nat) (o0':Int) (o0'':Int) (o1:List (List (Int×(Int×(Int×Unit))))):bodyM (x31 N) fo31 b31 (St.of [(0,(.bptr 0 []))] [.cell (.agg (.pr (.nv false 1 [] 0) (.pr (.data (.int .i64) o0') (.pr (.data (.int .i64) o0'') .un)))),.nest (.sl true (.pair (.int .i64) (.pair (.int .i64) (.pair (.int .i64) .unit)))) o1 0 0 none])=f31 N o0' o0'' o1:=by kernel_rfl
theorem k31 (N:Nat):CalleeOK Go.Proofs.Try.prog 31 (c31 N):=
 fn_ok_mut (fn:=Go.Proofs.Try.f31) (body:=b31) (c:=x31 N) (rs:=[2]) Go.Proofs.Try.func31 (by kernel_rfl) (by kernel_rfl) ⟨ttL_ok,mtL_ok,eqL_ok,ctL_ok,msL_ok,env_cons (forall_mem1 (k47 N)) (env_cons (forall_mem1 (k48 N)) (env_nil))⟩ mixed (by kernel_rfl) (Nat.le_of_ble_eq_true (by kernel_rfl)) (by kernel_rfl) (by kernel_rfl) (by kernel_rfl) (anchB_ok (by kernel_rfl))
  (loops_ok (by kernel_rfl:loopsOf b31=[loopAt 1 (loopsOf b31),loopAt 6 (loopsOf b31),loopAt 12 (loopsOf b31)]) (.cons (l31_1 N) (.cons (l31_6 N) (.cons (l31_12 N) .nil)))) fun d=>e31 N d.2.1.2.1 d.2.1.2.2.1 d.2.2.1
def f49_L2 {R:Type} (N:Nat) (t1_1:Int) (t14:Int) (t15:Int) (o0'_1:Int) (o0''_1:Int) (o1_1:List (List (Int×(Int×(Int×Unit))))) (kb:Int→Option R) (kret:Int→Option R) (kx0:Unit→Option R):Int→Option R:=
 fun t16=>
  cond (decide (t16 < t15))
   ((idx o1_1 t14).bind fun x_2=>
   chk (inb x_2 t16) <|
   (idx o1_1 t14).bind fun x_3=>
   (idx x_3 t16).bind fun x_4=>
   (cond (decide (t1_1=o0'_1))
     (some true)
     ((cond (decide ((Int.tmod t1_1 2)=0))
       (some (decide (x_4.1=(wi64 (t1_1+1)))))
       (some false)).bind fun b=>
     some b)).bind fun b_1=>
   (cond b_1
     (some true)
     ((cond (decide ((Int.tmod t1_1 2)=1))
       ((cond (decide (x_4.1=o0''_1))
         (some true)
         ((cond (!(decide (x_4.1=(wi64 (t1_1-1)))))
           (some (decide ((Int.tmod x_4.1 2)=0)))
           (some false)).bind fun b_2=>
         (cond b_2
           (some (!(decide (x_4.1=o0'_1))))
           (some false)).bind fun b_3=>
         some b_3)).bind fun b_4=>
       some b_4)
       (some false)).bind fun b_5=>
     some b_5)).bind fun b_6=>
   (cond b_6
     (chk (inb o1_1 x_4.1) <|
     (idx o1_1 x_4.1).bind fun x_5=>
     (idx o1_1 x_4.1).bind fun x_6=>
     chk (inb x_6 x_4.2.2.1) <|
     (idx o1_1 x_4.1).bind fun x_7=>
     (idx x_7 x_4.2.2.1).bind fun x_8=>
     (idx o1_1 x_4.1).bind fun x_9=>
     (idx x_9 x_4.2.2.1).bind fun x_10=>
     some (decide (0 < x_10.2.1)))
     (some false)).bind fun b_7=>
   cond b_7
    (kret t16)
    (kb (wi64 (t16+1))))
   (kx0 ())
def f49 (N:Nat) (t1:Int) (o0':Int) (o0'':Int) (o1:List (List (Int×(Int×(Int×Unit))))):Option (((Unit×(Int×Unit))×((Unit×(Int×(Int×Unit)))×((List (List (Int×(Int×(Int×Unit)))))×Unit)))):=
 chk (inb o1 t1) <|
 (idx o1 t1).bind fun x=>
 (idx o1 t1).bind fun x_1=>
 iter (fun w=>f49_L2 N t1 t1 (len x_1) o0' o0'' o1 w
  (fun t4=>
   some (((),(t4,())),(((),(o0',(o0'',()))),(o1,()))))
  (fun (_:Unit)=>
   some (((),((-1),())),(((),(o0',(o0'',()))),(o1,()))))) N 0
def fi49:SForm:=⟨[(0,(.bptr 0 [])),(1,(.val (.int .i64)))],[.cell (.agg (.pr (.nv 1) (.pr (.val (.int .i64)) (.pr (.val (.int .i64)) .un)))),.nest (.sl true (.pair (.int .i64) (.pair (.int .i64) (.pair (.int .i64) .unit))))]⟩
def fo49:SForm:=⟨[(0,(.bptr 0 [])),(4,(.val (.int .i64)))],[.cell (.agg (.pr (.nv 1) (.pr (.val (.int .i64)) (.pr (.val (.int .i64)) .un)))),.nest (.sl true (.pair (.int .i64) (.pair (.int .i64) (.pair (.int .i64) .unit))))]⟩
def c49 (N:Nat):Callee:=.mut fi49 [0] fo49 fun d=>f49 N d.1.2.1 d.2.1.2.1 d.2.1.2.2.1 d.2.2.1
def F49_2:SForm:=⟨[(0,(.bptr 0 [])),(16,(.val (.int .i64))),(1,(.val (.int .i64))),(14,(.nvi 1)),(15,(.val (.int .i64)))],[.cell (.agg (.pr (.nv 1) (.pr (.val (.int .i64)) (.pr (.val (.int .i64)) .un)))),.nest (.sl true (.pair (.int .i64) (.pair (.int .i64) (.pair (.int .i64) .unit))))]⟩
def G49_2 (N:Nat):(R:Type)→F49_2.den→(AExit→St→Option R)→Option R:=fun R d k=>iter (fun kb=>f49_L2 N d.1.2.2.1 d.1.2.2.2.1 d.1.2.2.2.2.1 d.2.1.2.1 d.2.1.2.2.1 d.2.2.1 kb
  (fun y0=>k .ret (St.of [(0,(.bptr 0 [])),(4,(.data (.int .i64) y0))] [.cell (.agg (.pr (.nv false 1 [] 0) (.pr (.data (.int .i64) d.2.1.2.1) (.pr (.data (.int .i64) d.2.1.2.2.1) .un)))),.nest (.sl true (.pair (.int .i64) (.pair (.int .i64) (.pair (.int .i64) .unit)))) d.2.2.1 0 0 none]))
  (fun _=>k (.exit 0) (St.of [(0,(.bptr 0 []))] [.cell (.agg (.pr (.nv false 1 [] 0) (.pr (.data (.int .i64) d.2.1.2.1) (.pr (.data (.int .i64) d.2.1.2.2.1) .un)))),.nest (.sl true (.pair (.int .i64) (.pair (.int .i64) (.pair (.int .i64) .unit)))) d.2.2.1 0 0 none]))) N d.1.2.1
def lp49 (N:Nat):Nat→Option LoopFn:=fun r=>cond (Nat.beq r 2) (some fun R sl os k=>F49_2.take sl os fun d=>G49_2 N R d k) (none)
def x49 (N:Nat):Ctx:={ fuel:=N,tt:=getL ttL,mt:=getL mtL,ntmps:=94,env:=fun f=>(getL [] f).getD [],cut:=getL [(2,⟨[0,16,1,14,15],[]⟩)],exits:=fun r=>getL ((getL [(2,[(0,⟨[0],[]⟩)])] r).getD []),res:=⟨[0,4],[]⟩,own:=fun _=>none,lp:=lp49 N,eqs:=fun T=>memN T eqL,ct:=fun T=>memN T ctL,ms:=getMs msL }
noncomputable def b49:Code:=((Go.Proofs.Try.f49).body).getD .skip
theorem s49_2 (N:Nat) {R:Type} (k:AExit→St→Option R) (t1_1:Int) (t14:Int) (t15:Int) (o0'_1:Int) (o0''_1:Int) (o1_1:List (List (Int×(Int×(Int×Unit))))) (kb:List (Nat×AVal)→List Obj→Option R) (x:Int):codeK (x49 N) (loopAt 2 (loopsOf b49)) (St.of [(0,(.bptr 0 [])),(16,(.data (.int .i64) x)),(1,(.data (.int .i64) t1_1)),(14,(.nv false 1 [.idx t14] 0)),(15,(.data (.int .i64) t15))] [.cell (.agg (.pr (.nv false 1 [] 0) (.pr (.data (.int .i64) o0'_1) (.pr (.data (.int .i64) o0''_1) .un)))),.nest (.sl true (.pair (.int .i64) (.pair (.int .i64) (.pair (.int .i64) .unit)))) o1_1 0 0 none]) (kLoop (x49 N) 2 ⟨[0,16,1,14,15],[]⟩ kb k)=f49_L2 N t1_1 t14 t15 o0'_1 o0''_1 o1_1 (fun y=>kb [(0,(.bptr 0 [])),(16,(.data (.int .i64) y)),(1,(.data (.int .i64) t1_1)),(14,(.nv false 1 [.idx t14] 0)),(15,(.data (.int .i64) t15))] [.cell (.agg (.pr (.nv false 1 [] 0) (.pr (.data (.int .i64) o0'_1) (.pr (.data (.int .i64) o0''_1) .un)))),.nest (.sl true (.pair (.int .i64) (.pair (.int .i64) (.pair (.int .i64) .unit)))) o1_1 0 0 none])
  (fun y0=>k .ret (St.of [(0,(.bptr 0 [])),(4,(.data (.int .i64) y0))] [.cell (.agg (.pr (.nv false 1 [] 0) (.pr (.data (.int .i64) o0'_1) (.pr (.data (.int .i64) o0''_1) .un)))),.nest (.sl true (.pair (.int .i64) (.pair (.int .i64) (.pair (.int .i64) .unit)))) o1_1 0 0 none]))
  (fun _=>k (.exit 0) (St.of [(0,(.bptr 0 []))] [.cell (.agg (.pr (.nv false 1 [] 0) (.pr (.data (.int .i64) o0'_1) (.pr (.data (.int .i64) o0''_1) .un)))),.nest (.sl true (.pair (.int .i64) (.pair (.int .i64) (.pair (.int .i64) .unit)))) o1_1 0 0 none])) x:=by kernel_rfl
theorem l49_2 (N:Nat):LoopOK (x49 N) (loopAt 2 (loopsOf b49)):=
 loop_mk (G49_2 N) (by kernel_rfl) (by kernel_rfl) (by kernel_rfl) fun R k d=>
  loop_eq (st:=fun (x:Int)=>([(0,(.bptr 0 [])),(16,(.data (.int .i64) x)),(1,(.data (.int .i64) d.1.2.2.1)),(14,(.nv false 1 [.idx d.1.2.2.2.1] 0)),(15,(.data (.int .i64) d.1.2.2.2.2.1))],[.cell (.agg (.pr (.nv false 1 [] 0) (.pr (.data (.int .i64) d.2.1.2.1) (.pr (.data (.int .i64) d.2.1.2.2.1) .un)))),.nest (.sl true (.pair (.int .i64) (.pair (.int .i64) (.pair (.int .i64) .unit)))) d.2.2.1 0 0 none])) (s49_2 N k d.1.2.2.1 d.1.2.2.2.1 d.1.2.2.2.2.1 d.2.1.2.1 d.2.1.2.2.1 d.2.2.1) N d.1.2.1
theorem e49 (N:Nat) (t1:Int) (o0':Int) (o0'':Int) (o1:List (List (Int×(Int×(Int×Unit))))):bodyM (x49 N) fo49 b49 (St.of [(0,(.bptr 0 [])),(1,(.data (.int .i64) t1))] [.cell (.agg (.pr (.nv false 1 [] 0) (.pr (.data (.int .i64) o0') (.pr (.data (.int .i64) o0'') .un)))),.nest (.sl true (.pair (.int .i64) (.pair (.int .i64) (.pair (.int .i64) .unit)))) o1 0 0 none])=f49 N t1 o0' o0'' o1:=by kernel_rfl
theorem k49 (N:Nat):CalleeOK Go.Proofs.Try.prog 49 (c49 N):=
 fn_ok_mut (fn:=Go.Proofs.Try.f49) (body:=b49) (c:=x49 N) (rs:=[4]) Go.Proofs.Try.func49 (by kernel_rfl) (by kernel_rfl) ⟨ttL_ok,mtL_ok,eqL_ok,ctL_ok,msL_ok,env_nil⟩ mixed (by kernel_rfl) (Nat.le_of_ble_eq_true (by kernel_rfl)) (by kernel_rfl) (by kernel_rfl) (by kernel_rfl) (anchB_ok (by kernel_rfl))
  (loops_ok (by kernel_rfl:loopsOf b49=[loopAt 2 (loopsOf b49)]) (.cons (l49_2 N) .nil)) fun d=>e49 N d.1.2.1 d.2.1.2.1 d.2.1.2.2.1 d.2.2.1
def f50_L2 {R:Type} (N:Nat) (t0:List Int) (t1:Int) (t7:Int) (kb:Int→Option R) (kret:Int→Option R) (kx0:Unit→Option R):Int→Option R:=
 fun t8=>
  cond (decide (t8 < t7))
   ((idx t0 t8).bind fun x=>
   cond (decide (t1=x))
    (kret t8)
    (kb (wi64 (t8+1))))
   (kx0 ())
def f50 (N:Nat) (a0:List Int) (a1:Int):Option (Int):=
 iter (fun w=>f50_L2 N a0 a1 (len a0) w
  (fun t4=>
   some t4)
  (fun (_:Unit)=>
   some (-1))) N 0
def c50 (N:Nat):Callee:=.pure (.pr (.val (.sl false (.int .i64))) (.pr (.val (.int .i64)) .un)) [(.int .i64)] fun d=>f50 N d.1 d.2.1
def F50_2:SForm:=⟨[(8,(.val (.int .i64))),(0,(.val (.sl false (.int .i64)))),(1,(.val (.int .i64))),(7,(.val (.int .i64)))],[]⟩
def G50_2 (N:Nat):(R:Type)→F50_2.den→(AExit→St→Option R)→Option R:=fun R d k=>iter (fun kb=>f50_L2 N d.1.2.1 d.1.2.2.1 d.1.2.2.2.1 kb
  (fun y0=>k .ret (St.of [(4,(.data (.int .i64) y0))] []))
  (fun _=>k (.exit 0) (St.of [] []))) N d.1.1
def lp50 (N:Nat):Nat→Option LoopFn:=fun r=>cond (Nat.beq r 2) (some fun R sl os k=>F50_2.take sl os fun d=>G50_2 N R d k) (none)
def x50 (N:Nat):Ctx:={ fuel:=N,tt:=getL ttL,mt:=getL mtL,ntmps:=19,env:=fun f=>(getL [] f).getD [],cut:=getL [(2,⟨[8,0,1,7],[]⟩)],exits:=fun r=>getL ((getL [(2,[(0,⟨[],[]⟩)])] r).getD []),res:=⟨[4],[]⟩,own:=fun _=>none,lp:=lp50 N,eqs:=fun T=>memN T eqL,ct:=fun T=>memN T ctL,ms:=getMs msL }
noncomputable def b50:Code:=((Go.Proofs.Try.f50).body).getD .skip
theorem s50_2 (N:Nat) {R:Type} (k:AExit→St→Option R) (t0:List Int) (t1:Int) (t7:Int) (kb:List (Nat×AVal)→List Obj→Option R) (x:Int):codeK (x50 N) (loopAt 2 (loopsOf b50)) (St.of [(8,(.data (.int .i64) x)),(0,(.data (.sl false (.int .i64)) t0)),(1,(.data (.int .i64) t1)),(7,(.data (.int .i64) t7))] []) (kLoop (x50 N) 2 ⟨[8,0,1,7],[]⟩ kb k)=f50_L2 N t0 t1 t7 (fun y=>kb [(8,(.data (.int .i64) y)),(0,(.data (.sl false (.int .i64)) t0)),(1,(.data (.int .i64) t1)),(7,(.data (.int .i64) t7))] [])
  (fun y0=>k .ret (St.of [(4,(.data (.int .i64) y0))] []))
  (fun _=>k (.exit 0) (St.of [] [])) x:=by kernel_rfl
theorem l50_2 (N:Nat):LoopOK (x50 N) (loopAt 2 (loopsOf b50)):=
 loop_mk (G50_2 N) (by kernel_rfl) (by kernel_rfl) (by kernel_rfl) fun R k d=>
  loop_eq (st:=fun (x:Int)=>([(8,(.data (.int .i64) x)),(0,(.data (.sl false (.int .i64)) d.1.2.1)),(1,(.data (.int .i64) d.1.2.2.1)),(7,(.data (.int .i64) d.1.2.2.2.1))],[])) (s50_2 N k d.1.2.1 d.1.2.2.1 d.1.2.2.2.1) N d.1.1
theorem e50 (N:Nat) (a0:List Int) (a1:Int):bodyK (x50 N) [(.int .i64)] [.tmp 4] b50 (entry (.pr (.val (.sl false (.int .i64))) (.pr (.val (.int .i64)) .un)) (a0,(a1,())))=f50 N a0 a1:=by kernel_rfl
theorem k50 (N:Nat):CalleeOK Go.Proofs.Try.prog 50 (c50 N):=
 fn_ok (fn:=Go.Proofs.Try.f50) (body:=b50) (c:=x50 N) Go.Proofs.Try.func50 (by kernel_rfl) (by kernel_rfl) ⟨ttL_ok,mtL_ok,eqL_ok,ctL_ok,msL_ok,env_nil⟩ mixed (by kernel_rfl) (Nat.le_of_ble_eq_true (by kernel_rfl)) (by kernel_rfl) (by decide)
  (loops_ok (by kernel_rfl:loopsOf b50=[loopAt 2 (loopsOf b50)]) (.cons (l50_2 N) .nil)) fun d=>e50 N d.1 d.2.1
def f51_L3 {R:Type} (N:Nat) (t2_1:List Int) (t14:List Int) (t1_1:List Int) (t15:Int) (o0'_1:Int) (o0''_1:Int) (o1_1:List (List (Int×(Int×(Int×Unit))))) (kb:Int×Int→Option R) (kx0:Int→Option R):Int×Int→Option R:=
 fun (t16,t7)=>
  cond (decide (t16 < t15))
   ((idx t14 t16).bind fun x=>
   chk (inb o1_1 x) <|
   (idx o1_1 x).bind fun x_1=>
   (idx t2_1 t16).bind fun x_2=>
   (idx o1_1 x).bind fun x_3=>
   chk (inb x_3 x_2) <|
   (idx o1_1 x).bind fun x_4=>
   (idx x_4 x_2).bind fun x_5=>
   chk (inb o1_1 x_5.1) <|
   (idx o1_1 x_5.1).bind fun x_6=>
   (idx o1_1 x_5.1).bind fun x_7=>
   chk (inb x_7 x_5.2.2.1) <|
   (idx o1_1 x_5.1).bind fun x_8=>
   (idx x_8 x_5.2.2.1).bind fun x_9=>
   (idx o1_1 x_5.1).bind fun x_10=>
   (idx x_10 x_5.2.2.1).bind fun x_11=>
   (cond (decide (t7 < 0))
     (some true)
     (some (decide (x_11.2.1 < t7)))).bind fun b=>
   cond b
    (kb ((wi64 (t16+1)),x_11.2.1))
    (kb ((wi64 (t16+1)),t7)))
   (kx0 t7)
def f51_L11 {R:Type} (N:Nat) (t7_2:Int) (t2_2:List Int) (t56:List Int) (t57:Int) (kb:Int×Int×Int×(List (List (Int×(Int×(Int×Unit)))))→Option R) (kx2:Int→Int→(List (List (Int×(Int×(Int×Unit)))))→Option R):Int×Int×Int×(List (List (Int×(Int×(Int×Unit)))))→Option R:=
 fun (t58,o0'_2,o0''_2,o1_2)=>
  cond (decide (t58 < t57))
   ((idx t56 t58).bind fun x_12=>
   (idx t2_2 t58).bind fun x_13=>
   (f48 N x_12 x_13 (wi64 (0-t7_2)) o0'_2 o0''_2 o1_2).bind fun r=>
   kb ((wi64 (t58+1)),r.2.1.2.1,r.2.1.2.2.1,r.2.2.1))
   (kx2 o0'_2 o0''_2 o1_2)
def f51 (N:Nat) (t1:List Int) (t2:List Int) (o0':Int) (o0'':Int) (o1:List (List (Int×(Int×(Int×Unit))))):Option (((Unit×(Int×Unit))×((Unit×(Int×(Int×Unit)))×((List (List (Int×(Int×(Int×Unit)))))×Unit)))):=
 iter (fun w=>f51_L3 N t2 t1 t1 (len t1) o0' o0'' o1 w
  (fun t7_1=>
   iter (fun w=>f51_L11 N t7_1 t2 t1 (len t1) w
    (fun o0'_3 o0''_3 o1_3=>
     some (((),(t7_1,())),(((),(o0'_3,(o0''_3,()))),(o1_3,()))))) N (0,o0',o0'',o1))) N (0,(-1))
def fi51:SForm:=⟨[(0,(.bptr 0 [])),(1,(.val (.sl false (.int .i64)))),(2,(.val (.sl false (.int .i64))))],[.cell (.agg (.pr (.nv 1) (.pr (.val (.int .i64)) (.pr (.val (.int .i64)) .un)))),.nest (.sl true (.pair (.int .i64) (.pair (.int .i64) (.pair (.int .i64) .unit))))]⟩
def fo51:SForm:=⟨[(0,(.bptr 0 [])),(6,(.val (.int .i64)))],[.cell (.agg (.pr (.nv 1) (.pr (.val (.int .i64)) (.pr (.val (.int .i64)) .un)))),.nest (.sl true (.pair (.int .i64) (.pair (.int .i64) (.pair (.int .i64) .unit))))]⟩
def c51 (N:Nat):Callee:=.mut fi51 [0] fo51 fun d=>f51 N d.1.2.1 d.1.2.2.1 d.2.1.2.1 d.2.1.2.2.1 d.2.2.1
def F51_3:SForm:=⟨[(16,(.val (.int .i64))),(7,(.val (.int .i64))),(0,(.bptr 0 [])),(2,(.val (.sl false (.int .i64)))),(14,(.val (.sl false (.int .i64)))),(1,(.val (.sl false (.int .i64)))),(15,(.val (.int .i64)))],[.cell (.agg (.pr (.nv 1) (.pr (.val (.int .i64)) (.pr (.val (.int .i64)) .un)))),.nest (.sl true (.pair (.int .i64) (.pair (.int .i64) (.pair (.int .i64) .unit))))]⟩
def G51_3 (N:Nat):(R:Type)→F51_3.den→(AExit→St→Option R)→Option R:=fun R d k=>iter (fun kb=>f51_L3 N d.1.2.2.2.1 d.1.2.2.2.2.1 d.1.2.2.2.2.2.1 d.1.2.2.2.2.2.2.1 d.2.1.2.1 d.2.1.2.2.1 d.2.2.1 kb
  (fun y0=>k (.exit 0) (St.of [(7,(.data (.int .i64) y0)),(2,(.data (.sl false (.int .i64)) d.1.2.2.2.1)),(0,(.bptr 0 [])),(1,(.data (.sl false (.int .i64)) d.1.2.2.2.2.2.1))] [.cell (.agg (.pr (.nv false 1 [] 0) (.pr (.data (.int .i64) d.2.1.2.1) (.pr (.data (.int .i64) d.2.1.2.2.1) .un)))),.nest (.sl true (.pair (.int .i64) (.pair (.int .i64) (.pair (.int .i64) .unit)))) d.2.2.1 0 0 none]))) N (d.1.1,d.1.2.1)
def F51_11:SForm:=⟨[(58,(.val (.int .i64))),(7,(.val (.int .i64))),(2,(.val (.sl false (.int .i64)))),(0,(.bptr 0 [])),(56,(.val (.sl false (.int .i64)))),(57,(.val (.int .i64)))],[.cell (.agg (.pr (.nv 1) (.pr (.val (.int .i64)) (.pr (.val (.int .i64)) .un)))),.nest (.sl true (.pair (.int .i64) (.pair (.int .i64) (.pair (.int .i64) .unit))))]⟩
def G51_11 (N:Nat):(R:Type)→F51_11.den→(AExit→St→Option R)→Option R:=fun R d k=>iter (fun kb=>f51_L11 N d.1.2.1 d.1.2.2.1 d.1.2.2.2.2.1 d.1.2.2.2.2.2.1 kb
  (fun y1 y2 y3=>k (.exit 2) (St.of [(0,(.bptr 0 [])),(7,(.data (.int .i64) d.1.2.1))] [.cell (.agg (.pr (.nv false 1 [] 0) (.pr (.data (.int .i64) y1) (.pr (.data (.int .i64) y2) .un)))),.nest (.sl true (.pair (.int .i64) (.pair (.int .i64) (.pair (.int .i64) .unit)))) y3 0 0 none]))) N (d.1.1,d.2.1.2.1,d.2.1.2.2.1,d.2.2.1)
def lp51 (N:Nat):Nat→Option LoopFn:=fun r=>cond (Nat.beq r 3) (some fun R sl os k=>F51_3.take sl os fun d=>G51_3 N R d k) (cond (Nat.beq r 11) (some fun R sl os k=>F51_11.take sl os fun d=>G51_11 N R d k) (none))
def x51 (N:Nat):Ctx:={ fuel:=N,tt:=getL ttL,mt:=getL mtL,ntmps:=74,env:=fun f=>(getL [(48,[c48 N])] f).getD [],cut:=getL [(3,⟨[16,7,0,2,14,1,15],[]⟩),(11,⟨[58,7,2,0,56,57],[]⟩)],exits:=fun r=>getL ((getL [(3,[(0,⟨[7,2,0,1],[]⟩)]),(11,[(2,⟨[0,7],[]⟩)])] r).getD []),res:=⟨[0,6],[]⟩,own:=fun _=>none,lp:=lp51 N,eqs:=fun T=>memN T eqL,ct:=fun T=>memN T ctL,ms:=getMs msL }
noncomputable def b51:Code:=((Go.Proofs.Try.f51).body).getD .skip
theorem s51_3 (N:Nat) {R:Type} (k:AExit→St→Option R) (t2_1:List Int) (t14:List Int) (t1_1:List Int) (t15:Int) (o0'_1:Int) (o0''_1:Int) (o1_1:List (List (Int×(Int×(Int×Unit))))) (kb:List (Nat×AVal)→List Obj→Option R) (x:Int×Int):codeK (x51 N) (loopAt 3 (loopsOf b51)) (St.of [(16,(.data (.int .i64) x.1)),(7,(.data (.int .i64) x.2)),(0,(.bptr 0 [])),(2,(.data (.sl false (.int .i64)) t2_1)),(14,(.data (.sl false (.int .i64)) t14)),(1,(.data (.sl false (.int .i64)) t1_1)),(15,(.data (.int .i64) t15))] [.cell (.agg (.pr (.nv false 1 [] 0) (.pr (.data (.int .i64) o0'_1) (.pr (.data (.int .i64) o0''_1) .un)))),.nest (.sl true (.pair (.int .i64) (.pair (.int .i64) (.pair (.int .i64) .unit)))) o1_1 0 0 none]) (kLoop (x51 N) 3 ⟨[16,7,0,2,14,1,15],[]⟩ kb k)=f51_L3 N t2_1 t14 t1_1 t15 o0'_1 o0''_1 o1_1 (fun y=>kb [(16,(.data (.int .i64) y.1)),(7,(.data (.int .i64) y.2)),(0,(.bptr 0 [])),(2,(.data (.sl false (.int .i64)) t2_1)),(14,(.data (.sl false (.int .i64)) t14)),(1,(.data (.sl false (.int .i64)) t1_1)),(15,(.data (.int .i64) t15))] [.cell (.agg (.pr (.nv false 1 [] 0) (.pr (.data (.int .i64) o0'_1) (.pr (.data (.int .i64) o0''_1) .un)))),.nest (.sl true (.pair (.int .i64) (.pair (.int .i64) (.pair (.int .i64) .unit)))) o1_1 0 0 none])
  (fun y0=>k (.exit 0) (St.of [(7,(.data (.int .i64) y0)),(2,(.data (.sl false (.int .i64)) t2_1)),(0,(.bptr 0 [])),(1,(.data (.sl false (.int .i64)) t1_1))] [.cell (.agg (.pr (.nv false 1 [] 0) (.pr (.data (.int .i64) o0'_1) (.pr (.data (.int .i64) o0''_1) .un)))),.nest (.sl true (.pair (.int .i64) (.pair (.int .i64) (.pair (.int .i64) .unit)))) o1_1 0 0 none])) x:=by kernel_rfl
theorem l51_3 (N:Nat):LoopOK (x51 N) (loopAt 3 (loopsOf b51)):=
 loop_mk (G51_3 N) (by kernel_rfl) (by kernel_rfl) (by kernel_rfl) fun R k d=>
  loop_eq (st:=fun (x:Int×Int)=>([(16,(.data (.int .i64) x.1)),(7,(.data (.int .i64) x.2)),(0,(.bptr 0 [])),(2,(.data (.sl false (.int .i64)) d.1.2.2.2.1)),(14,(.data (.sl false (.int .i64)) d.1.2.2.2.2.1)),(1,(.data (.sl false (.int .i64)) d.1.2.2.2.2.2.1)),(15,(.data (.int .i64) d.1.2.2.2.2.2.2.1))],[.cell (.agg (.pr (.nv false 1 [] 0) (.pr (.data (.int .i64) d.2.1.2.1) (.pr (.data (.int .i64) d.2.1.2.2.1) .un)))),.nest (.sl true (.pair (.int .i64) (.pair (.int .i64) (.pair (.int .i64) .unit)))) d.2.2.1 0 0 none])) (s51_3 N k d.1.2.2.2.1 d.1.2.2.2.2.1 d.1.2.2.2.2.2.1 d.1.2.2.2.2.2.2.1 d.2.1.2.1 d.2.1.2.2.1 d.2.2.1) N (d.1.1,d.1.2.1)
theorem s51_11 (N:Nat) {R:Type} (k:AExit→St→Option R) (t7_2:Int) (t2_2:List Int) (t56:List Int) (t57:Int) (kb:List (Nat×AVal)→List Obj→Option R) (x:Int×Int×Int×(List (List (Int×(Int×(Int×Unit)))))):codeK (x51 N) (loopAt 11 (loopsOf b51)) (St.of [(58,(.data (.int .i64) x.1)),(7,(.data (.int .i64) t7_2)),(2,(.data (.sl false (.int .i64)) t2_2)),(0,(.bptr 0 [])),(56,(.data (.sl false (.int .i64)) t56)),(57,(.data (.int .i64) t57))] [.cell (.agg (.pr (.nv false 1 [] 0) (.pr (.data (.int .i64) x.2.1) (.pr (.data (.int .i64) x.2.2.1) .un)))),.nest (.sl true (.pair (.int .i64) (.pair (.int .i64) (.pair (.int .i64) .unit)))) x.2.2.2 0 0 none]) (kLoop (x51 N) 11 ⟨[58,7,2,0,56,57],[]⟩ kb k)=f51_L11 N t7_2 t2_2 t56 t57 (fun y=>kb [(58,(.data (.int .i64) y.1)),(7,(.data (.int .i64) t7_2)),(2,(.data (.sl false (.int .i64)) t2_2)),(0,(.bptr 0 [])),(56,(.data (.sl false (.int .i64)) t56)),(57,(.data (.int .i64) t57))] [.cell (.agg (.pr (.nv false 1 [] 0) (.pr (.data (.int .i64) y.2.1) (.pr (.data (.int .i64) y.2.2.1) .un)))),.nest (.sl true (.pair (.int .i64) (.pair (.int .i64) (.pair (.int .i64) .unit)))) y.2.2.2 0 0 none])
  (fun y1 y2 y3=>k (.exit 2) (St.of [(0,(.bptr 0 [])),(7,(.data (.int .i64) t7_2))] [.cell (.agg (.pr (.nv false 1 [] 0) (.pr (.data (.int .i64) y1) (.pr (.data (.int .i64) y2) .un)))),.nest (.sl true (.pair (.int .i64) (.pair (.int .i64) (.pair (.int .i64) .unit)))) y3 0 0 none])) x:=by kernel_rfl
theorem l51_11 (N:Nat):LoopOK (x51 N) (loopAt 11 (loopsOf b51)):=
 loop_mk (G51_11 N) (by kernel_rfl) (by kernel_rfl) (by kernel_rfl) fun R k d=>
  loop_eq (st:=fun (x:Int×Int×Int×(List (List (Int×(Int×(Int×Unit))))))=>([(58,(.data (.int .i64) x.1)),(7,(.data (.int .i64) d.1.2.1)),(2,(.data (.sl false (.int .i64)) d.1.2.2.1)),(0,(.bptr 0 [])),(56,(.data (.sl false (.int .i64)) d.1.2.2.2.2.1)),(57,(.data (.int .i64) d.1.2.2.2.2.2.1))],[.cell (.agg (.pr (.nv false 1 [] 0) (.pr (.data (.int .i64) x.2.1) (.pr (.data (.int .i64) x.2.2.1) .un)))),.nest (.sl true (.pair (.int .i64) (.pair (.int .i64) (.pair (.int .i64) .unit)))) x.2.2.2 0 0 none])) (s51_11 N k d.1.2.1 d.1.2.2.1 d.1.2.2.2.2.1 d.1.2.2.2.2.2.1) N (d.1.1,d.2.1.2.1,d.2.1.2.2.1,d.2.2.1)
theorem e51 (N:Nat) (t1:List Int) (t2:List Int) (o0':Int) (o0'':Int) (o1:List (List (Int×(Int×(Int×Unit))))):bodyM (x51 N) fo51 b51 (St.of [(0,(.bptr 0 [])),(1,(.data (.sl false (.int .i64)) t1)),(2,(.data (.sl false (.int .i64)) t2))] [.cell (.agg (.pr (.nv false 1 [] 0) (.pr (.data (.int .i64) o0') (.pr (.data (.int .i64) o0'') .un)))),.nest (.sl true (.pair (.int .i64) (.pair (.int .i64) (.pair (.int .i64) .unit)))) o1 0 0 none])=f51 N t1 t2 o0' o0'' o1:=by kernel_rfl
theorem k51 (N:Nat):CalleeOK Go.Proofs.Try.prog 51 (c51 N):=
 fn_ok_mut (fn:=Go.Proofs.Try.f51) (body:=b51) (c:=x51 N) (rs:=[6]) Go.Proofs.Try.func51 (by kernel_rfl) (by kernel_rfl) ⟨ttL_ok,mtL_ok,eqL_ok,ctL_ok,msL_ok,env_cons (forall_mem1 (k48 N)) (env_nil)⟩ mixed (by kernel_rfl) (Nat.le_of_ble_eq_true (by kernel_rfl)) (by kernel_rfl) (by kernel_rfl) (by kernel_rfl) (anchB_ok (by kernel_rfl))
  (loops_ok (by kernel_rfl:loopsOf b51=[loopAt 3 (loopsOf b51),loopAt 11 (loopsOf b51)]) (.cons (l51_3 N) (.cons (l51_11 N) .nil))) fun d=>e51 N d.1.2.1 d.1.2.2.1 d.2.1.2.1 d.2.1.2.2.1 d.2.2.1
def f32_L5 {R:Type} (N:Nat) (o4:List (List Int×(Int×Unit))) (kb:Int×List Int×Int×Int×(List (List (Int×(Int×(Int×Unit)))))×List Int→Option R) (kx2:Int→Int→(List (List (Int×(Int×(Int×Unit)))))→(List Int)→(List Int)→Option R):Int×List Int×Int×Int×(List (List (Int×(Int×(Int×Unit)))))×List Int→Option R:=
 fun (t6,o0,o1',o1'',o2_1,o3)=>
  cond (!(decide (t6=o1'')))
   ((f49 N t6 o1' o1'' o2_1).bind fun r_1=>
   chk (inb r_1.2.2.1 t6) <|
   (idx r_1.2.2.1 t6).bind fun x=>
   (idx r_1.2.2.1 t6).bind fun x_1=>
   chk (inb x_1 r_1.1.2.1) <|
   (idx r_1.2.2.1 t6).bind fun x_2=>
   (idx x_2 r_1.1.2.1).bind fun x_3=>
   (idx r_1.2.2.1 t6).bind fun x_4=>
   (idx x_4 r_1.1.2.1).bind fun x_5=>
   (f50 N o0 x_5.1).bind fun r_2=>
   chk (decide ((Nat.succ (List.length o3))≤room)) <|
   cond (decide (r_2 < 0))
    (chk (decide ((Nat.succ (List.length o0))≤room)) <|
    chk (inb (o0++(x_5.1 :: ([]:List Int))) (wi64 ((len (o0++(x_5.1 :: ([]:List Int))))-1))) <|
    (idx (o0++(x_5.1 :: ([]:List Int))) (wi64 ((len (o0++(x_5.1 :: ([]:List Int))))-1))).bind fun x_6=>
    kb (x_6,(o0++(x_5.1 :: ([]:List Int))),r_1.2.1.2.1,r_1.2.1.2.2.1,r_1.2.2.1,(o3++(r_1.1.2.1 :: ([]:List Int)))))
    (chk (((decide (0≤r_2)) && (decide (r_2≤(len o0)))) && (decide ((len o0)≤(len o0)))) <|
    chk (((decide (0≤r_2)) && (decide (r_2≤(len (o3++(r_1.1.2.1 :: ([]:List Int))))))) && (decide ((len (o3++(r_1.1.2.1 :: ([]:List Int))))≤(len (o3++(r_1.1.2.1 :: ([]:List Int))))))) <|
    (f51 N (sub o0 r_2 (len o0)) (sub (o3++(r_1.1.2.1 :: ([]:List Int))) r_2 (len (o3++(r_1.1.2.1 :: ([]:List Int))))) r_1.2.1.2.1 r_1.2.1.2.2.1 r_1.2.2.1).bind fun r_3=>
    chk ((decide (0≤(wi64 (r_2+1)))) && (decide ((wi64 (r_2+1))≤(len o0)))) <|
    chk ((decide (0≤r_2)) && (decide (r_2≤(len (o3++(r_1.1.2.1 :: ([]:List Int))))))) <|
    chk ((decide (0≤(wi64 (((wi64 (r_2+1))-0)-1)))) && (decide ((wi64 (((wi64 (r_2+1))-0)-1)) < ((wi64 (r_2+1))-0)))) <|
    (idx o0 (0+(wi64 (((wi64 (r_2+1))-0)-1)))).bind fun x_7=>
    kb (x_7,(sub o0 0 (wi64 (r_2+1))),r_3.2.1.2.1,r_3.2.1.2.2.1,r_3.2.2.1,(sub (o3++(r_1.1.2.1 :: ([]:List Int))) 0 r_2))))
   (kx2 o1' o1'' o2_1 o0 o3)
def f32_L18 {R:Type} (N:Nat) (t10:Int) (t94:Int) (o1'_1:Int) (o1''_1:Int) (o2_2:List (List (Int×(Int×(Int×Unit))))) (o3_2:List Int) (o4_2:List (List Int×(Int×Unit))) (kb:Int×List Int→Option R) (kx4:(List Int)→Option R):Int×List Int→Option R:=
 fun (t95,o0_1)=>
  cond (decide (t95 < t94))
   (chk (inb o3_2 t95) <|
   (idx o3_2 t95).bind fun x_8=>
   (cond (decide ((Int.tmod x_8 2)=0))
     (some (!(decide (x_8=o1'_1))))
     (some false)).bind fun b=>
   cond b
    (chk (decide ((Nat.succ (List.length o0_1))≤room)) <|
    kb ((wi64 (t95+1)),(o0_1++((wi64 (Int.tdiv x_8 2)) :: ([]:List Int)))))
    (kb ((wi64 (t95+1)),o0_1)))
   (kx4 o0_1)
def f32_L2 {R:Type} (N:Nat) (kb:Int×Int×(List (List (Int×(Int×(Int×Unit)))))×(List (List Int×(Int×Unit)))→Option R) (kx0:Int→Int→(List (List (Int×(Int×(Int×Unit)))))→(List (List Int×(Int×Unit)))→Option R):Int×Int×(List (List (Int×(Int×(Int×Unit)))))×(List (List Int×(Int×Unit)))→Option R:=
 fun (o0'_1,o0''_1,o1_1,o2)=>
  (f49 N o0'_1 o0'_1 o0''_1 o1_1).bind fun r=>
  cond (decide (0≤r.1.2.1))
   (iter (fun w=>f32_L5 N o2 w
    (fun o0'_2 o0''_2 o1_2 o3_1 o4_1=>
     chk ((decide (0≤(wi64 ((len o3_1)-1)))) && (decide ((wi64 ((len o3_1)-1))≤(len o3_1)))) <|
     (f51 N (sub o3_1 0 (wi64 ((len o3_1)-1))) o4_1 o0'_2 o0''_2 o1_2).bind fun r_4=>
     iter (fun w=>f32_L18 N r_4.1.2.1 (len o3_1) r_4.2.1.2.1 r_4.2.1.2.2.1 r_4.2.2.1 o3_1 o2 w
      (fun o2_3=>
       chk (decide ((Nat.succ (List.length o2))≤room)) <|
       kb (r_4.2.1.2.1,r_4.2.1.2.2.1,r_4.2.2.1,(o2++((o2_3,(r_4.1.2.1,())) :: ([]:List (List Int×(Int×Unit)))))))) N (0,([]:List Int)))) N (r.2.1.2.1,(r.2.1.2.1 :: ([]:List Int)),r.2.1.2.1,r.2.1.2.2.1,r.2.2.1,([]:List Int)))
   (kx0 r.2.1.2.1 r.2.1.2.2.1 r.2.2.1 o2)
def f32 (N:Nat) (o0':Int) (o0'':Int) (o1:List (List (Int×(Int×(Int×Unit))))):Option (((Unit×(Unit×Unit))×((Unit×(Int×(Int×Unit)))×((List (List (Int×(Int×(Int×Unit)))))×((List (List Int×(Int×Unit)))×Unit))))):=
 iter (fun w=>f32_L2 N w
  (fun o0'_3 o0''_3 o1_3 o2_4=>
   some (((),((),())),(((),(o0'_3,(o0''_3,()))),(o1_3,(o2_4,())))))) N (o0',o0'',o1,([]:List (List Int×(Int×Unit))))
def fi32:SForm:=⟨[(0,(.bptr 0 []))],[.cell (.agg (.pr (.nv 1) (.pr (.val (.int .i64)) (.pr (.val (.int .i64)) .un)))),.nest (.sl true (.pair (.int .i64) (.pair (.int .i64) (.pair (.int .i64) .unit))))]⟩
def fo32:SForm:=⟨[(0,(.bptr 0 [])),(2,(.ref 2))],[.cell (.agg (.pr (.nv 1) (.pr (.val (.int .i64)) (.pr (.val (.int .i64)) .un)))),.nest (.sl true (.pair (.int .i64) (.pair (.int .i64) (.pair (.int .i64) .unit)))),.row (.pair (.sl false (.int .i64)) (.pair (.int .i64) .unit))]⟩
def c32 (N:Nat):Callee:=.mut fi32 [0] fo32 fun d=>f32 N d.2.1.2.1 d.2.1.2.2.1 d.2.2.1
def F32_5:SForm:=⟨[(4,(.ref 0)),(0,(.bptr 1 [])),(5,(.ref 3)),(6,(.val (.int .i64))),(3,(.ref 4))],[.row (.int .i64),.cell (.agg (.pr (.nv 2) (.pr (.val (.int .i64)) (.pr (.val (.int .i64)) .un)))),.nest (.sl true (.pair (.int .i64) (.pair (.int .i64) (.pair (.int .i64) .unit)))),.row (.int .i64),.row (.pair (.sl false (.int .i64)) (.pair (.int .i64) .unit))]⟩
def G32_5 (N:Nat):(R:Type)→F32_5.den→(AExit→St→Option R)→Option R:=fun R d k=>iter (fun kb=>f32_L5 N d.2.2.2.2.2.1 kb
  (fun y0 y1 y2 y4 y5=>k (.exit 2) (St.of [(0,(.bptr 0 [])),(3,(.ref 2 [] 0)),(4,(.ref 3 [] 0)),(5,(.ref 4 [] 0))] [.cell (.agg (.pr (.nv false 1 [] 0) (.pr (.data (.int .i64) y0) (.pr (.data (.int .i64) y1) .un)))),.nest (.sl true (.pair (.int .i64) (.pair (.int .i64) (.pair (.int .i64) .unit)))) y2 0 0 none,.row (.pair (.sl false (.int .i64)) (.pair (.int .i64) .unit)) d.2.2.2.2.2.1 0,.row (.int .i64) y4 0,.row (.int .i64) y5 0]))) N (d.1.2.2.2.1,d.2.1,d.2.2.1.2.1,d.2.2.1.2.2.1,d.2.2.2.1,d.2.2.2.2.1)
def F32_18:SForm:=⟨[(95,(.val (.int .i64))),(11,(.ref 0)),(0,(.bptr 1 [])),(93,(.ref 3)),(10,(.val (.int .i64))),(3,(.ref 4)),(94,(.val (.int .i64)))],[.row (.int .i64),.cell (.agg (.pr (.nv 2) (.pr (.val (.int .i64)) (.pr (.val (.int .i64)) .un)))),.nest (.sl true (.pair (.int .i64) (.pair (.int .i64) (.pair (.int .i64) .unit)))),.row (.int .i64),.row (.pair (.sl false (.int .i64)) (.pair (.int .i64) .unit))]⟩
def G32_18 (N:Nat):(R:Type)→F32_18.den→(AExit→St→Option R)→Option R:=fun R d k=>iter (fun kb=>f32_L18 N d.1.2.2.2.2.1 d.1.2.2.2.2.2.2.1 d.2.2.1.2.1 d.2.2.1.2.2.1 d.2.2.2.1 d.2.2.2.2.1 d.2.2.2.2.2.1 kb
  (fun y4=>k (.exit 4) (St.of [(0,(.bptr 0 [])),(10,(.data (.int .i64) d.1.2.2.2.2.1)),(11,(.ref 2 [] 0)),(3,(.ref 3 [] 0))] [.cell (.agg (.pr (.nv false 1 [] 0) (.pr (.data (.int .i64) d.2.2.1.2.1) (.pr (.data (.int .i64) d.2.2.1.2.2.1) .un)))),.nest (.sl true (.pair (.int .i64) (.pair (.int .i64) (.pair (.int .i64) .unit)))) d.2.2.2.1 0 0 none,.row (.int .i64) y4 0,.row (.pair (.sl false (.int .i64)) (.pair (.int .i64) .unit)) d.2.2.2.2.2.1 0]))) N (d.1.1,d.2.1)
def F32_2:SForm:=⟨[(0,(.bptr 0 [])),(3,(.ref 2))],[.cell (.agg (.pr (.nv 1) (.pr (.val (.int .i64)) (.pr (.val (.int .i64)) .un)))),.nest (.sl true (.pair (.int .i64) (.pair (.int .i64) (.pair (.int .i64) .unit)))),.row (.pair (.sl false (.int .i64)) (.pair (.int .i64) .unit))]⟩
def G32_2 (N:Nat):(R:Type)→F32_2.den→(AExit→St→Option R)→Option R:=fun R d k=>iter (fun kb=>f32_L2 N kb
  (fun y0 y1 y2 y3=>k (.exit 0) (St.of [(0,(.bptr 0 [])),(3,(.ref 2 [] 0))] [.cell (.agg (.pr (.nv false 1 [] 0) (.pr (.data (.int .i64) y0) (.pr (.data (.int .i64) y1) .un)))),.nest (.sl true (.pair (.int .i64) (.pair (.int .i64) (.pair (.int .i64) .unit)))) y2 0 0 none,.row (.pair (.sl false (.int .i64)) (.pair (.int .i64) .unit)) y3 0]))) N (d.2.1.2.1,d.2.1.2.2.1,d.2.2.1,d.2.2.2.1)
def lp32 (N:Nat):Nat→Option LoopFn:=fun r=>cond (Nat.beq r 5) (some fun R sl os k=>F32_5.take sl os fun d=>G32_5 N R d k) (cond (Nat.beq r 18) (some fun R sl os k=>F32_18.take sl os fun d=>G32_18 N R d k) (cond (Nat.beq r 2) (some fun R sl os k=>F32_2.take sl os fun d=>G32_2 N R d k) (none)))
def x32 (N:Nat):Ctx:={ fuel:=N,tt:=getL ttL,mt:=getL mtL,ntmps:=123,env:=fun f=>(getL [(49,[c49 N]),(50,[c50 N]),(51,[c51 N])] f).getD [],cut:=getL [(2,⟨[0,3],[(3,none,.row (.pair (.sl false (.int .i64)) (.pair (.int .i64) .unit)))]⟩),(5,⟨[4,0,5,6,3],[(4,none,.row (.int .i64)),(5,none,.row (.int .i64))]⟩),(18,⟨[95,11,0,93,10,3,94],[(11,none,.row (.int .i64))]⟩)],exits:=fun r=>getL ((getL [(2,[(0,⟨[0,3],[]⟩)]),(5,[(2,⟨[0,3,4,5],[]⟩)]),(18,[(4,⟨[0,10,11,3],[]⟩)])] r).getD []),res:=⟨[0,2],[]⟩,own:=fun _=>none,lp:=lp32 N,eqs:=fun T=>memN T eqL,ct:=fun T=>memN T ctL,ms:=getMs msL }
noncomputable def b32:Code:=((Go.Proofs.Try.f32).body).getD .skip
theorem s32_5 (N:Nat) {R:Type} (k:AExit→St→Option R) (o4:List (List Int×(Int×Unit))) (kb:List (Nat×AVal)→List Obj→Option R) (x:Int×List Int×Int×Int×(List (List (Int×(Int×(Int×Unit)))))×List Int):codeK (x32 N) (loopAt 5 (loopsOf b32)) (St.of [(4,(.ref 0 [] 0)),(0,(.bptr 1 [])),(5,(.ref 3 [] 0)),(6,(.data (.int .i64) x.1)),(3,(.ref 4 [] 0))] [.row (.int .i64) x.2.1 0,.cell (.agg (.pr (.nv false 2 [] 0) (.pr (.data (.int .i64) x.2.2.1) (.pr (.data (.int .i64) x.2.2.2.1) .un)))),.nest (.sl true (.pair (.int .i64) (.pair (.int .i64) (.pair (.int .i64) .unit)))) x.2.2.2.2.1 0 0 none,.row (.int .i64) x.2.2.2.2.2 0,.row (.pair (.sl false (.int .i64)) (.pair (.int .i64) .unit)) o4 0]) (kLoop (x32 N) 5 ⟨[4,0,5,6,3],[(4,none,.row (.int .i64)),(5,none,.row (.int .i64))]⟩ kb k)=f32_L5 N o4 (fun y=>kb [(4,(.ref 0 [] 0)),(0,(.bptr 1 [])),(5,(.ref 3 [] 0)),(6,(.data (.int .i64) y.1)),(3,(.ref 4 [] 0))] [.row (.int .i64) y.2.1 0,.cell (.agg (.pr (.nv false 2 [] 0) (.pr (.data (.int .i64) y.2.2.1) (.pr (.data (.int .i64) y.2.2.2.1) .un)))),.nest (.sl true (.pair (.int .i64) (.pair (.int .i64) (.pair (.int .i64) .unit)))) y.2.2.2.2.1 0 0 none,.row (.int .i64) y.2.2.2.2.2 0,.row (.pair (.sl false (.int .i64)) (.pair (.int .i64) .unit)) o4 0])
  (fun y0 y1 y2 y4 y5=>k (.exit 2) (St.of [(0,(.bptr 0 [])),(3,(.ref 2 [] 0)),(4,(.ref 3 [] 0)),(5,(.ref 4 [] 0))] [.cell (.agg (.pr (.nv false 1 [] 0) (.pr (.data (.int .i64) y0) (.pr (.data (.int .i64) y1) .un)))),.nest (.sl true (.pair (.int .i64) (.pair (.int .i64) (.pair (.int .i64) .unit)))) y2 0 0 none,.row (.pair (.sl false (.int .i64)) (.pair (.int .i64) .unit)) o4 0,.row (.int .i64) y4 0,.row (.int .i64) y5 0])) x:=by kernel_rfl
theorem l32_5 (N:Nat):LoopOK (x32 N) (loopAt 5 (loopsOf b32)):=
 loop_mk (G32_5 N) (by kernel_rfl) (by kernel_rfl) (by kernel_rfl) fun R k d=>
  loop_eq (st:=fun (x:Int×List Int×Int×Int×(List (List (Int×(Int×(Int×Unit)))))×List Int)=>([(4,(.ref 0 [] 0)),(0,(.bptr 1 [])),(5,(.ref 3 [] 0)),(6,(.data (.int .i64) x.1)),(3,(.ref 4 [] 0))],[.row (.int .i64) x.2.1 0,.cell (.agg (.pr (.nv false 2 [] 0) (.pr (.data (.int .i64) x.2.2.1) (.pr (.data (.int .i64) x.2.2.2.1) .un)))),.nest (.sl true (.pair (.int .i64) (.pair (.int .i64) (.pair (.int .i64) .unit)))) x.2.2.2.2.1 0 0 none,.row (.int .i64) x.2.2.2.2.2 0,.row (.pair (.sl false (.int .i64)) (.pair (.int .i64) .unit)) d.2.2.2.2.2.1 0])) (s32_5 N k d.2.2.2.2.2.1) N (d.1.2.2.2.1,d.2.1,d.2.2.1.2.1,d.2.2.1.2.2.1,d.2.2.2.1,d.2.2.2.2.1)
theorem s32_18 (N:Nat) {R:Type} (k:AExit→St→Option R) (t10:Int) (t94:Int) (o1'_1:Int) (o1''_1:Int) (o2_2:List (List (Int×(Int×(Int×Unit))))) (o3_2:List Int) (o4_2:List (List Int×(Int×Unit))) (kb:List (Nat×AVal)→List Obj→Option R) (x:Int×List Int):codeK (x32 N) (loopAt 18 (loopsOf b32)) (St.of [(95,(.data (.int .i64) x.1)),(11,(.ref 0 [] 0)),(0,(.bptr 1 [])),(93,(.ref 3 [] 0)),(10,(.data (.int .i64) t10)),(3,(.ref 4 [] 0)),(94,(.data (.int .i64) t94))] [.row (.int .i64) x.2 0,.cell (.agg (.pr (.nv false 2 [] 0) (.pr (.data (.int .i64) o1'_1) (.pr (.data (.int .i64) o1''_1) .un)))),.nest (.sl true (.pair (.int .i64) (.pair (.int .i64) (.pair (.int .i64) .unit)))) o2_2 0 0 none,.row (.int .i64) o3_2 0,.row (.pair (.sl false (.int .i64)) (.pair (.int .i64) .unit)) o4_2 0]) (kLoop (x32 N) 18 ⟨[95,11,0,93,10,3,94],[(11,none,.row (.int .i64))]⟩ kb k)=f32_L18 N t10 t94 o1'_1 o1''_1 o2_2 o3_2 o4_2 (fun y=>kb [(95,(.data (.int .i64) y.1)),(11,(.ref 0 [] 0)),(0,(.bptr 1 [])),(93,(.ref 3 [] 0)),(10,(.data (.int .i64) t10)),(3,(.ref 4 [] 0)),(94,(.data (.int .i64) t94))] [.row (.int .i64) y.2 0,.cell (.agg (.pr (.nv false 2 [] 0) (.pr (.data (.int .i64) o1'_1) (.pr (.data (.int .i64) o1''_1) .un)))),.nest (.sl true (.pair (.int .i64) (.pair (.int .i64) (.pair (.int .i64) .unit)))) o2_2 0 0 none,.row (.int .i64) o3_2 0,.row (.pair (.sl false (.int .i64)) (.pair (.int .i64) .unit)) o4_2 0])
  (fun y4=>k (.exit 4) (St.of [(0,(.bptr 0 [])),(10,(.data (.int .i64) t10)),(11,(.ref 2 [] 0)),(3,(.ref 3 [] 0))] [.cell (.agg (.pr (.nv false 1 [] 0) (.pr (.data (.int .i64) o1'_1) (.pr (.data (.int .i64) o1''_1) .un)))),.nest (.sl true (.pair (.int .i64) (.pair (.int .i64) (.pair (.int .i64) .unit)))) o2_2 0 0 none,.row (.int .i64) y4 0,.row (.pair (.sl false (.int .i64)) (.pair (.int .i64) .unit)) o4_2 0])) x:=by kernel_rfl
theorem l32_18 (N:Nat):LoopOK (x32 N) (loopAt 18 (loopsOf b32)):=
 loop_mk (G32_18 N) (by kernel_rfl) (by kernel_rfl) (by kernel_rfl) fun R k d=>
  loop_eq (st:=fun (x:Int×List Int)=>([(95,(.data (.int .i64) x.1)),(11,(.ref 0 [] 0)),(0,(.bptr 1 [])),(93,(.ref 3 [] 0)),(10,(.data (.int .i64) d.1.2.2.2.2.1)),(3,(.ref 4 [] 0)),(94,(.data (.int .i64) d.1.2.2.2.2.2.2.1))],[.row (.int .i64) x.2 0,.cell (.agg (.pr (.nv false 2 [] 0) (.pr (.data (.int .i64) d.2.2.1.2.1) (.pr (.data (.int .i64) d.2.2.1.2.2.1) .un)))),.nest (.sl true (.pair (.int .i64) (.pair (.int .i64) (.pair (.int .i64) .unit)))) d.2.2.2.1 0 0 none,.row (.int .i64) d.2.2.2.2.1 0,.row (.pair (.sl false (.int .i64)) (.pair (.int .i64) .unit)) d.2.2.2.2.2.1 0])) (s32_18 N k d.1.2.2.2.2.1 d.1.2.2.2.2.2.2.1 d.2.2.1.2.1 d.2.2.1.2.2.1 d.2.2.2.1 d.2.2.2.2.1 d.2.2.2.2.2.1) N (d.1.1,d.2.1)
theorem s32_2 (N:Nat) {R:Type} (k:AExit→St→Option R) (kb:List (Nat×AVal)→List Obj→Option R) (x:Int×Int×(List (List (Int×(Int×(Int×Unit)))))×(List (List Int×(Int×Unit)))):codeK (x32 N) (loopAt 2 (loopsOf b32)) (St.of [(0,(.bptr 0 [])),(3,(.ref 2 [] 0))] [.cell (.agg (.pr (.nv false 1 [] 0) (.pr (.data (.int .i64) x.1) (.pr (.data (.int .i64) x.2.1) .un)))),.nest (.sl true (.pair (.int .i64) (.pair (.int .i64) (.pair (.int .i64) .unit)))) x.2.2.1 0 0 none,.row (.pair (.sl false (.int .i64)) (.pair (.int .i64) .unit)) x.2.2.2 0]) (kLoop (x32 N) 2 ⟨[0,3],[(3,none,.row (.pair (.sl false (.int .i64)) (.pair (.int .i64) .unit)))]⟩ kb k)=f32_L2 N (fun y=>kb [(0,(.bptr 0 [])),(3,(.ref 2 [] 0))] [.cell (.agg (.pr (.nv false 1 [] 0) (.pr (.data (.int .i64) y.1) (.pr (.data (.int .i64) y.2.1) .un)))),.nest (.sl true (.pair (.int .i64) (.pair (.int .i64) (.pair (.int .i64) .unit)))) y.2.2.1 0 0 none,.row (.pair (.sl false (.int .i64)) (.pair (.int .i64) .unit)) y.2.2.2 0])
  (fun y0 y1 y2 y3=>k (.exit 0) (St.of [(0,(.bptr 0 [])),(3,(.ref 2 [] 0))] [.cell (.agg (.pr (.nv false 1 [] 0) (.pr (.data (.int .i64) y0) (.pr (.data (.int .i64) y1) .un)))),.nest (.sl true (.pair (.int .i64) (.pair (.int .i64) (.pair (.int .i64) .unit)))) y2 0 0 none,.row (.pair (.sl false (.int .i64)) (.pair (.int .i64) .unit)) y3 0])) x:=by kernel_rfl
theorem l32_2 (N:Nat):LoopOK (x32 N) (loopAt 2 (loopsOf b32)):=
 loop_mk (G32_2 N) (by kernel_rfl) (by kernel_rfl) (by kernel_rfl) fun R k d=>
  loop_eq (st:=fun (x:Int×Int×(List (List (Int×(Int×(Int×Unit)))))×(List (List Int×(Int×Unit))))=>([(0,(.bptr 0 [])),(3,(.ref 2 [] 0))],[.cell (.agg (.pr (.nv false 1 [] 0) (.pr (.data (.int .i64) x.1) (.pr (.data (.int .i64) x.2.1) .un)))),.nest (.sl true (.pair (.int .i64) (.pair (.int .i64) (.pair (.int .i64) .unit)))) x.2.2.1 0 0 none,.row (.pair (.sl false (.int .i64)) (.pair (.int .i64) .unit)) x.2.2.2 0])) (s32_2 N k) N (d.2.1.2.1,d.2.1.2.2.1,d.2.2.1,d.2.2.2.1)
theorem e32 (N:Nat) (o0':Int) (o0'':Int) (o1:List (List (Int×(Int×(Int×Unit))))):bodyM (x32 N) fo32 b32 (St.of [(0,(.bptr 0 []))] [.cell (.agg (.pr (.nv false 1 [] 0) (.pr (.data (.int .i64) o0') (.pr (.data (.int .i64) o0'') .un)))),.nest (.sl true (.pair (.int .i64) (.pair (.int .i64) (.pair (.int .i64) .unit)))) o1 0 0 none])=f32 N o0' o0'' o1:=by kernel_rfl
theorem k32 (N:Nat):CalleeOK Go.Proofs.Try.prog 32 (c32 N):=
 fn_ok_mut (fn:=Go.Proofs.Try.f32) (body:=b32) (c:=x32 N) (rs:=[2]) Go.Proofs.Try.func32 (by kernel_rfl) (by kernel_rfl) ⟨ttL_ok,mtL_ok,eqL_ok,ctL_ok,msL_ok,env_cons (forall_mem1 (k49 N)) (env_cons (forall_mem1 (k50 N)) (env_cons (forall_mem1 (k51 N)) (env_nil)))⟩ mixed (by kernel_rfl) (Nat.le_of_ble_eq_true (by kernel_rfl)) (by kernel_rfl) (by kernel_rfl) (by kernel_rfl) (anchB_ok (by kernel_rfl))
  (loops_ok (by kernel_rfl:loopsOf b32=[loopAt 2 (loopsOf b32),loopAt 5 (loopsOf b32),loopAt 18 (loopsOf b32)]) (.cons (l32_2 N) (.cons (l32_5 N) (.cons (l32_18 N) .nil)))) fun d=>e32 N d.2.1.2.1 d.2.1.2.2.1 d.2.2.1
def f13_L7 {R:Type} (N:Nat) (t41:List Int) (t1:List Int) (t3:List Int) (t2:List Int) (t13:List (List Int)) (t42:Int) (o1:(Int×(List (List Int)×Unit))) (kb:Int×List Bool→Option R) (kx0:(List Bool)→Option R):Int×List Bool→Option R:=
 fun (t43,o0)=>
  cond (decide (t43 < t42))
   ((idx t41 t43).bind fun x=>
   chk (inb o0 t43) <|
   (idx o0 t43).bind fun x_1=>
   (idx o0 t43).bind fun x_2=>
   kb ((wi64 (t43+1)),(setI o0 t43 (decide (0≤x)))))
   (kx0 o0)
def f13_L18 {R:Type} (N:Nat) (t1_1:List Int) (t71:Int) (o1_2:List (List Int)) (o2':Int) (o2'':Int) (o3:List (List (Int×(Int×(Int×Unit))))) (kb:Int×Int×List Int→Option R) (kx2:Int→(List Int)→Option R):Int×Int×List Int→Option R:=
 fun (t72,t22,o0_1)=>
  cond (decide (t72 < t71))
   (chk (inb o1_2 (wi64 (2*t72))) <|
   (idx o1_2 (wi64 (2*t72))).bind fun x_3=>
   chk (inb x_3 0) <|
   (idx o1_2 (wi64 (2*t72))).bind fun x_4=>
   (idx x_4 0).bind fun x_5=>
   (cond (decide (0≤x_5))
     (chk (inb o1_2 (wi64 ((wi64 (2*t72))+1))) <|
     (idx o1_2 (wi64 ((wi64 (2*t72))+1))).bind fun x_6=>
     chk (inb x_6 0) <|
     (idx o1_2 (wi64 ((wi64 (2*t72))+1))).bind fun x_7=>
     (idx x_7 0).bind fun x_8=>
     some (decide (x_8 < 0)))
     (some false)).bind fun b=>
   cond b
    (chk (decide ((Nat.succ (List.length o0_1))≤room)) <|
    (idx t1_1 t72).bind fun x_9=>
    kb ((wi64 (t72+1)),(wi64 (t22+x_9)),(o0_1++(t72 :: ([]:List Int)))))
    (kb ((wi64 (t72+1)),t22,o0_1)))
   (kx2 t22 o0_1)
def f13 (N:Nat) (a0:(Int×(List (List Int)×Unit))) (a1:List Int) (a2:List Int) (a3:List Int):Option (List Int×(List (List Int×(Int×Unit)))×Int×Int):=
 (f27 N a0 a1 (a2 :: (a3 :: ([]:List (List Int))))).bind fun r=>
 cond (!(decide (r=0)))
  (some (([]:List Int),(([]:List (List Int×(Int×Unit))),(0,r))))
  ((f28 N a0).bind fun r_1=>
  chk (((decide (0≤a0.1)) && (decide (a0.1≤a0.1))) && (decide (a0.1≤((room:Nat):Int)))) <|
  iter (fun w=>f13_L7 N a1 a1 a3 a2 r_1.1 (len a1) a0 w
   (fun o1_1=>
    (f29 N r_1.1 a2 a3 o1_1).bind fun r_2=>
    cond (!r_2)
     (some (([]:List Int),(([]:List (List Int×(Int×Unit))),(0,11))))
     ((f30 N r_1.1 a1 a2 a3).bind fun r_3=>
     (f31 N r_3.2.1.2.1 r_3.2.1.2.2.1 r_3.2.2.1).bind fun r_4=>
     iter (fun w=>f13_L18 N a1 a0.1 r_4.2.2.2.1 r_4.2.1.2.1 r_4.2.1.2.2.1 r_4.2.2.1 w
      (fun t22_1 o2=>
       (f32 N r_4.2.1.2.1 r_4.2.1.2.2.1 r_4.2.2.1).bind fun r_5=>
       some (o2,(r_5.2.2.2.1,(t22_1,0))))) N (0,0,([]:List Int))))) N (0,(List.replicate (Int.toNat a0.1) false:List Bool)))
def c13 (N:Nat):Callee:=.pure (.pr (.val (.pair (.int .i64) (.pair (.sl false (.arr 2 (.int .i64))) .unit))) (.pr (.val (.sl false (.int .i64))) (.pr (.val (.sl false (.int .i64))) (.pr (.val (.sl false (.int .i64))) .un)))) [(.sl true (.int .i64)),(.sl false (.pair (.sl false (.int .i64)) (.pair (.int .i64) .unit))),(.int .i64),(.int .i64)] fun d=>f13 N d.1 d.2.1 d.2.2.1 d.2.2.2.1
def F13_7:SForm:=⟨[(43,(.val (.int .i64))),(15,(.ref 0)),(41,(.val (.sl false (.int .i64)))),(1,(.val (.sl false (.int .i64)))),(4,(.bptr 1 [])),(3,(.val (.sl false (.int .i64)))),(2,(.val (.sl false (.int .i64)))),(13,(.val (.sl false (.sl false (.int .i64))))),(42,(.val (.int .i64)))],[.row .bool,.cell (.val (.pair (.int .i64) (.pair (.sl false (.arr 2 (.int .i64))) .unit)))]⟩
def G13_7 (N:Nat):(R:Type)→F13_7.den→(AExit→St→Option R)→Option R:=fun R d k=>iter (fun kb=>f13_L7 N d.1.2.2.1 d.1.2.2.2.1 d.1.2.2.2.2.2.1 d.1.2.2.2.2.2.2.1 d.1.2.2.2.2.2.2.2.1 d.1.2.2.2.2.2.2.2.2.1 d.2.2.1 kb
  (fun y5=>k (.exit 0) (St.of [(1,(.data (.sl false (.int .i64)) d.1.2.2.2.1)),(4,(.bptr 0 [])),(3,(.data (.sl false (.int .i64)) d.1.2.2.2.2.2.1)),(2,(.data (.sl false (.int .i64)) d.1.2.2.2.2.2.2.1)),(13,(.data (.sl false (.sl false (.int .i64))) d.1.2.2.2.2.2.2.2.1)),(15,(.ref 1 [] 0))] [.cell (.data (.pair (.int .i64) (.pair (.sl false (.arr 2 (.int .i64))) .unit)) d.2.2.1),.row .bool y5 0]))) N (d.1.1,d.2.1)
def F13_18:SForm:=⟨[(72,(.val (.int .i64))),(1,(.val (.sl false (.int .i64)))),(22,(.val (.int .i64))),(21,(.ref 0)),(20,(.ref 1)),(18,(.bptr 2 [])),(71,(.val (.int .i64)))],[.row (.int .i64),.row (.arr 2 (.int .i64)),.cell (.agg (.pr (.nv 3) (.pr (.val (.int .i64)) (.pr (.val (.int .i64)) .un)))),.nest (.sl true (.pair (.int .i64) (.pair (.int .i64) (.pair (.int .i64) .unit))))]⟩
def G13_18 (N:Nat):(R:Type)→F13_18.den→(AExit→St→Option R)→Option R:=fun R d k=>iter (fun kb=>f13_L18 N d.1.2.1 d.1.2.2.2.2.2.2.1 d.2.2.1 d.2.2.2.1.2.1 d.2.2.2.1.2.2.1 d.2.2.2.2.1 kb
  (fun y0 y4=>k (.exit 2) (St.of [(22,(.data (.int .i64) y0)),(18,(.bptr 0 [])),(21,(.ref 2 [] 0))] [.cell (.agg (.pr (.nv false 1 [] 0) (.pr (.data (.int .i64) d.2.2.2.1.2.1) (.pr (.data (.int .i64) d.2.2.2.1.2.2.1) .un)))),.nest (.sl true (.pair (.int .i64) (.pair (.int .i64) (.pair (.int .i64) .unit)))) d.2.2.2.2.1 0 0 none,.row (.int .i64) y4 0]))) N (d.1.1,d.1.2.2.1,d.2.1)
def lp13 (N:Nat):Nat→Option LoopFn:=fun r=>cond (Nat.beq r 7) (some fun R sl os k=>F13_7.take sl os fun d=>G13_7 N R d k) (cond (Nat.beq r 18) (some fun R sl os k=>F13_18.take sl os fun d=>G13_18 N R d k) (none))
def x13 (N:Nat):Ctx:={ fuel:=N,tt:=getL ttL,mt:=getL mtL,ntmps:=107,env:=fun f=>(getL [(27,[c27 N]),(28,[c28 N]),(29,[c29 N]),(30,[c30 N]),(31,[c31 N]),(32,[c32 N])] f).getD [],cut:=getL [(7,⟨[43,15,41,1,4,3,2,13,42],[]⟩),(18,⟨[72,1,22,21,20,18,71],[(21,none,.row (.int .i64))]⟩)],exits:=fun r=>getL ((getL [(7,[(0,⟨[1,4,3,2,13,15],[]⟩)]),(18,[(2,⟨[22,18,21],[]⟩)])] r).getD []),res:=⟨[8,9,10,11],[]⟩,own:=fun _=>none,lp:=lp13 N,eqs:=fun T=>memN T eqL,ct:=fun T=>memN T ctL,ms:=getMs msL }
noncomputable def b13:Code:=((Go.Proofs.Try.f13).body).getD .skip
theorem s13_7 (N:Nat) {R:Type} (k:AExit→St→Option R) (t41:List Int) (t1:List Int) (t3:List Int) (t2:List Int) (t13:List (List Int)) (t42:Int) (o1:(Int×(List (List Int)×Unit))) (kb:List (Nat×AVal)→List Obj→Option R) (x:Int×List Bool):codeK (x13 N) (loopAt 7 (loopsOf b13)) (St.of [(43,(.data (.int .i64) x.1)),(15,(.ref 0 [] 0)),(41,(.data (.sl false (.int .i64)) t41)),(1,(.data (.sl false (.int .i64)) t1)),(4,(.bptr 1 [])),(3,(.data (.sl false (.int .i64)) t3)),(2,(.data (.sl false (.int .i64)) t2)),(13,(.data (.sl false (.sl false (.int .i64))) t13)),(42,(.data (.int .i64) t42))] [.row .bool x.2 0,.cell (.data (.pair (.int .i64) (.pair (.sl false (.arr 2 (.int .i64))) .unit)) o1)]) (kLoop (x13 N) 7 ⟨[43,15,41,1,4,3,2,13,42],[]⟩ kb k)=f13_L7 N t41 t1 t3 t2 t13 t42 o1 (fun y=>kb [(43,(.data (.int .i64) y.1)),(15,(.ref 0 [] 0)),(41,(.data (.sl false (.int .i64)) t41)),(1,(.data (.sl false (.int .i64)) t1)),(4,(.bptr 1 [])),(3,(.data (.sl false (.int .i64)) t3)),(2,(.data (.sl false (.int .i64)) t2)),(13,(.data (.sl false (.sl false (.int .i64))) t13)),(42,(.data (.int .i64) t42))] [.row .bool y.2 0,.cell (.data (.pair (.int .i64) (.pair (.sl false (.arr 2 (.int .i64))) .unit)) o1)])
  (fun y5=>k (.exit 0) (St.of [(1,(.data (.sl false (.int .i64)) t1)),(4,(.bptr 0 [])),(3,(.data (.sl false (.int .i64)) t3)),(2,(.data (.sl false (.int .i64)) t2)),(13,(.data (.sl false (.sl false (.int .i64))) t13)),(15,(.ref 1 [] 0))] [.cell (.data (.pair (.int .i64) (.pair (.sl false (.arr 2 (.int .i64))) .unit)) o1),.row .bool y5 0])) x:=by kernel_rfl
theorem l13_7 (N:Nat):LoopOK (x13 N) (loopAt 7 (loopsOf b13)):=
 loop_mk (G13_7 N) (by kernel_rfl) (by kernel_rfl) (by kernel_rfl) fun R k d=>
  loop_eq (st:=fun (x:Int×List Bool)=>([(43,(.data (.int .i64) x.1)),(15,(.ref 0 [] 0)),(41,(.data (.sl false (.int .i64)) d.1.2.2.1)),(1,(.data (.sl false (.int .i64)) d.1.2.2.2.1)),(4,(.bptr 1 [])),(3,(.data (.sl false (.int .i64)) d.1.2.2.2.2.2.1)),(2,(.data (.sl false (.int .i64)) d.1.2.2.2.2.2.2.1)),(13,(.data (.sl false (.sl false (.int .i64))) d.1.2.2.2.2.2.2.2.1)),(42,(.data (.int .i64) d.1.2.2.2.2.2.2.2.2.1))],[.row .bool x.2 0,.cell (.data (.pair (.int .i64) (.pair (.sl false (.arr 2 (.int .i64))) .unit)) d.2.2.1)])) (s13_7 N k d.1.2.2.1 d.1.2.2.2.1 d.1.2.2.2.2.2.1 d.1.2.2.2.2.2.2.1 d.1.2.2.2.2.2.2.2.1 d.1.2.2.2.2.2.2.2.2.1 d.2.2.1) N (d.1.1,d.2.1)
theorem s13_18 (N:Nat) {R:Type} (k:AExit→St→Option R) (t1_1:List Int) (t71:Int) (o1_2:List (List Int)) (o2':Int) (o2'':Int) (o3:List (List (Int×(Int×(Int×Unit))))) (kb:List (Nat×AVal)→List Obj→Option R) (x:Int×Int×List Int):codeK (x13 N) (loopAt 18 (loopsOf b13)) (St.of [(72,(.data (.int .i64) x.1)),(1,(.data (.sl false (.int .i64)) t1_1)),(22,(.data (.int .i64) x.2.1)),(21,(.ref 0 [] 0)),(20,(.ref 1 [] 0)),(18,(.bptr 2 [])),(71,(.data (.int .i64) t71))] [.row (.int .i64) x.2.2 0,.row (.arr 2 (.int .i64)) o1_2 0,.cell (.agg (.pr (.nv false 3 [] 0) (.pr (.data (.int .i64) o2') (.pr (.data (.int .i64) o2'') .un)))),.nest (.sl true (.pair (.int .i64) (.pair (.int .i64) (.pair (.int .i64) .unit)))) o3 0 0 none]) (kLoop (x13 N) 18 ⟨[72,1,22,21,20,18,71],[(21,none,.row (.int .i64))]⟩ kb k)=f13_L18 N t1_1 t71 o1_2 o2' o2'' o3 (fun y=>kb [(72,(.data (.int .i64) y.1)),(1,(.data (.sl false (.int .i64)) t1_1)),(22,(.data (.int .i64) y.2.1)),(21,(.ref 0 [] 0)),(20,(.ref 1 [] 0)),(18,(.bptr 2 [])),(71,(.data (.int .i64) t71))] [.row (.int .i64) y.2.2 0,.row (.arr 2 (.int .i64)) o1_2 0,.cell (.agg (.pr (.nv false 3 [] 0) (.pr (.data (.int .i64) o2') (.pr (.data (.int .i64) o2'') .un)))),.nest (.sl true (.pair (.int .i64) (.pair (.int .i64) (.pair (.int .i64) .unit)))) o3 0 0 none])
  (fun y0 y4=>k (.exit 2) (St.of [(22,(.data (.int .i64) y0)),(18,(.bptr 0 [])),(21,(.ref 2 [] 0))] [.cell (.agg (.pr (.nv false 1 [] 0) (.pr (.data (.int .i64) o2') (.pr (.data (.int .i64) o2'') .un)))),.nest (.sl true (.pair (.int .i64) (.pair (.int .i64) (.pair (.int .i64) .unit)))) o3 0 0 none,.row (.int .i64) y4 0])) x:=by kernel_rfl
theorem l13_18 (N:Nat):LoopOK (x13 N) (loopAt 18 (loopsOf b13)):=
 loop_mk (G13_18 N) (by kernel_rfl) (by kernel_rfl) (by kernel_rfl) fun R k d=>
  loop_eq (st:=fun (x:Int×Int×List Int)=>([(72,(.data (.int .i64) x.1)),(1,(.data (.sl false (.int .i64)) d.1.2.1)),(22,(.data (.int .i64) x.2.1)),(21,(.ref 0 [] 0)),(20,(.ref 1 [] 0)),(18,(.bptr 2 [])),(71,(.data (.int .i64) d.1.2.2.2.2.2.2.1))],[.row (.int .i64) x.2.2 0,.row (.arr 2 (.int .i64)) d.2.2.1 0,.cell (.agg (.pr (.nv false 3 [] 0) (.pr (.data (.int .i64) d.2.2.2.1.2.1) (.pr (.data (.int .i64) d.2.2.2.1.2.2.1) .un)))),.nest (.sl true (.pair (.int .i64) (.pair (.int .i64) (.pair (.int .i64) .unit)))) d.2.2.2.2.1 0 0 none])) (s13_18 N k d.1.2.1 d.1.2.2.2.2.2.2.1 d.2.2.1 d.2.2.2.1.2.1 d.2.2.2.1.2.2.1 d.2.2.2.2.1) N (d.1.1,d.1.2.2.1,d.2.1)
theorem e13 (N:Nat) (a0:(Int×(List (List Int)×Unit))) (a1:List Int) (a2:List Int) (a3:List Int):bodyK (x13 N) [(.sl true (.int .i64)),(.sl false (.pair (.sl false (.int .i64)) (.pair (.int .i64) .unit))),(.int .i64),(.int .i64)] [.tmp 8,.tmp 9,.tmp 10,.tmp 11] b13 (entry (.pr (.val (.pair (.int .i64) (.pair (.sl false (.arr 2 (.int .i64))) .unit))) (.pr (.val (.sl false (.int .i64))) (.pr (.val (.sl false (.int .i64))) (.pr (.val (.sl false (.int .i64))) .un)))) (a0,(a1,(a2,(a3,())))))=f13 N a0 a1 a2 a3:=by kernel_rfl
theorem k13 (N:Nat):CalleeOK Go.Proofs.Try.prog 13 (c13 N):=
 fn_ok (fn:=Go.Proofs.Try.f13) (body:=b13) (c:=x13 N) Go.Proofs.Try.func13 (by kernel_rfl) (by kernel_rfl) ⟨ttL_ok,mtL_ok,eqL_ok,ctL_ok,msL_ok,env_cons (forall_mem1 (k27 N)) (env_cons (forall_mem1 (k28 N)) (env_cons (forall_mem1 (k29 N)) (env_cons (forall_mem1 (k30 N)) (env_cons (forall_mem1 (k31 N)) (env_cons (forall_mem1 (k32 N)) (env_nil))))))⟩ mixed (by kernel_rfl) (Nat.le_of_ble_eq_true (by kernel_rfl)) (by kernel_rfl) (by decide)
  (loops_ok (by kernel_rfl:loopsOf b13=[loopAt 7 (loopsOf b13),loopAt 18 (loopsOf b13)]) (.cons (l13_7 N) (.cons (l13_18 N) .nil))) fun d=>e13 N d.1 d.2.1 d.2.2.1 d.2.2.2.1
def f59 (N:Nat) (a0:Int) (a1:Int):Option (Int×Int):=
 some ((wu64 ((wu64 ((wu64 ((Int.fdiv a0 (2 ^ (min (Int.toNat 32) 64)))*(Int.fdiv a1 (2 ^ (min (Int.toNat 32) 64)))))+(Int.fdiv (wu64 ((wu64 ((Int.fdiv a0 (2 ^ (min (Int.toNat 32) 64)))*(wu64 (((((BitVec.ofInt 64 a1).and (BitVec.ofInt 64 4294967295)).toNat):Nat):Int))))+(Int.fdiv (wu64 ((wu64 (((((BitVec.ofInt 64 a0).and (BitVec.ofInt 64 4294967295)).toNat):Nat):Int))*(wu64 (((((BitVec.ofInt 64 a1).and (BitVec.ofInt 64 4294967295)).toNat):Nat):Int)))) (2 ^ (min (Int.toNat 32) 64))))) (2 ^ (min (Int.toNat 32) 64)))))+(Int.fdiv (wu64 ((wu64 (((((BitVec.ofInt 64
    (Go.IntKind.u64.wrap
     ((Go.IntKind.u64.wrap
        ((Int.fdiv a0 (Int.pow 2 (min (Int.toNat 32) 64))).mul
         (Go.IntKind.u64.wrap ↑((BitVec.ofInt 64 a1).and (BitVec.ofInt 64 4294967295)).toNat))).add
      ((Go.IntKind.u64.wrap
         ((Go.IntKind.u64.wrap ↑((BitVec.ofInt 64 a0).and (BitVec.ofInt 64 4294967295)).toNat).mul
          (Go.IntKind.u64.wrap ↑((BitVec.ofInt 64 a1).and (BitVec.ofInt 64 4294967295)).toNat))).fdiv
       (Int.pow 2 (min (Int.toNat 32) 64)))))).and
  (BitVec.ofInt 64 4294967295)).toNat):Nat):Int))+(wu64 ((wu64 (((((BitVec.ofInt 64 a0).and (BitVec.ofInt 64 4294967295)).toNat):Nat):Int))*(Int.fdiv a1 (2 ^ (min (Int.toNat 32) 64))))))) (2 ^ (min (Int.toNat 32) 64))))),(wu64 (a0*a1)))
def c59 (N:Nat):Callee:=.pure (.pr (.val (.int .u64)) (.pr (.val (.int .u64)) .un)) [(.int .u64),(.int .u64)] fun d=>f59 N d.1 d.2.1
def lp59 (N:Nat):Nat→Option LoopFn:=fun r=>none
def x59 (N:Nat):Ctx:={ fuel:=N,tt:=getL ttL,mt:=getL mtL,ntmps:=51,env:=fun f=>(getL [] f).getD [],cut:=getL [],exits:=fun r=>getL ((getL [] r).getD []),res:=⟨[4,5],[]⟩,own:=fun _=>none,lp:=lp59 N,eqs:=fun T=>memN T eqL,ct:=fun T=>memN T ctL,ms:=getMs msL }
noncomputable def b59:Code:=((Go.Proofs.Try.f59).body).getD .skip
theorem e59 (N:Nat) (a0:Int) (a1:Int):bodyK (x59 N) [(.int .u64),(.int .u64)] [.tmp 4,.tmp 5] b59 (entry (.pr (.val (.int .u64)) (.pr (.val (.int .u64)) .un)) (a0,(a1,())))=f59 N a0 a1:=by kernel_rfl
theorem k59 (N:Nat):CalleeOK Go.Proofs.Try.prog 59 (c59 N):=
 fn_ok (fn:=Go.Proofs.Try.f59) (body:=b59) (c:=x59 N) Go.Proofs.Try.func59 (by kernel_rfl) (by kernel_rfl) ⟨ttL_ok,mtL_ok,eqL_ok,ctL_ok,msL_ok,env_nil⟩ mixed (by kernel_rfl) (Nat.le_of_ble_eq_true (by kernel_rfl)) (by kernel_rfl) (by decide)
  (loops_ok (by kernel_rfl:loopsOf b59=[]) .nil) fun d=>e59 N d.1 d.2.1
def f55 (N:Nat) (a0:Int) (a1:Int):Option (Int×Int):=
 (f59 N a0 a1).bind fun r=>
 some (r.1,r.2)
def c55 (N:Nat):Callee:=.pure (.pr (.val (.int .u64)) (.pr (.val (.int .u64)) .un)) [(.int .u64),(.int .u64)] fun d=>f55 N d.1 d.2.1
def lp55 (N:Nat):Nat→Option LoopFn:=fun r=>none
def x55 (N:Nat):Ctx:={ fuel:=N,tt:=getL ttL,mt:=getL mtL,ntmps:=30,env:=fun f=>(getL [(59,[c59 N])] f).getD [],cut:=getL [],exits:=fun r=>getL ((getL [] r).getD []),res:=⟨[4,5],[]⟩,own:=fun _=>none,lp:=lp55 N,eqs:=fun T=>memN T eqL,ct:=fun T=>memN T ctL,ms:=getMs msL }
noncomputable def b55:Code:=((Go.Proofs.Try.f55).body).getD .skip
theorem e55 (N:Nat) (a0:Int) (a1:Int):bodyK (x55 N) [(.int .u64),(.int .u64)] [.tmp 4,.tmp 5] b55 (entry (.pr (.val (.int .u64)) (.pr (.val (.int .u64)) .un)) (a0,(a1,())))=f55 N a0 a1:=by kernel_rfl
theorem k55 (N:Nat):CalleeOK Go.Proofs.Try.prog 55 (c55 N):=
 fn_ok (fn:=Go.Proofs.Try.f55) (body:=b55) (c:=x55 N) Go.Proofs.Try.func55 (by kernel_rfl) (by kernel_rfl) ⟨ttL_ok,mtL_ok,eqL_ok,ctL_ok,msL_ok,env_cons (forall_mem1 (k59 N)) (env_nil)⟩ mixed (by kernel_rfl) (Nat.le_of_ble_eq_true (by kernel_rfl)) (by kernel_rfl) (by decide)
  (loops_ok (by kernel_rfl:loopsOf b55=[]) .nil) fun d=>e55 N d.1 d.2.1
def f39_L8 {R:Type} (N:Nat) (kb:Int×List Int→Option R) (kx0:(List Int)→Option R):Int×List Int→Option R:=
 fun (t8,o0)=>
  cond (decide (t8 < (len o0)))
   (chk (((decide (0≤t8)) && (decide (t8≤(len o0)))) && (decide ((len o0)≤(len o0)))) <|
   chk ((decide (0≤t8)) && (decide (t8≤(len o0)))) <|
   kb ((wi64 (t8+(copyN (sub o0 0 t8) t8 (len o0)))),(copyL o0 t8 (len o0) (sub o0 0 t8))))
   (kx0 o0)
def f39 (N:Nat) (a0:List Int) (a1:Int):Option (List Int):=
 cond (decide (a1 < 0))
  (none)
  ((f55 N (wu64 (len a0)) (wu64 a1)).bind fun r=>
  (cond (decide (0 < r.1))
    (some true)
    (some (decide (9223372036854775807 < r.2)))).bind fun b=>
  cond b
   (none)
   (chk (((decide (0≤(wi64 r.2))) && (decide ((wi64 r.2)≤(wi64 r.2)))) && (decide ((wi64 r.2)≤((room:Nat):Int)))) <|
   iter (fun w=>f39_L8 N w
    (fun o0_1=>
     some o0_1)) N ((copyN a0 0 (len (List.replicate (Int.toNat (wi64 r.2)) 0:List Int))),(copyL (List.replicate (Int.toNat (wi64 r.2)) 0:List Int) 0 (len (List.replicate (Int.toNat (wi64 r.2)) 0:List Int)) a0))))
def c39 (N:Nat):Callee:=.pure (.pr (.val (.sl false (.int .i64))) (.pr (.val (.int .i64)) .un)) [(.sl false (.int .i64))] fun d=>f39 N d.1 d.2.1
def F39_8:SForm:=⟨[(8,(.val (.int .i64))),(7,(.ref 0))],[.row (.int .i64)]⟩
def G39_8 (N:Nat):(R:Type)→F39_8.den→(AExit→St→Option R)→Option R:=fun R d k=>iter (fun kb=>f39_L8 N kb
  (fun y0=>k (.exit 0) (St.of [(7,(.ref 0 [] 0))] [.row (.int .i64) y0 0]))) N (d.1.1,d.2.1)
def lp39 (N:Nat):Nat→Option LoopFn:=fun r=>cond (Nat.beq r 8) (some fun R sl os k=>F39_8.take sl os fun d=>G39_8 N R d k) (none)
def x39 (N:Nat):Ctx:={ fuel:=N,tt:=getL ttL,mt:=getL mtL,ntmps:=48,env:=fun f=>(getL [(55,[c55 N])] f).getD [],cut:=getL [(8,⟨[8,7],[]⟩)],exits:=fun r=>getL ((getL [(8,[(0,⟨[7],[]⟩)])] r).getD []),res:=⟨[4],[]⟩,own:=fun _=>none,lp:=lp39 N,eqs:=fun T=>memN T eqL,ct:=fun T=>memN T ctL,ms:=getMs msL }
noncomputable def b39:Code:=((Go.Proofs.Try.f39).body).getD .skip
theorem s39_8 (N:Nat) {R:Type} (k:AExit→St→Option R) (kb:List (Nat×AVal)→List Obj→Option R) (x:Int×List Int):codeK (x39 N) (loopAt 8 (loopsOf b39)) (St.of [(8,(.data (.int .i64) x.1)),(7,(.ref 0 [] 0))] [.row (.int .i64) x.2 0]) (kLoop (x39 N) 8 ⟨[8,7],[]⟩ kb k)=f39_L8 N (fun y=>kb [(8,(.data (.int .i64) y.1)),(7,(.ref 0 [] 0))] [.row (.int .i64) y.2 0])
  (fun y0=>k (.exit 0) (St.of [(7,(.ref 0 [] 0))] [.row (.int .i64) y0 0])) x:=by kernel_rfl
theorem l39_8 (N:Nat):LoopOK (x39 N) (loopAt 8 (loopsOf b39)):=
 loop_mk (G39_8 N) (by kernel_rfl) (by kernel_rfl) (by kernel_rfl) fun R k d=>
  loop_eq (st:=fun (x:Int×List Int)=>([(8,(.data (.int .i64) x.1)),(7,(.ref 0 [] 0))],[.row (.int .i64) x.2 0])) (s39_8 N k) N (d.1.1,d.2.1)
theorem e39 (N:Nat) (a0:List Int) (a1:Int):bodyK (x39 N) [(.sl false (.int .i64))] [.tmp 4] b39 (entry (.pr (.val (.sl false (.int .i64))) (.pr (.val (.int .i64)) .un)) (a0,(a1,())))=f39 N a0 a1:=by kernel_rfl
theorem k39 (N:Nat):CalleeOK Go.Proofs.Try.prog 39 (c39 N):=
 fn_ok (fn:=Go.Proofs.Try.f39) (body:=b39) (c:=x39 N) Go.Proofs.Try.func39 (by kernel_rfl) (by kernel_rfl) ⟨ttL_ok,mtL_ok,eqL_ok,ctL_ok,msL_ok,env_cons (forall_mem1 (k55 N)) (env_nil)⟩ mixed (by kernel_rfl) (Nat.le_of_ble_eq_true (by kernel_rfl)) (by kernel_rfl) (by decide)
  (loops_ok (by kernel_rfl:loopsOf b39=[loopAt 8 (loopsOf b39)]) (.cons (l39_8 N) .nil)) fun d=>e39 N d.1 d.2.1
def f19_L8 {R:Type} (N:Nat) (t34:List (List Int×(Int×Unit))) (t35:Int) (kb:Int×List (List Int)→Option R) (kx0:(List (List Int))→Option R):Int×List (List Int)→Option R:=
 fun (t36,o0)=>
  cond (decide (t36 < t35))
   ((idx t34 t36).bind fun x=>
   chk (decide ((Nat.succ (List.length o0))≤room)) <|
   kb ((wi64 (t36+1)),(o0++(x.1 :: ([]:List (List Int))))))
   (kx0 o0)
def f19 (N:Nat) (a0:(Int×(List (List Int)×Unit))) (a1:List Int) (a2:List Int):Option (List (List Int)×Int):=
 (f38 N a0).bind fun r=>
 cond (!(decide (r=0)))
  (some (([]:List (List Int)),1))
  ((f39 N (1 :: ([]:List Int)) a0.1).bind fun r_1=>
  (f13 N a0 r_1 a1 a2).bind fun r_2=>
  cond (!(decide (r_2.2.2.2=0)))
   (some (([]:List (List Int)),r_2.2.2.2))
   (iter (fun w=>f19_L8 N r_2.2.1 (len r_2.2.1) w
    (fun o0_1=>
     some (o0_1,0))) N (0,([]:List (List Int)))))
def c19 (N:Nat):Callee:=.pure (.pr (.val (.pair (.int .i64) (.pair (.sl false (.arr 2 (.int .i64))) .unit))) (.pr (.val (.sl false (.int .i64))) (.pr (.val (.sl false (.int .i64))) .un))) [(.sl false (.sl false (.int .i64))),(.int .i64)] fun d=>f19 N d.1 d.2.1 d.2.2.1
def F19_8:SForm:=⟨[(36,(.val (.int .i64))),(12,(.ref 0)),(34,(.val (.sl false (.pair (.sl false (.int .i64)) (.pair (.int .i64) .unit))))),(35,(.val (.int .i64)))],[.row (.sl false (.int .i64))]⟩
def G19_8 (N:Nat):(R:Type)→F19_8.den→(AExit→St→Option R)→Option R:=fun R d k=>iter (fun kb=>f19_L8 N d.1.2.2.1 d.1.2.2.2.1 kb
  (fun y0=>k (.exit 0) (St.of [(12,(.ref 0 [] 0))] [.row (.sl false (.int .i64)) y0 0]))) N (d.1.1,d.2.1)
def lp19 (N:Nat):Nat→Option LoopFn:=fun r=>cond (Nat.beq r 8) (some fun R sl os k=>F19_8.take sl os fun d=>G19_8 N R d k) (none)
def x19 (N:Nat):Ctx:={ fuel:=N,tt:=getL ttL,mt:=getL mtL,ntmps:=47,env:=fun f=>(getL [(38,[c38 N]),(39,[c39 N]),(13,[c13 N])] f).getD [],cut:=getL [(8,⟨[36,12,34,35],[(12,none,.row (.sl false (.int .i64)))]⟩)],exits:=fun r=>getL ((getL [(8,[(0,⟨[12],[]⟩)])] r).getD []),res:=⟨[6,7],[]⟩,own:=getL [(20,(.sl false (.int .i64))),(43,(.sl false (.sl false (.int .i64))))],lp:=lp19 N,eqs:=fun T=>memN T eqL,ct:=fun T=>memN T ctL,ms:=getMs msL }
noncomputable def b19:Code:=((Go.Proofs.Try.f19).body).getD .skip
theorem s19_8 (N:Nat) {R:Type} (k:AExit→St→Option R) (t34:List (List Int×(Int×Unit))) (t35:Int) (kb:List (Nat×AVal)→List Obj→Option R) (x:Int×List (List Int)):codeK (x19 N) (loopAt 8 (loopsOf b19)) (St.of [(36,(.data (.int .i64) x.1)),(12,(.ref 0 [] 0)),(34,(.data (.sl false (.pair (.sl false (.int .i64)) (.pair (.int .i64) .unit))) t34)),(35,(.data (.int .i64) t35))] [.row (.sl false (.int .i64)) x.2 0]) (kLoop (x19 N) 8 ⟨[36,12,34,35],[(12,none,.row (.sl false (.int .i64)))]⟩ kb k)=f19_L8 N t34 t35 (fun y=>kb [(36,(.data (.int .i64) y.1)),(12,(.ref 0 [] 0)),(34,(.data (.sl false (.pair (.sl false (.int .i64)) (.pair (.int .i64) .unit))) t34)),(35,(.data (.int .i64) t35))] [.row (.sl false (.int .i64)) y.2 0])
  (fun y0=>k (.exit 0) (St.of [(12,(.ref 0 [] 0))] [.row (.sl false (.int .i64)) y0 0])) x:=by kernel_rfl
theorem l19_8 (N:Nat):LoopOK (x19 N) (loopAt 8 (loopsOf b19)):=
 loop_mk (G19_8 N) (by kernel_rfl) (by kernel_rfl) (by kernel_rfl) fun R k d=>
  loop_eq (st:=fun (x:Int×List (List Int))=>([(36,(.data (.int .i64) x.1)),(12,(.ref 0 [] 0)),(34,(.data (.sl false (.pair (.sl false (.int .i64)) (.pair (.int .i64) .unit))) d.1.2.2.1)),(35,(.data (.int .i64) d.1.2.2.2.1))],[.row (.sl false (.int .i64)) x.2 0])) (s19_8 N k d.1.2.2.1 d.1.2.2.2.1) N (d.1.1,d.2.1)
theorem e19 (N:Nat) (a0:(Int×(List (List Int)×Unit))) (a1:List Int) (a2:List Int):bodyK (x19 N) [(.sl false (.sl false (.int .i64))),(.int .i64)] [.tmp 6,.tmp 7] b19 (entry (.pr (.val (.pair (.int .i64) (.pair (.sl false (.arr 2 (.int .i64))) .unit))) (.pr (.val (.sl false (.int .i64))) (.pr (.val (.sl false (.int .i64))) .un))) (a0,(a1,(a2,()))))=f19 N a0 a1 a2:=by kernel_rfl
theorem k19 (N:Nat):CalleeOK Go.Proofs.Try.prog 19 (c19 N):=
 fn_ok (fn:=Go.Proofs.Try.f19) (body:=b19) (c:=x19 N) Go.Proofs.Try.func19 (by kernel_rfl) (by kernel_rfl) ⟨ttL_ok,mtL_ok,eqL_ok,ctL_ok,msL_ok,env_cons (forall_mem1 (k38 N)) (env_cons (forall_mem1 (k39 N)) (env_cons (forall_mem1 (k13 N)) (env_nil)))⟩ mixed (by kernel_rfl) (Nat.le_of_ble_eq_true (by kernel_rfl)) (by kernel_rfl) (by decide)
  (loops_ok (by kernel_rfl:loopsOf b19=[loopAt 8 (loopsOf b19)]) (.cons (l19_8 N) .nil)) fun d=>e19 N d.1 d.2.1 d.2.2.1
def f26_L4 {R:Type} (N:Nat) (t1:List Int) (t0:List Int) (t12:Int) (kb:Int→Option R) (kret:Bool→Option R) (kx0:Unit→Option R):Int→Option R:=
 fun t13=>
  cond (decide (t13 < t12))
   ((idx t0 t13).bind fun x=>
   (idx t1 t13).bind fun x_1=>
   cond (!(decide (x=x_1)))
    (kret false)
    (kb (wi64 (t13+1))))
   (kx0 ())
def f26 (N:Nat) (a0:List Int) (a1:List Int):Option (Bool):=
 cond (!(decide ((len a0)=(len a1))))
  (some false)
  (iter (fun w=>f26_L4 N a1 a0 (len a0) w
   (fun t4=>
    some t4)
   (fun (_:Unit)=>
    some true)) N 0)
def c26 (N:Nat):Callee:=.pure (.pr (.val (.sl false (.int .i64))) (.pr (.val (.sl false (.int .i64))) .un)) [.bool] fun d=>f26 N d.1 d.2.1
def F26_4:SForm:=⟨[(13,(.val (.int .i64))),(1,(.val (.sl false (.int .i64)))),(0,(.val (.sl false (.int .i64)))),(12,(.val (.int .i64)))],[]⟩
def G26_4 (N:Nat):(R:Type)→F26_4.den→(AExit→St→Option R)→Option R:=fun R d k=>iter (fun kb=>f26_L4 N d.1.2.1 d.1.2.2.1 d.1.2.2.2.1 kb
  (fun y0=>k .ret (St.of [(4,(.data .bool y0))] []))
  (fun _=>k (.exit 0) (St.of [] []))) N d.1.1
def lp26 (N:Nat):Nat→Option LoopFn:=fun r=>cond (Nat.beq r 4) (some fun R sl os k=>F26_4.take sl os fun d=>G26_4 N R d k) (none)
def x26 (N:Nat):Ctx:={ fuel:=N,tt:=getL ttL,mt:=getL mtL,ntmps:=26,env:=fun f=>(getL [] f).getD [],cut:=getL [(4,⟨[13,1,0,12],[]⟩)],exits:=fun r=>getL ((getL [(4,[(0,⟨[],[]⟩)])] r).getD []),res:=⟨[4],[]⟩,own:=fun _=>none,lp:=lp26 N,eqs:=fun T=>memN T eqL,ct:=fun T=>memN T ctL,ms:=getMs msL }
noncomputable def b26:Code:=((Go.Proofs.Try.f26).body).getD .skip
theorem s26_4 (N:Nat) {R:Type} (k:AExit→St→Option R) (t1:List Int) (t0:List Int) (t12:Int) (kb:List (Nat×AVal)→List Obj→Option R) (x:Int):codeK (x26 N) (loopAt 4 (loopsOf b26)) (St.of [(13,(.data (.int .i64) x)),(1,(.data (.sl false (.int .i64)) t1)),(0,(.data (.sl false (.int .i64)) t0)),(12,(.data (.int .i64) t12))] []) (kLoop (x26 N) 4 ⟨[13,1,0,12],[]⟩ kb k)=f26_L4 N t1 t0 t12 (fun y=>kb [(13,(.data (.int .i64) y)),(1,(.data (.sl false (.int .i64)) t1)),(0,(.data (.sl false (.int .i64)) t0)),(12,(.data (.int .i64) t12))] [])
  (fun y0=>k .ret (St.of [(4,(.data .bool y0))] []))
  (fun _=>k (.exit 0) (St.of [] [])) x:=by kernel_rfl
theorem l26_4 (N:Nat):LoopOK (x26 N) (loopAt 4 (loopsOf b26)):=
 loop_mk (G26_4 N) (by kernel_rfl) (by kernel_rfl) (by kernel_rfl) fun R k d=>
  loop_eq (st:=fun (x:Int)=>([(13,(.data (.int .i64) x)),(1,(.data (.sl false (.int .i64)) d.1.2.1)),(0,(.data (.sl false (.int .i64)) d.1.2.2.1)),(12,(.data (.int .i64) d.1.2.2.2.1))],[])) (s26_4 N k d.1.2.1 d.1.2.2.1 d.1.2.2.2.1) N d.1.1
theorem e26 (N:Nat) (a0:List Int) (a1:List Int):bodyK (x26 N) [.bool] [.tmp 4] b26 (entry (.pr (.val (.sl false (.int .i64))) (.pr (.val (.sl false (.int .i64))) .un)) (a0,(a1,())))=f26 N a0 a1:=by kernel_rfl
theorem k26 (N:Nat):CalleeOK Go.Proofs.Try.prog 26 (c26 N):=
 fn_ok (fn:=Go.Proofs.Try.f26) (body:=b26) (c:=x26 N) Go.Proofs.Try.func26 (by kernel_rfl) (by kernel_rfl) ⟨ttL_ok,mtL_ok,eqL_ok,ctL_ok,msL_ok,env_nil⟩ mixed (by kernel_rfl) (Nat.le_of_ble_eq_true (by kernel_rfl)) (by kernel_rfl) (by decide)
  (loops_ok (by kernel_rfl:loopsOf b26=[loopAt 4 (loopsOf b26)]) (.cons (l26_4 N) .nil)) fun d=>e26 N d.1 d.2.1
def f11 (N:Nat):Option (Bool):=
 (f13 N (4,(((0 :: (1 :: ([]:List Int))) :: ((0 :: (2 :: ([]:List Int))) :: ((1 :: (3 :: ([]:List Int))) :: ((2 :: (3 :: ([]:List Int))) :: ([]:List (List Int)))))),())) (5 :: (1 :: (2 :: (5 :: ([]:List Int))))) (0 :: ([]:List Int)) (3 :: ([]:List Int))).bind fun r=>
 (f19 N (4,(((0 :: (1 :: ([]:List Int))) :: ((0 :: (2 :: ([]:List Int))) :: ((1 :: (3 :: ([]:List Int))) :: ((2 :: (3 :: ([]:List Int))) :: ([]:List (List Int)))))),())) (0 :: ([]:List Int)) (3 :: ([]:List Int))).bind fun r_1=>
 (cond (decide (r.2.2.2=0))
   (some (decide (r_1.2=0)))
   (some false)).bind fun b=>
 (cond b
   (some (decide (r.2.2.1=3)))
   (some false)).bind fun b_1=>
 (cond b_1
   ((f26 N r.1 (1 :: (2 :: ([]:List Int)))).bind fun r_2=>
   some r_2)
   (some false)).bind fun b_2=>
 (cond b_2
   (some (decide ((len r_1.1)=1)))
   (some false)).bind fun b_3=>
 some b_3
def c11 (N:Nat):Callee:=.pure .un [.bool] fun d=>f11 N
def lp11 (N:Nat):Nat→Option LoopFn:=fun r=>none
def x11 (N:Nat):Ctx:={ fuel:=N,tt:=getL ttL,mt:=getL mtL,ntmps:=51,env:=fun f=>(getL [(13,[c13 N]),(19,[c19 N]),(26,[c26 N])] f).getD [],cut:=getL [],exits:=fun r=>getL ((getL [] r).getD []),res:=⟨[0],[]⟩,own:=getL [(12,(.sl false (.arr 2 (.int .i64)))),(16,(.sl false (.int .i64))),(17,(.sl false (.int .i64))),(18,(.sl false (.int .i64))),(26,(.sl false (.int .i64))),(27,(.sl false (.int .i64))),(43,(.sl false (.int .i64)))],lp:=lp11 N,eqs:=fun T=>memN T eqL,ct:=fun T=>memN T ctL,ms:=getMs msL }
noncomputable def b11:Code:=((Go.Proofs.Try.f11).body).getD .skip
theorem e11 (N:Nat):bodyK (x11 N) [.bool] [.tmp 0] b11 (entry .un ())=f11 N:=by kernel_rfl
theorem k11 (N:Nat):CalleeOK Go.Proofs.Try.prog 11 (c11 N):=
 fn_ok (fn:=Go.Proofs.Try.f11) (body:=b11) (c:=x11 N) Go.Proofs.Try.func11 (by kernel_rfl) (by kernel_rfl) ⟨ttL_ok,mtL_ok,eqL_ok,ctL_ok,msL_ok,env_cons (forall_mem1 (k13 N)) (env_cons (forall_mem1 (k19 N)) (env_cons (forall_mem1 (k26 N)) (env_nil)))⟩ mixed (by kernel_rfl) (Nat.le_of_ble_eq_true (by kernel_rfl)) (by kernel_rfl) (by decide)
  (loops_ok (by kernel_rfl:loopsOf b11=[]) .nil) fun d=>e11 N
def f12 (N:Nat) (a0:((Int×(List (List Int)×Unit))×(List Int×(List Int×(List Int×Unit))))) (a1:Int) (a2:Int):Option (Bool):=
 (cond (decide (a0.1.1≤a1))
   (some (decide ((len a0.1.2.1)≤a2)))
   (some false)).bind fun b=>
 (cond b
   (some (decide ((len a0.2.1)≤(wi64 (a1+2)))))
   (some false)).bind fun b_1=>
 (cond b_1
   (some (decide ((len a0.2.2.1)≤(wi64 (a1+2)))))
   (some false)).bind fun b_2=>
 (cond b_2
   (some (decide ((len a0.2.2.2.1)≤(wi64 (a1+2)))))
   (some false)).bind fun b_3=>
 some b_3
def c12 (N:Nat):Callee:=.pure (.pr (.val (.pair (.pair (.int .i64) (.pair (.sl false (.arr 2 (.int .i64))) .unit)) (.pair (.sl false (.int .i64)) (.pair (.sl false (.int .i64)) (.pair (.sl false (.int .i64)) .unit))))) (.pr (.val (.int .i64)) (.pr (.val (.int .i64)) .un))) [.bool] fun d=>f12 N d.1 d.2.1 d.2.2.1
def lp12 (N:Nat):Nat→Option LoopFn:=fun r=>none
def x12 (N:Nat):Ctx:={ fuel:=N,tt:=getL ttL,mt:=getL mtL,ntmps:=44,env:=fun f=>(getL [] f).getD [],cut:=getL [],exits:=fun r=>getL ((getL [] r).getD []),res:=⟨[6],[]⟩,own:=fun _=>none,lp:=lp12 N,eqs:=fun T=>memN T eqL,ct:=fun T=>memN T ctL,ms:=getMs msL }
noncomputable def b12:Code:=((Go.Proofs.Try.f12).body).getD .skip
theorem e12 (N:Nat) (a0:((Int×(List (List Int)×Unit))×(List Int×(List Int×(List Int×Unit))))) (a1:Int) (a2:Int):bodyK (x12 N) [.bool] [.tmp 6] b12 (entry (.pr (.val (.pair (.pair (.int .i64) (.pair (.sl false (.arr 2 (.int .i64))) .unit)) (.pair (.sl false (.int .i64)) (.pair (.sl false (.int .i64)) (.pair (.sl false (.int .i64)) .unit))))) (.pr (.val (.int .i64)) (.pr (.val (.int .i64)) .un))) (a0,(a1,(a2,()))))=f12 N a0 a1 a2:=by kernel_rfl
theorem k12 (N:Nat):CalleeOK Go.Proofs.Try.prog 12 (c12 N):=
 fn_ok (fn:=Go.Proofs.Try.f12) (body:=b12) (c:=x12 N) Go.Proofs.Try.func12 (by kernel_rfl) (by kernel_rfl) ⟨ttL_ok,mtL_ok,eqL_ok,ctL_ok,msL_ok,env_nil⟩ mixed (by kernel_rfl) (Nat.le_of_ble_eq_true (by kernel_rfl)) (by kernel_rfl) (by decide)
  (loops_ok (by kernel_rfl:loopsOf b12=[]) .nil) fun d=>e12 N d.1 d.2.1 d.2.2.1
def f53 (N:Nat) (a0:(Int×(List (List Int)×Unit))) (a1:Int):Option (Bool):=
 (cond (decide (0≤a1))
   (some (decide (a1 < a0.1)))
   (some false)).bind fun b=>
 some b
def c53 (N:Nat):Callee:=.pure (.pr (.val (.pair (.int .i64) (.pair (.sl false (.arr 2 (.int .i64))) .unit))) (.pr (.val (.int .i64)) .un)) [.bool] fun d=>f53 N d.1 d.2.1
def lp53 (N:Nat):Nat→Option LoopFn:=fun r=>none
def x53 (N:Nat):Ctx:={ fuel:=N,tt:=getL ttL,mt:=getL mtL,ntmps:=13,env:=fun f=>(getL [] f).getD [],cut:=getL [],exits:=fun r=>getL ((getL [] r).getD []),res:=⟨[4],[]⟩,own:=fun _=>none,lp:=lp53 N,eqs:=fun T=>memN T eqL,ct:=fun T=>memN T ctL,ms:=getMs msL }
noncomputable def b53:Code:=((Go.Proofs.Try.f53).body).getD .skip
theorem e53 (N:Nat) (a0:(Int×(List (List Int)×Unit))) (a1:Int):bodyK (x53 N) [.bool] [.tmp 4] b53 (entry (.pr (.val (.pair (.int .i64) (.pair (.sl false (.arr 2 (.int .i64))) .unit))) (.pr (.val (.int .i64)) .un)) (a0,(a1,())))=f53 N a0 a1:=by kernel_rfl
theorem k53 (N:Nat):CalleeOK Go.Proofs.Try.prog 53 (c53 N):=
 fn_ok (fn:=Go.Proofs.Try.f53) (body:=b53) (c:=x53 N) Go.Proofs.Try.func53 (by kernel_rfl) (by kernel_rfl) ⟨ttL_ok,mtL_ok,eqL_ok,ctL_ok,msL_ok,env_nil⟩ mixed (by kernel_rfl) (Nat.le_of_ble_eq_true (by kernel_rfl)) (by kernel_rfl) (by decide)
  (loops_ok (by kernel_rfl:loopsOf b53=[]) .nil) fun d=>e53 N d.1 d.2.1
def f36_L4 {R:Type} (N:Nat) (o0:(Int×(List (List Int)×Unit))) (kb:Int→Option R) (kret:Bool→Option R) (kx0:Unit→Option R):Int→Option R:=
 fun t3=>
  cond (decide (t3 < (len o0.2.1)))
   ((idx o0.2.1 t3).bind fun x=>
   (idx x 0).bind fun x_1=>
   (f53 N o0 x_1).bind fun r=>
   (cond (!r)
     (some true)
     ((idx o0.2.1 t3).bind fun x_2=>
     (idx x_2 1).bind fun x_3=>
     (f53 N o0 x_3).bind fun r_1=>
     some (!r_1))).bind fun b_2=>
   cond b_2
    (kret false)
    (kb (wi64 (t3+1))))
   (kx0 ())
def f36 (N:Nat) (a0:(Int×(List (List Int)×Unit))):Option (Bool):=
 (cond (decide (a0.1 < 0))
   (some true)
   (some (decide (4096 < a0.1)))).bind fun b=>
 (cond b
   (some true)
   (some (decide (1048576 < (len a0.2.1))))).bind fun b_1=>
 cond b_1
  (some false)
  (iter (fun w=>f36_L4 N a0 w
   (fun t2=>
    some t2)
   (fun (_:Unit)=>
    some true)) N 0)
def c36 (N:Nat):Callee:=.pure (.pr (.val (.pair (.int .i64) (.pair (.sl false (.arr 2 (.int .i64))) .unit))) .un) [.bool] fun d=>f36 N d.1
def F36_4:SForm:=⟨[(3,(.val (.int .i64))),(1,(.bptr 0 []))],[.cell (.val (.pair (.int .i64) (.pair (.sl false (.arr 2 (.int .i64))) .unit)))]⟩
def G36_4 (N:Nat):(R:Type)→F36_4.den→(AExit→St→Option R)→Option R:=fun R d k=>iter (fun kb=>f36_L4 N d.2.1 kb
  (fun y0=>k .ret (St.of [(2,(.data .bool y0))] []))
  (fun _=>k (.exit 0) (St.of [] []))) N d.1.1
def lp36 (N:Nat):Nat→Option LoopFn:=fun r=>cond (Nat.beq r 4) (some fun R sl os k=>F36_4.take sl os fun d=>G36_4 N R d k) (none)
def x36 (N:Nat):Ctx:={ fuel:=N,tt:=getL ttL,mt:=getL mtL,ntmps:=45,env:=fun f=>(getL [(53,[c53 N])] f).getD [],cut:=getL [(4,⟨[3,1],[]⟩)],exits:=fun r=>getL ((getL [(4,[(0,⟨[],[]⟩)])] r).getD []),res:=⟨[2],[]⟩,own:=fun _=>none,lp:=lp36 N,eqs:=fun T=>memN T eqL,ct:=fun T=>memN T ctL,ms:=getMs msL }
noncomputable def b36:Code:=((Go.Proofs.Try.f36).body).getD .skip
theorem s36_4 (N:Nat) {R:Type} (k:AExit→St→Option R) (o0:(Int×(List (List Int)×Unit))) (kb:List (Nat×AVal)→List Obj→Option R) (x:Int):codeK (x36 N) (loopAt 4 (loopsOf b36)) (St.of [(3,(.data (.int .i64) x)),(1,(.bptr 0 []))] [.cell (.data (.pair (.int .i64) (.pair (.sl false (.arr 2 (.int .i64))) .unit)) o0)]) (kLoop (x36 N) 4 ⟨[3,1],[]⟩ kb k)=f36_L4 N o0 (fun y=>kb [(3,(.data (.int .i64) y)),(1,(.bptr 0 []))] [.cell (.data (.pair (.int .i64) (.pair (.sl false (.arr 2 (.int .i64))) .unit)) o0)])
  (fun y0=>k .ret (St.of [(2,(.data .bool y0))] []))
  (fun _=>k (.exit 0) (St.of [] [])) x:=by kernel_rfl
theorem l36_4 (N:Nat):LoopOK (x36 N) (loopAt 4 (loopsOf b36)):=
 loop_mk (G36_4 N) (by kernel_rfl) (by kernel_rfl) (by kernel_rfl) fun R k d=>
  loop_eq (st:=fun (x:Int)=>([(3,(.data (.int .i64) x)),(1,(.bptr 0 []))],[.cell (.data (.pair (.int .i64) (.pair (.sl false (.arr 2 (.int .i64))) .unit)) d.2.1)])) (s36_4 N k d.2.1) N d.1.1
theorem e36 (N:Nat) (a0:(Int×(List (List Int)×Unit))):bodyK (x36 N) [.bool] [.tmp 2] b36 (entry (.pr (.val (.pair (.int .i64) (.pair (.sl false (.arr 2 (.int .i64))) .unit))) .un) (a0,()))=f36 N a0:=by kernel_rfl
theorem k36 (N:Nat):CalleeOK Go.Proofs.Try.prog 36 (c36 N):=
 fn_ok (fn:=Go.Proofs.Try.f36) (body:=b36) (c:=x36 N) Go.Proofs.Try.func36 (by kernel_rfl) (by kernel_rfl) ⟨ttL_ok,mtL_ok,eqL_ok,ctL_ok,msL_ok,env_cons (forall_mem1 (k53 N)) (env_nil)⟩ mixed (by kernel_rfl) (Nat.le_of_ble_eq_true (by kernel_rfl)) (by kernel_rfl) (by decide)
  (loops_ok (by kernel_rfl:loopsOf b36=[loopAt 4 (loopsOf b36)]) (.cons (l36_4 N) .nil)) fun d=>e36 N d.1
def f37_L2 {R:Type} (N:Nat) (t1:List Int) (o0:(Int×(List (List Int)×Unit))) (kb:Int→Option R) (kret:Bool→Option R) (kx0:Unit→Option R):Int→Option R:=
 fun t5=>
  cond (decide (t5 < (len t1)))
   ((idx t1 t5).bind fun x=>
   (f53 N o0 x).bind fun r=>
   cond (!r)
    (kret false)
    (kb (wi64 (t5+1))))
   (kx0 ())
def f37 (N:Nat) (a0:(Int×(List (List Int)×Unit))) (a1:List Int):Option (Bool):=
 iter (fun w=>f37_L2 N a1 a0 w
  (fun t4=>
   some t4)
  (fun (_:Unit)=>
   some true)) N 0
def c37 (N:Nat):Callee:=.pure (.pr (.val (.pair (.int .i64) (.pair (.sl false (.arr 2 (.int .i64))) .unit))) (.pr (.val (.sl false (.int .i64))) .un)) [.bool] fun d=>f37 N d.1 d.2.1
def F37_2:SForm:=⟨[(5,(.val (.int .i64))),(1,(.val (.sl false (.int .i64)))),(2,(.bptr 0 []))],[.cell (.val (.pair (.int .i64) (.pair (.sl false (.arr 2 (.int .i64))) .unit)))]⟩
def G37_2 (N:Nat):(R:Type)→F37_2.den→(AExit→St→Option R)→Option R:=fun R d k=>iter (fun kb=>f37_L2 N d.1.2.1 d.2.1 kb
  (fun y0=>k .ret (St.of [(4,(.data .bool y0))] []))
  (fun _=>k (.exit 0) (St.of [] []))) N d.1.1
def lp37 (N:Nat):Nat→Option LoopFn:=fun r=>cond (Nat.beq r 2) (some fun R sl os k=>F37_2.take sl os fun d=>G37_2 N R d k) (none)
def x37 (N:Nat):Ctx:={ fuel:=N,tt:=getL ttL,mt:=getL mtL,ntmps:=19,env:=fun f=>(getL [(53,[c53 N])] f).getD [],cut:=getL [(2,⟨[5,1,2],[]⟩)],exits:=fun r=>getL ((getL [(2,[(0,⟨[],[]⟩)])] r).getD []),res:=⟨[4],[]⟩,own:=fun _=>none,lp:=lp37 N,eqs:=fun T=>memN T eqL,ct:=fun T=>memN T ctL,ms:=getMs msL }
noncomputable def b37:Code:=((Go.Proofs.Try.f37).body).getD .skip
theorem s37_2 (N:Nat) {R:Type} (k:AExit→St→Option R) (t1:List Int) (o0:(Int×(List (List Int)×Unit))) (kb:List (Nat×AVal)→List Obj→Option R) (x:Int):codeK (x37 N) (loopAt 2 (loopsOf b37)) (St.of [(5,(.data (.int .i64) x)),(1,(.data (.sl false (.int .i64)) t1)),(2,(.bptr 0 []))] [.cell (.data (.pair (.int .i64) (.pair (.sl false (.arr 2 (.int .i64))) .unit)) o0)]) (kLoop (x37 N) 2 ⟨[5,1,2],[]⟩ kb k)=f37_L2 N t1 o0 (fun y=>kb [(5,(.data (.int .i64) y)),(1,(.data (.sl false (.int .i64)) t1)),(2,(.bptr 0 []))] [.cell (.data (.pair (.int .i64) (.pair (.sl false (.arr 2 (.int .i64))) .unit)) o0)])
  (fun y0=>k .ret (St.of [(4,(.data .bool y0))] []))
  (fun _=>k (.exit 0) (St.of [] [])) x:=by kernel_rfl
theorem l37_2 (N:Nat):LoopOK (x37 N) (loopAt 2 (loopsOf b37)):=
 loop_mk (G37_2 N) (by kernel_rfl) (by kernel_rfl) (by kernel_rfl) fun R k d=>
  loop_eq (st:=fun (x:Int)=>([(5,(.data (.int .i64) x)),(1,(.data (.sl false (.int .i64)) d.1.2.1)),(2,(.bptr 0 []))],[.cell (.data (.pair (.int .i64) (.pair (.sl false (.arr 2 (.int .i64))) .unit)) d.2.1)])) (s37_2 N k d.1.2.1 d.2.1) N d.1.1
theorem e37 (N:Nat) (a0:(Int×(List (List Int)×Unit))) (a1:List Int):bodyK (x37 N) [.bool] [.tmp 4] b37 (entry (.pr (.val (.pair (.int .i64) (.pair (.sl false (.arr 2 (.int .i64))) .unit))) (.pr (.val (.sl false (.int .i64))) .un)) (a0,(a1,())))=f37 N a0 a1:=by kernel_rfl
theorem k37 (N:Nat):CalleeOK Go.Proofs.Try.prog 37 (c37 N):=
 fn_ok (fn:=Go.Proofs.Try.f37) (body:=b37) (c:=x37 N) Go.Proofs.Try.func37 (by kernel_rfl) (by kernel_rfl) ⟨ttL_ok,mtL_ok,eqL_ok,ctL_ok,msL_ok,env_cons (forall_mem1 (k53 N)) (env_nil)⟩ mixed (by kernel_rfl) (Nat.le_of_ble_eq_true (by kernel_rfl)) (by kernel_rfl) (by decide)
  (loops_ok (by kernel_rfl:loopsOf b37=[loopAt 2 (loopsOf b37)]) (.cons (l37_2 N) .nil)) fun d=>e37 N d.1 d.2.1
def f17_L6 {R:Type} (N:Nat) (t1:List Int) (t3:List Int) (t2:List Int) (o0:(Int×(List (List Int)×Unit))) (kb:Int→Option R) (kret:Int→Option R) (kx0:Unit→Option R):Int→Option R:=
 fun t9=>
  cond (decide (t9 < (len t1)))
   ((idx t1 t9).bind fun x=>
   cond (decide (1048576 < x))
    (kret 3)
    (kb (wi64 (t9+1))))
   (kx0 ())
def f17 (N:Nat) (a0:(Int×(List (List Int)×Unit))) (a1:List Int) (a2:List Int) (a3:List Int):Option (Int):=
 (f36 N a0).bind fun r=>
 cond (!r)
  (some 1)
  (cond (!(decide ((len a1)=a0.1)))
   (some 2)
   (iter (fun w=>f17_L6 N a1 a3 a2 a0 w
    (fun t8=>
     some t8)
    (fun (_:Unit)=>
     (f37 N a0 a2).bind fun r_1=>
     (cond (!r_1)
       (some true)
       ((f37 N a0 a3).bind fun r_2=>
       some (!r_2))).bind fun b=>
     cond b
      (some 3)
      (some 0))) N 0))
def c17 (N:Nat):Callee:=.pure (.pr (.val (.pair (.int .i64) (.pair (.sl false (.arr 2 (.int .i64))) .unit))) (.pr (.val (.sl false (.int .i64))) (.pr (.val (.sl false (.int .i64))) (.pr (.val (.sl false (.int .i64))) .un)))) [(.int .i64)] fun d=>f17 N d.1 d.2.1 d.2.2.1 d.2.2.2.1
def F17_6:SForm:=⟨[(9,(.val (.int .i64))),(1,(.val (.sl false (.int .i64)))),(3,(.val (.sl false (.int .i64)))),(4,(.bptr 0 [])),(2,(.val (.sl false (.int .i64))))],[.cell (.val (.pair (.int .i64) (.pair (.sl false (.arr 2 (.int .i64))) .unit)))]⟩
def G17_6 (N:Nat):(R:Type)→F17_6.den→(AExit→St→Option R)→Option R:=fun R d k=>iter (fun kb=>f17_L6 N d.1.2.1 d.1.2.2.1 d.1.2.2.2.2.1 d.2.1 kb
  (fun y0=>k .ret (St.of [(8,(.data (.int .i64) y0))] []))
  (fun _=>k (.exit 0) (St.of [(3,(.data (.sl false (.int .i64)) d.1.2.2.1)),(4,(.bptr 0 [])),(2,(.data (.sl false (.int .i64)) d.1.2.2.2.2.1))] [.cell (.data (.pair (.int .i64) (.pair (.sl false (.arr 2 (.int .i64))) .unit)) d.2.1)]))) N d.1.1
def lp17 (N:Nat):Nat→Option LoopFn:=fun r=>cond (Nat.beq r 6) (some fun R sl os k=>F17_6.take sl os fun d=>G17_6 N R d k) (none)
def x17 (N:Nat):Ctx:={ fuel:=N,tt:=getL ttL,mt:=getL mtL,ntmps:=39,env:=fun f=>(getL [(36,[c36 N]),(37,[c37 N])] f).getD [],cut:=getL [(6,⟨[9,1,3,4,2],[]⟩)],exits:=fun r=>getL ((getL [(6,[(0,⟨[3,4,2],[]⟩)])] r).getD []),res:=⟨[8],[]⟩,own:=fun _=>none,lp:=lp17 N,eqs:=fun T=>memN T eqL,ct:=fun T=>memN T ctL,ms:=getMs msL }
noncomputable def b17:Code:=((Go.Proofs.Try.f17).body).getD .skip
theorem s17_6 (N:Nat) {R:Type} (k:AExit→St→Option R) (t1:List Int) (t3:List Int) (t2:List Int) (o0:(Int×(List (List Int)×Unit))) (kb:List (Nat×AVal)→List Obj→Option R) (x:Int):codeK (x17 N) (loopAt 6 (loopsOf b17)) (St.of [(9,(.data (.int .i64) x)),(1,(.data (.sl false (.int .i64)) t1)),(3,(.data (.sl false (.int .i64)) t3)),(4,(.bptr 0 [])),(2,(.data (.sl false (.int .i64)) t2))] [.cell (.data (.pair (.int .i64) (.pair (.sl false (.arr 2 (.int .i64))) .unit)) o0)]) (kLoop (x17 N) 6 ⟨[9,1,3,4,2],[]⟩ kb k)=f17_L6 N t1 t3 t2 o0 (fun y=>kb [(9,(.data (.int .i64) y)),(1,(.data (.sl false (.int .i64)) t1)),(3,(.data (.sl false (.int .i64)) t3)),(4,(.bptr 0 [])),(2,(.data (.sl false (.int .i64)) t2))] [.cell (.data (.pair (.int .i64) (.pair (.sl false (.arr 2 (.int .i64))) .unit)) o0)])
  (fun y0=>k .ret (St.of [(8,(.data (.int .i64) y0))] []))
  (fun _=>k (.exit 0) (St.of [(3,(.data (.sl false (.int .i64)) t3)),(4,(.bptr 0 [])),(2,(.data (.sl false (.int .i64)) t2))] [.cell (.data (.pair (.int .i64) (.pair (.sl false (.arr 2 (.int .i64))) .unit)) o0)])) x:=by kernel_rfl
theorem l17_6 (N:Nat):LoopOK (x17 N) (loopAt 6 (loopsOf b17)):=
 loop_mk (G17_6 N) (by kernel_rfl) (by kernel_rfl) (by kernel_rfl) fun R k d=>
  loop_eq (st:=fun (x:Int)=>([(9,(.data (.int .i64) x)),(1,(.data (.sl false (.int .i64)) d.1.2.1)),(3,(.data (.sl false (.int .i64)) d.1.2.2.1)),(4,(.bptr 0 [])),(2,(.data (.sl false (.int .i64)) d.1.2.2.2.2.1))],[.cell (.data (.pair (.int .i64) (.pair (.sl false (.arr 2 (.int .i64))) .unit)) d.2.1)])) (s17_6 N k d.1.2.1 d.1.2.2.1 d.1.2.2.2.2.1 d.2.1) N d.1.1
theorem e17 (N:Nat) (a0:(Int×(List (List Int)×Unit))) (a1:List Int) (a2:List Int) (a3:List Int):bodyK (x17 N) [(.int .i64)] [.tmp 8] b17 (entry (.pr (.val (.pair (.int .i64) (.pair (.sl false (.arr 2 (.int .i64))) .unit))) (.pr (.val (.sl false (.int .i64))) (.pr (.val (.sl false (.int .i64))) (.pr (.val (.sl false (.int .i64))) .un)))) (a0,(a1,(a2,(a3,())))))=f17 N a0 a1 a2 a3:=by kernel_rfl
theorem k17 (N:Nat):CalleeOK Go.Proofs.Try.prog 17 (c17 N):=
 fn_ok (fn:=Go.Proofs.Try.f17) (body:=b17) (c:=x17 N) Go.Proofs.Try.func17 (by kernel_rfl) (by kernel_rfl) ⟨ttL_ok,mtL_ok,eqL_ok,ctL_ok,msL_ok,env_cons (forall_mem1 (k36 N)) (env_cons (forall_mem1 (k37 N)) (env_nil))⟩ mixed (by kernel_rfl) (Nat.le_of_ble_eq_true (by kernel_rfl)) (by kernel_rfl) (by decide)
  (loops_ok (by kernel_rfl:loopsOf b17=[loopAt 6 (loopsOf b17)]) (.cons (l17_6 N) .nil)) fun d=>e17 N d.1 d.2.1 d.2.2.1 d.2.2.2.1
def f34_L3 {R:Type} (N:Nat) (t0:List Int) (kb:Int×List Int→Option R) (kx0:(List Int)→Option R):Int×List Int→Option R:=
 fun (t4,o0)=>
  cond (decide (t4 < (len t0)))
   ((idx t0 t4).bind fun x=>
   cond (decide (0≤x))
    (chk (decide ((Nat.succ (List.length o0))≤room)) <|
    kb ((wi64 (t4+1)),(o0++(t4 :: ([]:List Int)))))
    (kb ((wi64 (t4+1)),o0)))
   (kx0 o0)
def f34 (N:Nat) (a0:List Int):Option (List Int):=
 iter (fun w=>f34_L3 N a0 w
  (fun o0_1=>
   some o0_1)) N (0,([]:List Int))
def c34 (N:Nat):Callee:=.pure (.pr (.val (.sl false (.int .i64))) .un) [(.sl true (.int .i64))] fun d=>f34 N d.1
def F34_3:SForm:=⟨[(4,(.val (.int .i64))),(3,(.ref 0)),(0,(.val (.sl false (.int .i64))))],[.row (.int .i64)]⟩
def G34_3 (N:Nat):(R:Type)→F34_3.den→(AExit→St→Option R)→Option R:=fun R d k=>iter (fun kb=>f34_L3 N d.1.2.2.1 kb
  (fun y0=>k (.exit 0) (St.of [(3,(.ref 0 [] 0))] [.row (.int .i64) y0 0]))) N (d.1.1,d.2.1)
def lp34 (N:Nat):Nat→Option LoopFn:=fun r=>cond (Nat.beq r 3) (some fun R sl os k=>F34_3.take sl os fun d=>G34_3 N R d k) (none)
def x34 (N:Nat):Ctx:={ fuel:=N,tt:=getL ttL,mt:=getL mtL,ntmps:=22,env:=fun f=>(getL [] f).getD [],cut:=getL [(3,⟨[4,3,0],[]⟩)],exits:=fun r=>getL ((getL [(3,[(0,⟨[3],[]⟩)])] r).getD []),res:=⟨[2],[]⟩,own:=fun _=>none,lp:=lp34 N,eqs:=fun T=>memN T eqL,ct:=fun T=>memN T ctL,ms:=getMs msL }
noncomputable def b34:Code:=((Go.Proofs.Try.f34).body).getD .skip
theorem s34_3 (N:Nat) {R:Type} (k:AExit→St→Option R) (t0:List Int) (kb:List (Nat×AVal)→List Obj→Option R) (x:Int×List Int):codeK (x34 N) (loopAt 3 (loopsOf b34)) (St.of [(4,(.data (.int .i64) x.1)),(3,(.ref 0 [] 0)),(0,(.data (.sl false (.int .i64)) t0))] [.row (.int .i64) x.2 0]) (kLoop (x34 N) 3 ⟨[4,3,0],[]⟩ kb k)=f34_L3 N t0 (fun y=>kb [(4,(.data (.int .i64) y.1)),(3,(.ref 0 [] 0)),(0,(.data (.sl false (.int .i64)) t0))] [.row (.int .i64) y.2 0])
  (fun y0=>k (.exit 0) (St.of [(3,(.ref 0 [] 0))] [.row (.int .i64) y0 0])) x:=by kernel_rfl
theorem l34_3 (N:Nat):LoopOK (x34 N) (loopAt 3 (loopsOf b34)):=
 loop_mk (G34_3 N) (by kernel_rfl) (by kernel_rfl) (by kernel_rfl) fun R k d=>
  loop_eq (st:=fun (x:Int×List Int)=>([(4,(.data (.int .i64) x.1)),(3,(.ref 0 [] 0)),(0,(.data (.sl false (.int .i64)) d.1.2.2.1))],[.row (.int .i64) x.2 0])) (s34_3 N k d.1.2.2.1) N (d.1.1,d.2.1)
theorem e34 (N:Nat) (a0:List Int):bodyK (x34 N) [(.sl true (.int .i64))] [.tmp 2] b34 (entry (.pr (.val (.sl false (.int .i64))) .un) (a0,()))=f34 N a0:=by kernel_rfl
theorem k34 (N:Nat):CalleeOK Go.Proofs.Try.prog 34 (c34 N):=
 fn_ok (fn:=Go.Proofs.Try.f34) (body:=b34) (c:=x34 N) Go.Proofs.Try.func34 (by kernel_rfl) (by kernel_rfl) ⟨ttL_ok,mtL_ok,eqL_ok,ctL_ok,msL_ok,env_nil⟩ mixed (by kernel_rfl) (Nat.le_of_ble_eq_true (by kernel_rfl)) (by kernel_rfl) (by decide)
  (loops_ok (by kernel_rfl:loopsOf b34=[loopAt 3 (loopsOf b34)]) (.cons (l34_3 N) .nil)) fun d=>e34 N d.1
def f40_L2 {R:Type} (N:Nat) (t1:Int) (t0:List Int) (kb:Int→Option R) (kret:Bool→Option R) (kx0:Unit→Option R):Int→Option R:=
 fun t5=>
  cond (decide (t5 < (len t0)))
   ((idx t0 t5).bind fun x=>
   cond (decide (x=t1))
    (kret true)
    (kb (wi64 (t5+1))))
   (kx0 ())
def f40 (N:Nat) (a0:List Int) (a1:Int):Option (Bool):=
 iter (fun w=>f40_L2 N a1 a0 w
  (fun t4=>
   some t4)
  (fun (_:Unit)=>
   some false)) N 0
def c40 (N:Nat):Callee:=.pure (.pr (.val (.sl false (.int .i64))) (.pr (.val (.int .i64)) .un)) [.bool] fun d=>f40 N d.1 d.2.1
def F40_2:SForm:=⟨[(5,(.val (.int .i64))),(1,(.val (.int .i64))),(0,(.val (.sl false (.int .i64))))],[]⟩
def G40_2 (N:Nat):(R:Type)→F40_2.den→(AExit→St→Option R)→Option R:=fun R d k=>iter (fun kb=>f40_L2 N d.1.2.1 d.1.2.2.1 kb
  (fun y0=>k .ret (St.of [(4,(.data .bool y0))] []))
  (fun _=>k (.exit 0) (St.of [] []))) N d.1.1
def lp40 (N:Nat):Nat→Option LoopFn:=fun r=>cond (Nat.beq r 2) (some fun R sl os k=>F40_2.take sl os fun d=>G40_2 N R d k) (none)
def x40 (N:Nat):Ctx:={ fuel:=N,tt:=getL ttL,mt:=getL mtL,ntmps:=18,env:=fun f=>(getL [] f).getD [],cut:=getL [(2,⟨[5,1,0],[]⟩)],exits:=fun r=>getL ((getL [(2,[(0,⟨[],[]⟩)])] r).getD []),res:=⟨[4],[]⟩,own:=fun _=>none,lp:=lp40 N,eqs:=fun T=>memN T eqL,ct:=fun T=>memN T ctL,ms:=getMs msL }
noncomputable def b40:Code:=((Go.Proofs.Try.f40).body).getD .skip
theorem s40_2 (N:Nat) {R:Type} (k:AExit→St→Option R) (t1:Int) (t0:List Int) (kb:List (Nat×AVal)→List Obj→Option R) (x:Int):codeK (x40 N) (loopAt 2 (loopsOf b40)) (St.of [(5,(.data (.int .i64) x)),(1,(.data (.int .i64) t1)),(0,(.data (.sl false (.int .i64)) t0))] []) (kLoop (x40 N) 2 ⟨[5,1,0],[]⟩ kb k)=f40_L2 N t1 t0 (fun y=>kb [(5,(.data (.int .i64) y)),(1,(.data (.int .i64) t1)),(0,(.data (.sl false (.int .i64)) t0))] [])
  (fun y0=>k .ret (St.of [(4,(.data .bool y0))] []))
  (fun _=>k (.exit 0) (St.of [] [])) x:=by kernel_rfl
theorem l40_2 (N:Nat):LoopOK (x40 N) (loopAt 2 (loopsOf b40)):=
 loop_mk (G40_2 N) (by kernel_rfl) (by kernel_rfl) (by kernel_rfl) fun R k d=>
  loop_eq (st:=fun (x:Int)=>([(5,(.data (.int .i64) x)),(1,(.data (.int .i64) d.1.2.1)),(0,(.data (.sl false (.int .i64)) d.1.2.2.1))],[])) (s40_2 N k d.1.2.1 d.1.2.2.1) N d.1.1
theorem e40 (N:Nat) (a0:List Int) (a1:Int):bodyK (x40 N) [.bool] [.tmp 4] b40 (entry (.pr (.val (.sl false (.int .i64))) (.pr (.val (.int .i64)) .un)) (a0,(a1,())))=f40 N a0 a1:=by kernel_rfl
theorem k40 (N:Nat):CalleeOK Go.Proofs.Try.prog 40 (c40 N):=
 fn_ok (fn:=Go.Proofs.Try.f40) (body:=b40) (c:=x40 N) Go.Proofs.Try.func40 (by kernel_rfl) (by kernel_rfl) ⟨ttL_ok,mtL_ok,eqL_ok,ctL_ok,msL_ok,env_nil⟩ mixed (by kernel_rfl) (Nat.le_of_ble_eq_true (by kernel_rfl)) (by kernel_rfl) (by decide)
  (loops_ok (by kernel_rfl:loopsOf b40=[loopAt 2 (loopsOf b40)]) (.cons (l40_2 N) .nil)) fun d=>e40 N d.1 d.2.1
end
end Go.Kz
