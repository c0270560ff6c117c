/-
  The functions of the program as plain functions on lists and numbers, and the proofs that the program computes them. Printed by a program.
-/
import Derived.Test.YtnjfafnflbackaaKzP43b
set_option linter.unusedSimpArgs false
set_option maxRecDepth 100000
set_option linter.unusedVariables false
namespace Go.Kz
open Go.Proofs
noncomputable section
def zew {R:Type} (N:Nat) (t0_1:Int) (kb:Int×Ye×List Ya×Int×List Int->Option R) (kx0:Ye->Yl->Int->Ya->Option R):Int×Ye×List Ya×Int×List Int->Option R:=
 fun (t15,o1_1,o2_1,o3,o5)=>
  cond (decide (t15 < (len o1_1.2.1)))
   (z4z [z4z [(f51 N ([]:List Int)).bind fun r_3=>
     chk (decide ((Nat.succ (List.length r_3))≤z3e)) <|
     (zi2 N (z0l (t0_1-1)) (z0l (t15+1)) (r_3++(t15 :: ([]:List Int))) o1_1 o2_1 o3 o5).bind fun r_4=>
     kb ((z0l (t15+1)),r_4.2.2.1,r_4.2.2.2.1,r_4.2.2.2.2.1,r_4.2.2.2.2.2.2.1),
     (f51 N ([]:List Int)).bind fun r_5=>
     chk (decide ((Nat.succ (List.length r_5))≤z3e)) <|
     (zi2 N (z0l (t0_1-1)) (z0l (t15+1)) (r_5++(t15 :: ([]:List Int))) o1_1 o2_1 o3 o5).bind fun r_6=>
     kb ((z0l (t15+1)),r_6.2.2.1,r_6.2.2.2.1,r_6.2.2.2.2.1,r_6.2.2.2.2.2.2.1)],
    (f51 N ([]:List Int)).bind fun r_7=>
    z4z [chk (decide ((Nat.succ (List.length r_7))≤z3e)) <|
     (zi2 N (z0l (t0_1-1)) (z0l (t15+1)) (r_7++(t15 :: ([]:List Int))) o1_1 o2_1 o3 o5).bind fun r_8=>
     kb ((z0l (t15+1)),r_8.2.2.1,r_8.2.2.2.1,r_8.2.2.2.2.1,r_8.2.2.2.2.2.2.1),
     z4z [chk (decide ((Nat.succ (List.length r_7))≤z3e)) <|
      (zi2 N (z0l (t0_1-1)) (z0l (t15+1)) (r_7++(t15 :: ([]:List Int))) o1_1 o2_1 o3 o5).bind fun r_9=>
      kb ((z0l (t15+1)),r_9.2.2.1,r_9.2.2.2.1,r_9.2.2.2.2.1,r_9.2.2.2.2.2.2.1),
      chk (decide ((Nat.succ (List.length r_7))≤z3e)) <|
      (zi2 N (z0l (t0_1-1)) (z0l (t15+1)) (r_7++(t15 :: ([]:List Int))) o1_1 o2_1 o3 o5).bind fun r_10=>
      kb ((z0l (t15+1)),r_10.2.2.1,r_10.2.2.2.1,r_10.2.2.2.2.1,r_10.2.2.2.2.2.2.1)]],
    z4z [(f51 N ([]:List Int)).bind fun r_11=>
     chk (decide ((Nat.succ (List.length r_11))≤z3e)) <|
     (zi2 N (z0l (t0_1-1)) (z0l (t15+1)) (r_11++(t15 :: ([]:List Int))) o1_1 o2_1 o3 o5).bind fun r_12=>
     kb ((z0l (t15+1)),r_12.2.2.1,r_12.2.2.2.1,r_12.2.2.2.2.1,r_12.2.2.2.2.2.2.1),
     (f51 N ([]:List Int)).bind fun r_13=>
     z4z [chk (decide ((Nat.succ (List.length r_13))≤z3e)) <|
      (zi2 N (z0l (t0_1-1)) (z0l (t15+1)) (r_13++(t15 :: ([]:List Int))) o1_1 o2_1 o3 o5).bind fun r_14=>
      kb ((z0l (t15+1)),r_14.2.2.1,r_14.2.2.2.1,r_14.2.2.2.2.1,r_14.2.2.2.2.2.2.1),
      chk (decide ((Nat.succ (List.length r_13))≤z3e)) <|
      (zi2 N (z0l (t0_1-1)) (z0l (t15+1)) (r_13++(t15 :: ([]:List Int))) o1_1 o2_1 o3 o5).bind fun r_15=>
      kb ((z0l (t15+1)),r_15.2.2.1,r_15.2.2.2.1,r_15.2.2.2.2.1,r_15.2.2.2.2.2.2.1)]]])
   (kx0 o1_1 o2_1 o3 o5)
def zxr (N:Nat) (t0:Int) (t1:Int) (o0:Ye) (o1:List Ya) (o2:Int) (o4:List Int):Option ((Yy×Yan)):=
 cond (decide (t0=0))
  ((f49 N o0 ([]:List Int)).bind fun r=>
  (f50 N o0 o1 r.1).bind fun r_1=>
  cond (decide (o2 < r_1.1))
   ((f51 N ([]:List Int)).bind fun r_2=>
   some (((),((),((),((),((),()))))),(o0,(o1,(r_1.1,((),(r_2,(((),((),((),((),((),()))))),()))))))))
   (some (((),((),((),((),((),()))))),(o0,(o1,(o2,((),(o4,(((),((),((),((),((),()))))),())))))))))
  (iter (fun w=>zew N t0 w
   (fun o0_1 o1_2 o2_2 o4_1=>
    some (((),((),((),((),((),()))))),(o0_1,(o1_2,(o2_2,((),(o4_1,(((),((),((),((),((),()))))),()))))))))) N (t1,o0,o1,o2,o4))
def fi48v3:SForm:=⟨[(0,(.val .ya)),(1,(.val .ya)),(2,.nilS),(3,(.bptr 0 [])),(4,(.bptr 1 [])),(5,(.bptr 2 [])),(6,(.bptr 3 [])),(7,(.bptr 5 []))],[.cell (.val .yg),.cell (.val .yc),.cell (.val .ya),.cell (.ref 4),.row .ya,.cell (.clos 48 (.pr (.bptr 0 []) (.pr (.bptr 1 []) (.pr (.bptr 2 []) (.pr (.bptr 3 []) (.pr (.bptr 5 []) .un))))))]⟩
def fo48v3:SForm:=⟨[(3,(.bptr 0 [])),(4,(.bptr 1 [])),(5,(.bptr 2 [])),(6,(.bptr 3 [])),(7,(.bptr 5 []))],[.cell (.val .yg),.cell (.val .yc),.cell (.val .ya),.cell (.ref 4),.row .ya,.cell (.clos 48 (.pr (.bptr 0 []) (.pr (.bptr 1 []) (.pr (.bptr 2 []) (.pr (.bptr 3 []) (.pr (.bptr 5 []) .un))))))]⟩
def c48v3 (N:Nat):Callee:=.mut fi48v3 [3,4,5,6,7] fo48v3 fun d=>zxr N d.1.1 d.1.2.1 d.2.1 d.2.2.1 d.2.2.2.1 d.2.2.2.2.2.1
def zyq:SForm:=⟨[(15,(.val .ya)),(2,.nilS),(0,(.val .ya)),(7,(.bptr 0 [])),(3,(.bptr 1 [])),(4,(.bptr 2 [])),(5,(.bptr 3 [])),(6,(.bptr 4 []))],[.cell (.clos 48 (.pr (.bptr 1 []) (.pr (.bptr 2 []) (.pr (.bptr 3 []) (.pr (.bptr 4 []) (.pr (.bptr 0 []) .un)))))),.cell (.val .yg),.cell (.val .yc),.cell (.val .ya),.cell (.ref 5),.row .ya]⟩
def zym (N:Nat):(R:Type)->zyq.den->(AExit->St->Option R)->Option R:=fun R d k=>iter (fun kb=>zew N d.1.2.2.1 kb
  (fun y0 y1 y2 y3=>k (.exit 0) (St.of [(3,(.bptr 0 [])),(4,(.bptr 1 [])),(5,(.bptr 2 [])),(6,(.bptr 3 [])),(7,(.bptr 5 []))] [.cell (.data .yg y0),.cell (.data .yc y1),.cell (.data .ya y2),.cell (.ref 4 [] 0),.row .ya y3 0,.cell (.clos 48 (.pr (.bptr 0 []) (.pr (.bptr 1 []) (.pr (.bptr 2 []) (.pr (.bptr 3 []) (.pr (.bptr 5 []) .un))))))]))) N (d.1.1,d.2.2.1,d.2.2.2.1,d.2.2.2.2.1,d.2.2.2.2.2.2.1)
def lp48v3 (N:Nat):Nat->Option z0m:=fun r=>cond (Nat.beq r 6) (some fun R sl os k=>zyq.take sl os fun d=>zym N R d k) (none)
def zv4 (N:Nat):Ctx:=(mkX N 56 [(49,[c49 N]),(50,[c50 N]),(51,[c51 N]),(48,[c48v2 N])] [(6,⟨[15,2,0,7,3,4,5,6],[]⟩)] [(6,[(0,⟨[3,4,5,6,7],[]⟩)])] ⟨[3,4,5,6,7],[]⟩ (fun _=>none) (lp48v3 N))
noncomputable def zux:Code:=((Go.Proofs.Try.f48).body).getD .skip
theorem s48v3_6 (N:Nat) {R:Type} (k:AExit->St->Option R) (t0_1:Int) (kb:List Yp->List Obj->Option R) (x:Int×Ye×List Ya×Int×List Int):z0z (zv4 N) (z04 6 (z00 zux)) (St.of [(15,(.data .ya x.1)),(2,.nilS),(0,(.data .ya t0_1)),(7,(.bptr 0 [])),(3,(.bptr 1 [])),(4,(.bptr 2 [])),(5,(.bptr 3 [])),(6,(.bptr 4 []))] [.cell (.clos 48 (.pr (.bptr 1 []) (.pr (.bptr 2 []) (.pr (.bptr 3 []) (.pr (.bptr 4 []) (.pr (.bptr 0 []) .un)))))),.cell (.data .yg x.2.1),.cell (.data .yc x.2.2.1),.cell (.data .ya x.2.2.2.1),.cell (.ref 5 [] 0),.row .ya x.2.2.2.2 0]) (z1q (zv4 N) 6 ⟨[15,2,0,7,3,4,5,6],[]⟩ kb k)=zew N t0_1 (fun y=>kb [(15,(.data .ya y.1)),(2,.nilS),(0,(.data .ya t0_1)),(7,(.bptr 0 [])),(3,(.bptr 1 [])),(4,(.bptr 2 [])),(5,(.bptr 3 [])),(6,(.bptr 4 []))] [.cell (.clos 48 (.pr (.bptr 1 []) (.pr (.bptr 2 []) (.pr (.bptr 3 []) (.pr (.bptr 4 []) (.pr (.bptr 0 []) .un)))))),.cell (.data .yg y.2.1),.cell (.data .yc y.2.2.1),.cell (.data .ya y.2.2.2.1),.cell (.ref 5 [] 0),.row .ya y.2.2.2.2 0])
  (fun y0 y1 y2 y3=>k (.exit 0) (St.of [(3,(.bptr 0 [])),(4,(.bptr 1 [])),(5,(.bptr 2 [])),(6,(.bptr 3 [])),(7,(.bptr 5 []))] [.cell (.data .yg y0),.cell (.data .yc y1),.cell (.data .ya y2),.cell (.ref 4 [] 0),.row .ya y3 0,.cell (.clos 48 (.pr (.bptr 0 []) (.pr (.bptr 1 []) (.pr (.bptr 2 []) (.pr (.bptr 3 []) (.pr (.bptr 5 []) .un))))))])) x:=by kernel_rfl
theorem l48v3_6 (N:Nat):z0r (zv4 N) (z04 6 (z00 zux)):=
 z0i (zym N) (by kernel_rfl) (by kernel_rfl) (by kernel_rfl) fun R k d=>
  z0g (st:=fun (x:Int×Ye×List Ya×Int×List Int)=>([(15,(.data .ya x.1)),(2,.nilS),(0,(.data .ya d.1.2.2.1)),(7,(.bptr 0 [])),(3,(.bptr 1 [])),(4,(.bptr 2 [])),(5,(.bptr 3 [])),(6,(.bptr 4 []))],[.cell (.clos 48 (.pr (.bptr 1 []) (.pr (.bptr 2 []) (.pr (.bptr 3 []) (.pr (.bptr 4 []) (.pr (.bptr 0 []) .un)))))),.cell (.data .yg x.2.1),.cell (.data .yc x.2.2.1),.cell (.data .ya x.2.2.2.1),.cell (.ref 5 [] 0),.row .ya x.2.2.2.2 0])) (s48v3_6 N k d.1.2.2.1) N (d.1.1,d.2.2.1,d.2.2.2.1,d.2.2.2.2.1,d.2.2.2.2.2.2.1)
theorem e48v3 (N:Nat) (t0:Int) (t1:Int) (o0:Ye) (o1:List Ya) (o2:Int) (o4:List Int):zch (zv4 N) fo48v3 zux (St.of [(0,(.data .ya t0)),(1,(.data .ya t1)),(2,.nilS),(3,(.bptr 0 [])),(4,(.bptr 1 [])),(5,(.bptr 2 [])),(6,(.bptr 3 [])),(7,(.bptr 5 []))] [.cell (.data .yg o0),.cell (.data .yc o1),.cell (.data .ya o2),.cell (.ref 4 [] 0),.row .ya o4 0,.cell (.clos 48 (.pr (.bptr 0 []) (.pr (.bptr 1 []) (.pr (.bptr 2 []) (.pr (.bptr 3 []) (.pr (.bptr 5 []) .un))))))])=zxr N t0 t1 o0 o1 o2 o4:=by kernel_rfl
theorem k48v3 (N:Nat):z03 Go.Proofs.Try.prog 48 (c48v3 N):=
 z35 (fn:=Go.Proofs.Try.f48) (body:=zux) (c:=zv4 N) (rs:=[]) Go.Proofs.Try.func48 (by kernel_rfl) (by kernel_rfl) ⟨ttL_ok,z0n,z0p,z0q,z0o,z02 (z01 (k49 N)) (z02 (z01 (k50 N)) (z02 (z01 (k51 N)) (z02 (z01 (k48v2 N)) (z0e))))⟩ mixed (by kernel_rfl) (zL (by kernel_rfl)) (by kernel_rfl) (by kernel_rfl) (by kernel_rfl) (z3q (by kernel_rfl))
  (z0b (by kernel_rfl:z00 zux=[z04 6 (z00 zux)]) (.cons (l48v3_6 N) .nil)) fun d=>e48v3 N d.1.1 d.1.2.1 d.2.1 d.2.2.1 d.2.2.2.1 d.2.2.2.2.2.1
def zol {R:Type} (N:Nat) (t27:Int) (kb:Int×Ye×List Ya×Int×List Int->Option R) (kx0:Ya->Int->Option R):Int×Ye×List Ya×Int×List Int->Option R:=
 fun (t28,o1,o2,o3,o5)=>
  cond (decide (t28 < t27))
   ((zxr N t28 0 o1 o2 o3 o5).bind fun r_1=>
   kb ((z0l (t28+1)),r_1.2.1,r_1.2.2.1,r_1.2.2.2.1,r_1.2.2.2.2.2.1))
   (kx0 o5 o3)
def f19 (N:Nat) (a0:Ye) (a1:List Ya) (a2:Int):Option (Int×List Int×Int):=
 (f33 N a0 a1 a2).bind fun r=>
 cond (!(decide (r=0)))
  (some (0,(([]:List Int),r)))
  (iter (fun w=>zol N (z0l ((minI a2 (len a0.2.1))+1)) w
   (fun o1_1 o2_1=>
    some (o2_1,(o1_1,0)))) N (0,a0,a1,(-1),([]:List Int)))
def c19 (N:Nat):Callee:=.pure (.pr (.val .yg) (.pr (.val .yc) (.pr (.val .ya) .un))) [.ya,.yj,.ya] fun d=>f19 N d.1 d.2.1 d.2.2.1
def F19_8:SForm:=⟨[(28,(.val .ya)),(12,(.bptr 0 [])),(11,(.bptr 4 [])),(10,(.bptr 3 [])),(27,(.val .ya))],[.cell (.clos 48 (.pr (.bptr 1 []) (.pr (.bptr 2 []) (.pr (.bptr 3 []) (.pr (.bptr 4 []) (.pr (.bptr 0 []) .un)))))),.cell (.val .yg),.cell (.val .yc),.cell (.val .ya),.cell (.ref 5),.row .ya]⟩
def G19_8 (N:Nat):(R:Type)->F19_8.den->(AExit->St->Option R)->Option R:=fun R d k=>iter (fun kb=>zol N d.1.2.2.2.2.1 kb
  (fun y0 y1=>k (.exit 0) (St.of [(11,(.bptr 0 [])),(10,(.bptr 2 []))] [.cell (.ref 1 [] 0),.row .ya y0 0,.cell (.data .ya y1)]))) N (d.1.1,d.2.2.1,d.2.2.2.1,d.2.2.2.2.1,d.2.2.2.2.2.2.1)
def lp19 (N:Nat):Nat->Option z0m:=fun r=>cond (Nat.beq r 8) (some fun R sl os k=>F19_8.take sl os fun d=>G19_8 N R d k) (none)
def x19 (N:Nat):Ctx:=(mkX N 37 [(33,[c33 N]),(48,[c48v3 N])] [(8,⟨[28,12,11,10,27],[(11,some [],.row .ya)]⟩)] [(8,[(0,⟨[11,10],[]⟩)])] ⟨[6,7,8],[]⟩ (fun _=>none) (lp19 N))
noncomputable def b19:Code:=((Go.Proofs.Try.f19).body).getD .skip
theorem s19_8 (N:Nat) {R:Type} (k:AExit->St->Option R) (t27:Int) (kb:List Yp->List Obj->Option R) (x:Int×Ye×List Ya×Int×List Int):z0z (x19 N) (z04 8 (z00 b19)) (St.of [(28,(.data .ya x.1)),(12,(.bptr 0 [])),(11,(.bptr 4 [])),(10,(.bptr 3 [])),(27,(.data .ya t27))] [.cell (.clos 48 (.pr (.bptr 1 []) (.pr (.bptr 2 []) (.pr (.bptr 3 []) (.pr (.bptr 4 []) (.pr (.bptr 0 []) .un)))))),.cell (.data .yg x.2.1),.cell (.data .yc x.2.2.1),.cell (.data .ya x.2.2.2.1),.cell (.ref 5 [] 0),.row .ya x.2.2.2.2 0]) (z1q (x19 N) 8 ⟨[28,12,11,10,27],[(11,some [],.row .ya)]⟩ kb k)=zol N t27 (fun y=>kb [(28,(.data .ya y.1)),(12,(.bptr 0 [])),(11,(.bptr 4 [])),(10,(.bptr 3 [])),(27,(.data .ya t27))] [.cell (.clos 48 (.pr (.bptr 1 []) (.pr (.bptr 2 []) (.pr (.bptr 3 []) (.pr (.bptr 4 []) (.pr (.bptr 0 []) .un)))))),.cell (.data .yg y.2.1),.cell (.data .yc y.2.2.1),.cell (.data .ya y.2.2.2.1),.cell (.ref 5 [] 0),.row .ya y.2.2.2.2 0])
  (fun y0 y1=>k (.exit 0) (St.of [(11,(.bptr 0 [])),(10,(.bptr 2 []))] [.cell (.ref 1 [] 0),.row .ya y0 0,.cell (.data .ya y1)])) x:=by kernel_rfl
theorem l19_8 (N:Nat):z0r (x19 N) (z04 8 (z00 b19)):=
 z0i (G19_8 N) (by kernel_rfl) (by kernel_rfl) (by kernel_rfl) fun R k d=>
  z0g (st:=fun (x:Int×Ye×List Ya×Int×List Int)=>([(28,(.data .ya x.1)),(12,(.bptr 0 [])),(11,(.bptr 4 [])),(10,(.bptr 3 [])),(27,(.data .ya d.1.2.2.2.2.1))],[.cell (.clos 48 (.pr (.bptr 1 []) (.pr (.bptr 2 []) (.pr (.bptr 3 []) (.pr (.bptr 4 []) (.pr (.bptr 0 []) .un)))))),.cell (.data .yg x.2.1),.cell (.data .yc x.2.2.1),.cell (.data .ya x.2.2.2.1),.cell (.ref 5 [] 0),.row .ya x.2.2.2.2 0])) (s19_8 N k d.1.2.2.2.2.1) N (d.1.1,d.2.2.1,d.2.2.2.1,d.2.2.2.2.1,d.2.2.2.2.2.2.1)
theorem e19 (N:Nat) (a0:Ye) (a1:List Ya) (a2:Int):z1y (x19 N) [.ya,.yj,.ya] [.tmp 6,.tmp 7,.tmp 8] b19 (entry (.pr (.val .yg) (.pr (.val .yc) (.pr (.val .ya) .un))) (a0,(a1,(a2,()))))=f19 N a0 a1 a2:=by kernel_rfl
theorem k19 (N:Nat):z03 Go.Proofs.Try.prog 19 (c19 N):=
 z23 (fn:=Go.Proofs.Try.f19) (body:=b19) (c:=x19 N) Go.Proofs.Try.func19 (by kernel_rfl) (by kernel_rfl) ⟨ttL_ok,z0n,z0p,z0q,z0o,z02 (z01 (k33 N)) (z02 (z01 (k48v3 N)) (z0e))⟩ mixed (by kernel_rfl) (zL (by kernel_rfl)) (by kernel_rfl) (by decide)
  (z0b (by kernel_rfl:z00 b19=[z04 8 (z00 b19)]) (.cons (l19_8 N) .nil)) fun d=>e19 N d.1 d.2.1 d.2.2.1
def zsy {R:Type} (N:Nat) (t1:List Int) (t0:List Int) (t12:Int) (kb:Int->Option R) (kret:Bool->Option R) (kx0:Unit->Option R):Int->Option R:=
 fun t13=>
  cond (decide (t13 < t12))
   ((idx t0 t13).bind fun x=>
   (idx t1 t13).bind fun x_1=>
   cond (!(decide (x=x_1)))
    (kret false)
    (kb (z0l (t13+1))))
   (kx0 ())
def f27 (N:Nat) (a0:List Int) (a1:List Int):Option (Bool):=
 cond (!(decide ((len a0)=(len a1))))
  (some false)
  (iter (fun w=>zsy N a1 a0 (len a0) w
   (fun t4=>
    some t4)
   (fun (_:Unit)=>
    some true)) N 0)
def c27 (N:Nat):Callee:=.pure (.pr (.val .yb) (.pr (.val .yb) .un)) [.bool] fun d=>f27 N d.1 d.2.1
def F27_4:SForm:=⟨[(13,(.val .ya)),(1,(.val .yb)),(0,(.val .yb)),(12,(.val .ya))],[]⟩
def G27_4 (N:Nat):(R:Type)->F27_4.den->(AExit->St->Option R)->Option R:=fun R d k=>iter (fun kb=>zsy N d.1.2.1 d.1.2.2.1 d.1.2.2.2.1 kb
  (fun y0=>k .ret (St.of [(4,(.data .bool y0))] []))
  (fun _=>k (.exit 0) (St.of [] []))) N d.1.1
def lp27 (N:Nat):Nat->Option z0m:=fun r=>cond (Nat.beq r 4) (some fun R sl os k=>F27_4.take sl os fun d=>G27_4 N R d k) (none)
def x27 (N:Nat):Ctx:=(mkX N 26 [] [(4,⟨[13,1,0,12],[]⟩)] [(4,[(0,⟨[],[]⟩)])] ⟨[4],[]⟩ (fun _=>none) (lp27 N))
noncomputable def b27:Code:=((Go.Proofs.Try.f27).body).getD .skip
theorem s27_4 (N:Nat) {R:Type} (k:AExit->St->Option R) (t1:List Int) (t0:List Int) (t12:Int) (kb:List Yp->List Obj->Option R) (x:Int):z0z (x27 N) (z04 4 (z00 b27)) (St.of [(13,(.data .ya x)),(1,(.data .yb t1)),(0,(.data .yb t0)),(12,(.data .ya t12))] []) (z1q (x27 N) 4 ⟨[13,1,0,12],[]⟩ kb k)=zsy N t1 t0 t12 (fun y=>kb [(13,(.data .ya y)),(1,(.data .yb t1)),(0,(.data .yb t0)),(12,(.data .ya t12))] [])
  (fun y0=>k .ret (St.of [(4,(.data .bool y0))] []))
  (fun _=>k (.exit 0) (St.of [] [])) x:=by kernel_rfl
theorem l27_4 (N:Nat):z0r (x27 N) (z04 4 (z00 b27)):=
 z0i (G27_4 N) (by kernel_rfl) (by kernel_rfl) (by kernel_rfl) fun R k d=>
  z0g (st:=fun (x:Int)=>([(13,(.data .ya x)),(1,(.data .yb d.1.2.1)),(0,(.data .yb d.1.2.2.1)),(12,(.data .ya d.1.2.2.2.1))],[])) (s27_4 N k d.1.2.1 d.1.2.2.1 d.1.2.2.2.1) N d.1.1
theorem e27 (N:Nat) (a0:List Int) (a1:List Int):z1y (x27 N) [.bool] [.tmp 4] b27 (entry (.pr (.val .yb) (.pr (.val .yb) .un)) (a0,(a1,())))=f27 N a0 a1:=by kernel_rfl
theorem k27 (N:Nat):z03 Go.Proofs.Try.prog 27 (c27 N):=
 z23 (fn:=Go.Proofs.Try.f27) (body:=b27) (c:=x27 N) Go.Proofs.Try.func27 (by kernel_rfl) (by kernel_rfl) ⟨ttL_ok,z0n,z0p,z0q,z0o,z0e⟩ mixed (by kernel_rfl) (zL (by kernel_rfl)) (by kernel_rfl) (by decide)
  (z0b (by kernel_rfl:z00 b27=[z04 4 (z00 b27)]) (.cons (l27_4 N) .nil)) fun d=>e27 N d.1 d.2.1
def f63 (N:Nat) (a0:Yk) (a1:Yk):Option (Bool):=
 (cond (decide (a0.1=a1.1))
   ((f27 N a0.2.1 a1.2.1).bind fun r=>
   some r)
   (some false)).bind fun b=>
 some b
def c63 (N:Nat):Callee:=.pure (.pr (.val .yo) (.pr (.val .yo) .un)) [.bool] fun d=>f63 N d.1 d.2.1
def lp63 (N:Nat):Nat->Option z0m:=fun r=>none
def x63 (N:Nat):Ctx:=(mkX N 17 [(27,[c27 N])] [] [] ⟨[4],[]⟩ (fun _=>none) (lp63 N))
noncomputable def b63:Code:=((Go.Proofs.Try.f63).body).getD .skip
theorem e63 (N:Nat) (a0:Yk) (a1:Yk):z1y (x63 N) [.bool] [.tmp 4] b63 (entry (.pr (.val .yo) (.pr (.val .yo) .un)) (a0,(a1,())))=f63 N a0 a1:=by kernel_rfl
theorem k63 (N:Nat):z03 Go.Proofs.Try.prog 63 (c63 N):=
 z23 (fn:=Go.Proofs.Try.f63) (body:=b63) (c:=x63 N) Go.Proofs.Try.func63 (by kernel_rfl) (by kernel_rfl) ⟨ttL_ok,z0n,z0p,z0q,z0o,z02 (z01 (k27 N)) (z0e)⟩ mixed (by kernel_rfl) (zL (by kernel_rfl)) (by kernel_rfl) (by decide)
  (z0b (by kernel_rfl:z00 b63=[]) .nil) fun d=>e63 N d.1 d.2.1
def zji {R:Type} (N:Nat) (t2:Unit) (t1:List Yk) (t15:List Yk) (t16:Int) (kb:Int->Option R) (kret:Bool->Option R) (kx0:Unit->Option R):Int->Option R:=
 fun t17=>
  cond (decide (t17 < t16))
   ((idx t15 t17).bind fun x=>
   (idx t1 t17).bind fun x_1=>
   (f63 N x x_1).bind fun r=>
   cond (!r)
    (kret false)
    (kb (z0l (t17+1))))
   (kx0 ())
def f62 (N:Nat) (a0:List Yk) (a1:List Yk) (a2:Unit):Option (Bool):=
 cond (!(decide ((len a0)=(len a1))))
  (some false)
  (iter (fun w=>zji N a2 a1 a0 (len a0) w
   (fun t6=>
    some t6)
   (fun (_:Unit)=>
    some true)) N 0)
def c62 (N:Nat):Callee:=.pure (.pr (.val .yp) (.pr (.val .yp) (.pr (.val (.fn 63 .unit)) .un))) [.bool] fun d=>f62 N d.1 d.2.1 d.2.2.1
def F62_4:SForm:=⟨[(17,(.val .ya)),(2,(.val (.fn 63 .unit))),(1,(.val .yp)),(15,(.val .yp)),(16,(.val .ya))],[]⟩
def G62_4 (N:Nat):(R:Type)->F62_4.den->(AExit->St->Option R)->Option R:=fun R d k=>iter (fun kb=>zji N d.1.2.1 d.1.2.2.1 d.1.2.2.2.1 d.1.2.2.2.2.1 kb
  (fun y0=>k .ret (St.of [(6,(.data .bool y0))] []))
  (fun _=>k (.exit 0) (St.of [] []))) N d.1.1
def lp62 (N:Nat):Nat->Option z0m:=fun r=>cond (Nat.beq r 4) (some fun R sl os k=>F62_4.take sl os fun d=>G62_4 N R d k) (none)
def x62 (N:Nat):Ctx:=(mkX N 32 [(63,[c63 N])] [(4,⟨[17,2,1,15,16],[]⟩)] [(4,[(0,⟨[],[]⟩)])] ⟨[6],[]⟩ (fun _=>none) (lp62 N))
noncomputable def b62:Code:=((Go.Proofs.Try.f62).body).getD .skip
theorem s62_4 (N:Nat) {R:Type} (k:AExit->St->Option R) (t2:Unit) (t1:List Yk) (t15:List Yk) (t16:Int) (kb:List Yp->List Obj->Option R) (x:Int):z0z (x62 N) (z04 4 (z00 b62)) (St.of [(17,(.data .ya x)),(2,(.data (.fn 63 .unit) t2)),(1,(.data .yp t1)),(15,(.data .yp t15)),(16,(.data .ya t16))] []) (z1q (x62 N) 4 ⟨[17,2,1,15,16],[]⟩ kb k)=zji N t2 t1 t15 t16 (fun y=>kb [(17,(.data .ya y)),(2,(.data (.fn 63 .unit) t2)),(1,(.data .yp t1)),(15,(.data .yp t15)),(16,(.data .ya t16))] [])
  (fun y0=>k .ret (St.of [(6,(.data .bool y0))] []))
  (fun _=>k (.exit 0) (St.of [] [])) x:=by kernel_rfl
theorem l62_4 (N:Nat):z0r (x62 N) (z04 4 (z00 b62)):=
 z0i (G62_4 N) (by kernel_rfl) (by kernel_rfl) (by kernel_rfl) fun R k d=>
  z0g (st:=fun (x:Int)=>([(17,(.data .ya x)),(2,(.data (.fn 63 .unit) d.1.2.1)),(1,(.data .yp d.1.2.2.1)),(15,(.data .yp d.1.2.2.2.1)),(16,(.data .ya d.1.2.2.2.2.1))],[])) (s62_4 N k d.1.2.1 d.1.2.2.1 d.1.2.2.2.1 d.1.2.2.2.2.1) N d.1.1
theorem e62 (N:Nat) (a0:List Yk) (a1:List Yk) (a2:Unit):z1y (x62 N) [.bool] [.tmp 6] b62 (entry (.pr (.val .yp) (.pr (.val .yp) (.pr (.val (.fn 63 .unit)) .un))) (a0,(a1,(a2,()))))=f62 N a0 a1 a2:=by kernel_rfl
theorem k62 (N:Nat):z03 Go.Proofs.Try.prog 62 (c62 N):=
 z23 (fn:=Go.Proofs.Try.f62) (body:=b62) (c:=x62 N) Go.Proofs.Try.func62 (by kernel_rfl) (by kernel_rfl) ⟨ttL_ok,z0n,z0p,z0q,z0o,z02 (z01 (k63 N)) (z0e)⟩ mixed (by kernel_rfl) (zL (by kernel_rfl)) (by kernel_rfl) (by decide)
  (z0b (by kernel_rfl:z00 b62=[z04 4 (z00 b62)]) (.cons (l62_4 N) .nil)) fun d=>e62 N d.1 d.2.1 d.2.2.1
def f23 (N:Nat) (a0:List Yk) (a1:List Yk):Option (Bool):=
 (f62 N a0 a1 ()).bind fun r=>
 some r
def c23 (N:Nat):Callee:=.pure (.pr (.val .yp) (.pr (.val .yp) .un)) [.bool] fun d=>f23 N d.1 d.2.1
def lp23 (N:Nat):Nat->Option z0m:=fun r=>none
def x23 (N:Nat):Ctx:=(mkX N 8 [(62,[c62 N])] [] [] ⟨[4],[]⟩ (fun _=>none) (lp23 N))
noncomputable def b23:Code:=((Go.Proofs.Try.f23).body).getD .skip
theorem e23 (N:Nat) (a0:List Yk) (a1:List Yk):z1y (x23 N) [.bool] [.tmp 4] b23 (entry (.pr (.val .yp) (.pr (.val .yp) .un)) (a0,(a1,())))=f23 N a0 a1:=by kernel_rfl
theorem k23 (N:Nat):z03 Go.Proofs.Try.prog 23 (c23 N):=
 z23 (fn:=Go.Proofs.Try.f23) (body:=b23) (c:=x23 N) Go.Proofs.Try.func23 (by kernel_rfl) (by kernel_rfl) ⟨ttL_ok,z0n,z0p,z0q,z0o,z02 (z01 (k62 N)) (z0e)⟩ mixed (by kernel_rfl) (zL (by kernel_rfl)) (by kernel_rfl) (by decide)
  (z0b (by kernel_rfl:z00 b23=[]) .nil) fun d=>e23 N d.1 d.2.1
def zjm {R:Type} (N:Nat) (t15_1:List Ya) (t16_1:Int) (t17_1:Int) (t25:Int) (o0_2:List Yf) (o1_1:Yr) (o2:List Int) (kb:Int×Int->Option R) (kret:Bool->Option R) (kx2:Int->Option R):Int×Int->Option R:=
 fun (t26,t9)=>
  cond (decide (t26 < t25))
   (chk (inb o2 t26) <|
   (idx o2 t26).bind fun x_1=>
   cond (decide (x_1=0))
    (kb ((z0l (t26+1)),t9))
    (cond (!(Option.isSome (z9a (eqD .ye) o0_2 (x_1,((z0l (o1_1.2.1-1)),())))))
     (kret false)
     (kb ((z0l (t26+1)),(z0l (t9+(Option.getD (z9a (eqD .ye) o0_2 (x_1,((z0l (o1_1.2.1-1)),()))) 0)))))))
   (kx2 t9)
def zof {R:Type} (N:Nat) (t15:List Ya) (t16:Int) (o0_1:List Yf) (o1:Yr) (kb:Int->Option R) (kret:Bool->Option R) (kx0:Unit->Option R):Int->Option R:=
 fun t17=>
  cond (decide (t17 < t16))
   ((idx t15 t17).bind fun x=>
   (f76 N x o1.1).bind fun r=>
   iter (fun w=>zjm N t15 t16 t17 (len r) o0_1 o1 r w
    (fun t6=>
     kret t6)
    (fun t9_1=>
     cond (decide (o1.2.2.1 < t9_1))
      (kret false)
      (kb (z0l (t17+1))))) N (0,0))
   (kx0 ())
def f37 (N:Nat) (t0:Ye) (t2:Yr) (o0:List Yf):Option ((Yad×Yo)):=
 iter (fun w=>zof N t0.2.1 (len t0.2.1) o0 t2 w
  (fun t6_1=>
   some (((),(t6_1,())),(o0,())))
  (fun (_:Unit)=>
   some (((),(true,())),(o0,())))) N 0
def fi37:SForm:=⟨[(0,(.val .yg)),(1,(.mref 0)),(2,(.val .yh))],[.map .ye .ya]⟩
def fo37:SForm:=⟨[(1,(.mref 0)),(6,(.val .bool))],[.map .ye .ya]⟩
def c37 (N:Nat):Callee:=.mut fi37 [1] fo37 fun d=>f37 N d.1.1 d.1.2.2.1 d.2.1
def F37_6:SForm:=⟨[(26,(.val .ya)),(1,(.mref 0)),(9,(.val .ya)),(5,(.bptr 1 [])),(24,(.ref 2)),(15,(.val .yc)),(16,(.val .ya)),(17,(.val .ya)),(25,(.val .ya))],[.map .ye .ya,.cell (.val .yh),.row .ya]⟩
def G37_6 (N:Nat):(R:Type)->F37_6.den->(AExit->St->Option R)->Option R:=fun R d k=>iter (fun kb=>zjm N d.1.2.2.2.2.2.1 d.1.2.2.2.2.2.2.1 d.1.2.2.2.2.2.2.2.1 d.1.2.2.2.2.2.2.2.2.1 d.2.1 d.2.2.1 d.2.2.2.1 kb
  (fun y0=>k .ret (St.of [(1,(.mref 0)),(6,(.data .bool y0))] [.map .ye .ya d.2.1]))
  (fun y3=>k (.exit 2) (St.of [(1,(.mref 0)),(5,(.bptr 1 [])),(15,(.data .yc d.1.2.2.2.2.2.1)),(16,(.data .ya d.1.2.2.2.2.2.2.1)),(17,(.data .ya d.1.2.2.2.2.2.2.2.1)),(9,(.data .ya y3))] [.map .ye .ya d.2.1,.cell (.data .yh d.2.2.1)]))) N (d.1.1,d.1.2.2.1)
def F37_2:SForm:=⟨[(1,(.mref 0)),(5,(.bptr 1 [])),(17,(.val .ya)),(15,(.val .yc)),(16,(.val .ya))],[.map .ye .ya,.cell (.val .yh)]⟩
def G37_2 (N:Nat):(R:Type)->F37_2.den->(AExit->St->Option R)->Option R:=fun R d k=>iter (fun kb=>zof N d.1.2.2.2.1 d.1.2.2.2.2.1 d.2.1 d.2.2.1 kb
  (fun y0=>k .ret (St.of [(1,(.mref 0)),(6,(.data .bool y0))] [.map .ye .ya d.2.1]))
  (fun _=>k (.exit 0) (St.of [(1,(.mref 0))] [.map .ye .ya d.2.1]))) N d.1.2.2.1
def lp37 (N:Nat):Nat->Option z0m:=fun r=>cond (Nat.beq r 6) (some fun R sl os k=>F37_6.take sl os fun d=>G37_6 N R d k) (cond (Nat.beq r 2) (some fun R sl os k=>F37_2.take sl os fun d=>G37_2 N R d k) (none))
def x37 (N:Nat):Ctx:=(mkX N 53 [(76,[c76 N])] [(2,⟨[1,5,17,15,16],[]⟩),(6,⟨[26,1,9,5,24,15,16,17,25],[]⟩)] [(2,[(0,⟨[1],[]⟩)]),(6,[(2,⟨[1,5,15,16,17,9],[]⟩)])] ⟨[1,6],[]⟩ (fun _=>none) (lp37 N))
noncomputable def b37:Code:=((Go.Proofs.Try.f37).body).getD .skip
theorem s37_6 (N:Nat) {R:Type} (k:AExit->St->Option R) (t15_1:List Ya) (t16_1:Int) (t17_1:Int) (t25:Int) (o0_2:List Yf) (o1_1:Yr) (o2:List Int) (kb:List Yp->List Obj->Option R) (x:Int×Int):z0z (x37 N) (z04 6 (z00 b37)) (St.of [(26,(.data .ya x.1)),(1,(.mref 0)),(9,(.data .ya x.2)),(5,(.bptr 1 [])),(24,(.ref 2 [] 0)),(15,(.data .yc t15_1)),(16,(.data .ya t16_1)),(17,(.data .ya t17_1)),(25,(.data .ya t25))] [.map .ye .ya o0_2,.cell (.data .yh o1_1),.row .ya o2 0]) (z1q (x37 N) 6 ⟨[26,1,9,5,24,15,16,17,25],[]⟩ kb k)=zjm N t15_1 t16_1 t17_1 t25 o0_2 o1_1 o2 (fun y=>kb [(26,(.data .ya y.1)),(1,(.mref 0)),(9,(.data .ya y.2)),(5,(.bptr 1 [])),(24,(.ref 2 [] 0)),(15,(.data .yc t15_1)),(16,(.data .ya t16_1)),(17,(.data .ya t17_1)),(25,(.data .ya t25))] [.map .ye .ya o0_2,.cell (.data .yh o1_1),.row .ya o2 0])
  (fun y0=>k .ret (St.of [(1,(.mref 0)),(6,(.data .bool y0))] [.map .ye .ya o0_2]))
  (fun y3=>k (.exit 2) (St.of [(1,(.mref 0)),(5,(.bptr 1 [])),(15,(.data .yc t15_1)),(16,(.data .ya t16_1)),(17,(.data .ya t17_1)),(9,(.data .ya y3))] [.map .ye .ya o0_2,.cell (.data .yh o1_1)])) x:=by kernel_rfl
theorem l37_6 (N:Nat):z0r (x37 N) (z04 6 (z00 b37)):=
 z0i (G37_6 N) (by kernel_rfl) (by kernel_rfl) (by kernel_rfl) fun R k d=>
  z0g (st:=fun (x:Int×Int)=>([(26,(.data .ya x.1)),(1,(.mref 0)),(9,(.data .ya x.2)),(5,(.bptr 1 [])),(24,(.ref 2 [] 0)),(15,(.data .yc d.1.2.2.2.2.2.1)),(16,(.data .ya d.1.2.2.2.2.2.2.1)),(17,(.data .ya d.1.2.2.2.2.2.2.2.1)),(25,(.data .ya d.1.2.2.2.2.2.2.2.2.1))],[.map .ye .ya d.2.1,.cell (.data .yh d.2.2.1),.row .ya d.2.2.2.1 0])) (s37_6 N k d.1.2.2.2.2.2.1 d.1.2.2.2.2.2.2.1 d.1.2.2.2.2.2.2.2.1 d.1.2.2.2.2.2.2.2.2.1 d.2.1 d.2.2.1 d.2.2.2.1) N (d.1.1,d.1.2.2.1)
theorem s37_2 (N:Nat) {R:Type} (k:AExit->St->Option R) (t15:List Ya) (t16:Int) (o0_1:List Yf) (o1:Yr) (kb:List Yp->List Obj->Option R) (x:Int):z0z (x37 N) (z04 2 (z00 b37)) (St.of [(1,(.mref 0)),(5,(.bptr 1 [])),(17,(.data .ya x)),(15,(.data .yc t15)),(16,(.data .ya t16))] [.map .ye .ya o0_1,.cell (.data .yh o1)]) (z1q (x37 N) 2 ⟨[1,5,17,15,16],[]⟩ kb k)=zof N t15 t16 o0_1 o1 (fun y=>kb [(1,(.mref 0)),(5,(.bptr 1 [])),(17,(.data .ya y)),(15,(.data .yc t15)),(16,(.data .ya t16))] [.map .ye .ya o0_1,.cell (.data .yh o1)])
  (fun y0=>k .ret (St.of [(1,(.mref 0)),(6,(.data .bool y0))] [.map .ye .ya o0_1]))
  (fun _=>k (.exit 0) (St.of [(1,(.mref 0))] [.map .ye .ya o0_1])) x:=by kernel_rfl
theorem l37_2 (N:Nat):z0r (x37 N) (z04 2 (z00 b37)):=
 z0i (G37_2 N) (by kernel_rfl) (by kernel_rfl) (by kernel_rfl) fun R k d=>
  z0g (st:=fun (x:Int)=>([(1,(.mref 0)),(5,(.bptr 1 [])),(17,(.data .ya x)),(15,(.data .yc d.1.2.2.2.1)),(16,(.data .ya d.1.2.2.2.2.1))],[.map .ye .ya d.2.1,.cell (.data .yh d.2.2.1)])) (s37_2 N k d.1.2.2.2.1 d.1.2.2.2.2.1 d.2.1 d.2.2.1) N d.1.2.2.1
theorem e37 (N:Nat) (t0:Ye) (t2:Yr) (o0:List Yf):zch (x37 N) fo37 b37 (St.of [(0,(.data .yg t0)),(1,(.mref 0)),(2,(.data .yh t2))] [.map .ye .ya o0])=f37 N t0 t2 o0:=by kernel_rfl
theorem k37 (N:Nat):z03 Go.Proofs.Try.prog 37 (c37 N):=
 z35 (fn:=Go.Proofs.Try.f37) (body:=b37) (c:=x37 N) (rs:=[6]) Go.Proofs.Try.func37 (by kernel_rfl) (by kernel_rfl) ⟨ttL_ok,z0n,z0p,z0q,z0o,z02 (z01 (k76 N)) (z0e)⟩ mixed (by kernel_rfl) (zL (by kernel_rfl)) (by kernel_rfl) (by kernel_rfl) (by kernel_rfl) (z3q (by kernel_rfl))
  (z0b (by kernel_rfl:z00 b37=[z04 2 (z00 b37),z04 6 (z00 b37)]) (.cons (l37_2 N) (.cons (l37_6 N) .nil))) fun d=>e37 N d.1.1 d.1.2.2.1 d.2.1
def zgx {R:Type} (N:Nat) (t3:List Yr) (t1:List Ya) (t4:Int) (t2:Int) (t31:Int) (o0:Ye) (kb:Int->Option R) (kret:Int->Option R) (kx0:Unit->Option R):Int->Option R:=
 fun t32=>
  cond (decide (t32 < t31))
   ((cond (decide (0 < t32))
     ((idx t3 (z0l (t32-1))).bind fun x=>
     (idx t3 t32).bind fun x_1=>
     (f34 N x x_1).bind fun r_1=>
     some (decide (0≤r_1)))
     (some false)).bind fun b=>
   cond b
    (kret 10)
    (kb (z0l (t32+1))))
   (kx0 ())
def zgz {R:Type} (N:Nat) (t1_1:List Ya) (t52:List Yr) (t4_1:Int) (t2_1:Int) (t3_1:List Yr) (t53:Int) (o1:Ye) (kb:Int×Yg->Option R) (kret:Int->Option R) (kx2:Yg->Option R):Int×Yg->Option R:=
 fun (t54,o0_1)=>
  cond (decide (t54 < t53))
   ((idx t52 t54).bind fun x_2=>
   (cond (decide (x_2.2.1 < 0))
     (some true)
     (some (decide (x_2.1 < 1)))).bind fun b_1=>
   (cond b_1
     (some true)
     ((f35 N o1).bind fun r_2=>
     some (decide (r_2 < x_2.1)))).bind fun b_2=>
   (cond b_2
     (some true)
     ((f36 N t1_1 x_2.1).bind fun r_3=>
     some (decide (x_2.2.2.1 < r_3)))).bind fun b_3=>
   (cond b_3
     (some true)
     (some (decide (1099511627776 < x_2.2.2.1)))).bind fun b_4=>
   cond b_4
    (kret 13)
    (kb ((z0l (t54+1)),(zcp (eqD .ye) o0_1 (x_2.1,(x_2.2.1,())) x_2.2.2.1))))
   (kx2 o0_1)
def zgy {R:Type} (N:Nat) (t96:List Yr) (t4_2:Int) (t2_2:Int) (t97:Int) (o1_1:Ye) (kb:Int×Yg->Option R) (kret:Int->Option R) (kx4:Yg->Option R):Int×Yg->Option R:=
 fun (t98,o0_3)=>
  cond (decide (t98 < t97))
   ((idx t96 t98).bind fun x_3=>
   cond (decide (0 < x_3.2.1))
    ((f37 N o1_1 x_3 o0_3).bind fun r_4=>
    cond (!r_4.1.2.1)
     (kret 13)
     (kb ((z0l (t98+1)),r_4.2.1)))
    (kb ((z0l (t98+1)),o0_3)))
   (kx4 o0_3)
def f13 (N:Nat) (a0:Ye) (a1:List Ya) (a2:Int) (a3:List Yr) (a4:Int):Option (Int):=
 (f33 N a0 a1 a2).bind fun r=>
 cond (!(decide (r=0)))
  (some r)
  (cond (decide (4096 < (len a3)))
   (some 4)
   (iter (fun w=>zgx N a3 a1 a4 a2 (len a3) a0 w
    (fun t10=>
     some t10)
    (fun (_:Unit)=>
     iter (fun w=>zgz N a1 a3 a4 a2 a3 (len a3) a0 w
      (fun t10_1=>
       some t10_1)
      (fun o0_2=>
       iter (fun w=>zgy N a3 a4 a2 (len a3) a0 w
        (fun t10_2=>
         some t10_2)
        (fun o1_2=>
         (f35 N a0).bind fun r_5=>
         (cond (!(Option.isSome (z9a (eqD .ye) o1_2 (r_5,(a2,())))))
           (some true)
           (some (decide (a4 < (Option.getD (z9a (eqD .ye) o1_2 (r_5,(a2,()))) 0))))).bind fun b_5=>
         cond b_5
          (some 13)
          (some 0))) N (0,o0_2))) N (0,([]:List Yf)))) N 0))
def c13 (N:Nat):Callee:=.pure (.pr (.val .yg) (.pr (.val .yc) (.pr (.val .ya) (.pr (.val .ym) (.pr (.val .ya) .un))))) [.ya] fun d=>f13 N d.1 d.2.1 d.2.2.1 d.2.2.2.1 d.2.2.2.2.1
def F13_7:SForm:=⟨[(32,(.val .ya)),(3,(.val .ym)),(1,(.val .yc)),(5,(.bptr 0 [])),(4,(.val .ya)),(2,(.val .ya)),(31,(.val .ya))],[.cell (.val .yg)]⟩
def G13_7 (N:Nat):(R:Type)->F13_7.den->(AExit->St->Option R)->Option R:=fun R d k=>iter (fun kb=>zgx N d.1.2.1 d.1.2.2.1 d.1.2.2.2.2.1 d.1.2.2.2.2.2.1 d.1.2.2.2.2.2.2.1 d.2.1 kb
  (fun y0=>k .ret (St.of [(10,(.data .ya y0))] []))
  (fun _=>k (.exit 0) (St.of [(1,(.data .yc d.1.2.2.1)),(5,(.bptr 0 [])),(4,(.data .ya d.1.2.2.2.2.1)),(2,(.data .ya d.1.2.2.2.2.2.1)),(3,(.data .ym d.1.2.1))] [.cell (.data .yg d.2.1)]))) N d.1.1
def F13_14:SForm:=⟨[(54,(.val .ya)),(13,(.mref 0)),(1,(.val .yc)),(5,(.bptr 1 [])),(52,(.val .ym)),(4,(.val .ya)),(2,(.val .ya)),(3,(.val .ym)),(53,(.val .ya))],[.map .ye .ya,.cell (.val .yg)]⟩
def G13_14 (N:Nat):(R:Type)->F13_14.den->(AExit->St->Option R)->Option R:=fun R d k=>iter (fun kb=>zgz N d.1.2.2.1 d.1.2.2.2.2.1 d.1.2.2.2.2.2.1 d.1.2.2.2.2.2.2.1 d.1.2.2.2.2.2.2.2.1 d.1.2.2.2.2.2.2.2.2.1 d.2.2.1 kb
  (fun y0=>k .ret (St.of [(10,(.data .ya y0))] []))
  (fun y3=>k (.exit 2) (St.of [(13,(.mref 0)),(5,(.bptr 1 [])),(4,(.data .ya d.1.2.2.2.2.2.1)),(2,(.data .ya d.1.2.2.2.2.2.2.1)),(3,(.data .ym d.1.2.2.2.2.2.2.2.1))] [.map .ye .ya y3,.cell (.data .yg d.2.2.1)]))) N (d.1.1,d.2.1)
def F13_21:SForm:=⟨[(98,(.val .ya)),(13,(.mref 0)),(5,(.bptr 1 [])),(96,(.val .ym)),(4,(.val .ya)),(2,(.val .ya)),(97,(.val .ya))],[.map .ye .ya,.cell (.val .yg)]⟩
def G13_21 (N:Nat):(R:Type)->F13_21.den->(AExit->St->Option R)->Option R:=fun R d k=>iter (fun kb=>zgy N d.1.2.2.2.1 d.1.2.2.2.2.1 d.1.2.2.2.2.2.1 d.1.2.2.2.2.2.2.1 d.2.2.1 kb
  (fun y0=>k .ret (St.of [(10,(.data .ya y0))] []))
  (fun y3=>k (.exit 4) (St.of [(4,(.data .ya d.1.2.2.2.2.1)),(2,(.data .ya d.1.2.2.2.2.2.1)),(5,(.bptr 0 [])),(13,(.mref 1))] [.cell (.data .yg d.2.2.1),.map .ye .ya y3]))) N (d.1.1,d.2.1)
def lp13 (N:Nat):Nat->Option z0m:=fun r=>cond (Nat.beq r 7) (some fun R sl os k=>F13_7.take sl os fun d=>G13_7 N R d k) (cond (Nat.beq r 14) (some fun R sl os k=>F13_14.take sl os fun d=>G13_14 N R d k) (cond (Nat.beq r 21) (some fun R sl os k=>F13_21.take sl os fun d=>G13_21 N R d k) (none)))
def x13 (N:Nat):Ctx:=(mkX N 129 [(33,[c33 N]),(34,[c34 N]),(35,[c35 N]),(36,[c36 N]),(37,[c37 N])] [(7,⟨[32,3,1,5,4,2,31],[]⟩),(14,⟨[54,13,1,5,52,4,2,3,53],[]⟩),(21,⟨[98,13,5,96,4,2,97],[]⟩)] [(7,[(0,⟨[1,5,4,2,3],[]⟩)]),(14,[(2,⟨[13,5,4,2,3],[]⟩)]),(21,[(4,⟨[4,2,5,13],[]⟩)])] ⟨[10],[]⟩ (fun _=>none) (lp13 N))
noncomputable def b13:Code:=((Go.Proofs.Try.f13).body).getD .skip
theorem s13_7 (N:Nat) {R:Type} (k:AExit->St->Option R) (t3:List Yr) (t1:List Ya) (t4:Int) (t2:Int) (t31:Int) (o0:Ye) (kb:List Yp->List Obj->Option R) (x:Int):z0z (x13 N) (z04 7 (z00 b13)) (St.of [(32,(.data .ya x)),(3,(.data .ym t3)),(1,(.data .yc t1)),(5,(.bptr 0 [])),(4,(.data .ya t4)),(2,(.data .ya t2)),(31,(.data .ya t31))] [.cell (.data .yg o0)]) (z1q (x13 N) 7 ⟨[32,3,1,5,4,2,31],[]⟩ kb k)=zgx N t3 t1 t4 t2 t31 o0 (fun y=>kb [(32,(.data .ya y)),(3,(.data .ym t3)),(1,(.data .yc t1)),(5,(.bptr 0 [])),(4,(.data .ya t4)),(2,(.data .ya t2)),(31,(.data .ya t31))] [.cell (.data .yg o0)])
  (fun y0=>k .ret (St.of [(10,(.data .ya y0))] []))
  (fun _=>k (.exit 0) (St.of [(1,(.data .yc t1)),(5,(.bptr 0 [])),(4,(.data .ya t4)),(2,(.data .ya t2)),(3,(.data .ym t3))] [.cell (.data .yg o0)])) x:=by kernel_rfl
theorem l13_7 (N:Nat):z0r (x13 N) (z04 7 (z00 b13)):=
 z0i (G13_7 N) (by kernel_rfl) (by kernel_rfl) (by kernel_rfl) fun R k d=>
  z0g (st:=fun (x:Int)=>([(32,(.data .ya x)),(3,(.data .ym d.1.2.1)),(1,(.data .yc d.1.2.2.1)),(5,(.bptr 0 [])),(4,(.data .ya d.1.2.2.2.2.1)),(2,(.data .ya d.1.2.2.2.2.2.1)),(31,(.data .ya d.1.2.2.2.2.2.2.1))],[.cell (.data .yg d.2.1)])) (s13_7 N k d.1.2.1 d.1.2.2.1 d.1.2.2.2.2.1 d.1.2.2.2.2.2.1 d.1.2.2.2.2.2.2.1 d.2.1) N d.1.1
theorem s13_14 (N:Nat) {R:Type} (k:AExit->St->Option R) (t1_1:List Ya) (t52:List Yr) (t4_1:Int) (t2_1:Int) (t3_1:List Yr) (t53:Int) (o1:Ye) (kb:List Yp->List Obj->Option R) (x:Int×Yg):z0z (x13 N) (z04 14 (z00 b13)) (St.of [(54,(.data .ya x.1)),(13,(.mref 0)),(1,(.data .yc t1_1)),(5,(.bptr 1 [])),(52,(.data .ym t52)),(4,(.data .ya t4_1)),(2,(.data .ya t2_1)),(3,(.data .ym t3_1)),(53,(.data .ya t53))] [.map .ye .ya x.2,.cell (.data .yg o1)]) (z1q (x13 N) 14 ⟨[54,13,1,5,52,4,2,3,53],[]⟩ kb k)=zgz N t1_1 t52 t4_1 t2_1 t3_1 t53 o1 (fun y=>kb [(54,(.data .ya y.1)),(13,(.mref 0)),(1,(.data .yc t1_1)),(5,(.bptr 1 [])),(52,(.data .ym t52)),(4,(.data .ya t4_1)),(2,(.data .ya t2_1)),(3,(.data .ym t3_1)),(53,(.data .ya t53))] [.map .ye .ya y.2,.cell (.data .yg o1)])
  (fun y0=>k .ret (St.of [(10,(.data .ya y0))] []))
  (fun y3=>k (.exit 2) (St.of [(13,(.mref 0)),(5,(.bptr 1 [])),(4,(.data .ya t4_1)),(2,(.data .ya t2_1)),(3,(.data .ym t3_1))] [.map .ye .ya y3,.cell (.data .yg o1)])) x:=by kernel_rfl
theorem l13_14 (N:Nat):z0r (x13 N) (z04 14 (z00 b13)):=
 z0i (G13_14 N) (by kernel_rfl) (by kernel_rfl) (by kernel_rfl) fun R k d=>
  z0g (st:=fun (x:Int×Yg)=>([(54,(.data .ya x.1)),(13,(.mref 0)),(1,(.data .yc d.1.2.2.1)),(5,(.bptr 1 [])),(52,(.data .ym d.1.2.2.2.2.1)),(4,(.data .ya d.1.2.2.2.2.2.1)),(2,(.data .ya d.1.2.2.2.2.2.2.1)),(3,(.data .ym d.1.2.2.2.2.2.2.2.1)),(53,(.data .ya d.1.2.2.2.2.2.2.2.2.1))],[.map .ye .ya x.2,.cell (.data .yg d.2.2.1)])) (s13_14 N k d.1.2.2.1 d.1.2.2.2.2.1 d.1.2.2.2.2.2.1 d.1.2.2.2.2.2.2.1 d.1.2.2.2.2.2.2.2.1 d.1.2.2.2.2.2.2.2.2.1 d.2.2.1) N (d.1.1,d.2.1)
theorem s13_21 (N:Nat) {R:Type} (k:AExit->St->Option R) (t96:List Yr) (t4_2:Int) (t2_2:Int) (t97:Int) (o1_1:Ye) (kb:List Yp->List Obj->Option R) (x:Int×Yg):z0z (x13 N) (z04 21 (z00 b13)) (St.of [(98,(.data .ya x.1)),(13,(.mref 0)),(5,(.bptr 1 [])),(96,(.data .ym t96)),(4,(.data .ya t4_2)),(2,(.data .ya t2_2)),(97,(.data .ya t97))] [.map .ye .ya x.2,.cell (.data .yg o1_1)]) (z1q (x13 N) 21 ⟨[98,13,5,96,4,2,97],[]⟩ kb k)=zgy N t96 t4_2 t2_2 t97 o1_1 (fun y=>kb [(98,(.data .ya y.1)),(13,(.mref 0)),(5,(.bptr 1 [])),(96,(.data .ym t96)),(4,(.data .ya t4_2)),(2,(.data .ya t2_2)),(97,(.data .ya t97))] [.map .ye .ya y.2,.cell (.data .yg o1_1)])
  (fun y0=>k .ret (St.of [(10,(.data .ya y0))] []))
  (fun y3=>k (.exit 4) (St.of [(4,(.data .ya t4_2)),(2,(.data .ya t2_2)),(5,(.bptr 0 [])),(13,(.mref 1))] [.cell (.data .yg o1_1),.map .ye .ya y3])) x:=by kernel_rfl
theorem l13_21 (N:Nat):z0r (x13 N) (z04 21 (z00 b13)):=
 z0i (G13_21 N) (by kernel_rfl) (by kernel_rfl) (by kernel_rfl) fun R k d=>
  z0g (st:=fun (x:Int×Yg)=>([(98,(.data .ya x.1)),(13,(.mref 0)),(5,(.bptr 1 [])),(96,(.data .ym d.1.2.2.2.1)),(4,(.data .ya d.1.2.2.2.2.1)),(2,(.data .ya d.1.2.2.2.2.2.1)),(97,(.data .ya d.1.2.2.2.2.2.2.1))],[.map .ye .ya x.2,.cell (.data .yg d.2.2.1)])) (s13_21 N k d.1.2.2.2.1 d.1.2.2.2.2.1 d.1.2.2.2.2.2.1 d.1.2.2.2.2.2.2.1 d.2.2.1) N (d.1.1,d.2.1)
theorem e13 (N:Nat) (a0:Ye) (a1:List Ya) (a2:Int) (a3:List Yr) (a4:Int):z1y (x13 N) [.ya] [.tmp 10] b13 (entry (.pr (.val .yg) (.pr (.val .yc) (.pr (.val .ya) (.pr (.val .ym) (.pr (.val .ya) .un))))) (a0,(a1,(a2,(a3,(a4,()))))))=f13 N a0 a1 a2 a3 a4:=by kernel_rfl
theorem k13 (N:Nat):z03 Go.Proofs.Try.prog 13 (c13 N):=
 z23 (fn:=Go.Proofs.Try.f13) (body:=b13) (c:=x13 N) Go.Proofs.Try.func13 (by kernel_rfl) (by kernel_rfl) ⟨ttL_ok,z0n,z0p,z0q,z0o,z02 (z01 (k33 N)) (z02 (z01 (k34 N)) (z02 (z01 (k35 N)) (z02 (z01 (k36 N)) (z02 (z01 (k37 N)) (z0e)))))⟩ mixed (by kernel_rfl) (zL (by kernel_rfl)) (by kernel_rfl) (by decide)
  (z0b (by kernel_rfl:z00 b13=[z04 7 (z00 b13),z04 14 (z00 b13),z04 21 (z00 b13)]) (.cons (l13_7 N) (.cons (l13_14 N) (.cons (l13_21 N) .nil)))) fun d=>e13 N d.1 d.2.1 d.2.2.1 d.2.2.2.1 d.2.2.2.2.1
def f11 (N:Nat):Option (Bool):=
 (f31 N).bind fun r=>
 (f32 N 4).bind fun r_1=>
 (f20 N (r.1,r.2) r_1 2).bind fun r_2=>
 (f31 N).bind fun r_3=>
 (f32 N 4).bind fun r_4=>
 (f19 N (r_3.1,r_3.2) r_4 1).bind fun r_5=>
 (cond (decide (r_2.2.2.2=0))
   (some (decide (r_5.2.2=0)))
   (some false)).bind fun b=>
 (cond b
   (some (decide (r_2.1=4)))
   (some false)).bind fun b_1=>
 (cond b_1
   ((f23 N r_2.2.1 ((0,((1 :: (2 :: ([]:List Int))),())) :: ((1,(((-1) :: ((-1) :: ([]:List Int))),())) :: ((1,(((-1) :: ((-1) :: ([]:List Int))),())) :: ([]:List Yk))))).bind fun r_6=>
   some r_6)
   (some false)).bind fun b_2=>
 (cond b_2
   (some (decide (r_5.1=3)))
   (some false)).bind fun b_3=>
 (cond b_3
   ((f27 N r_5.2.1 (2 :: ([]:List Int))).bind fun r_7=>
   some r_7)
   (some false)).bind fun b_4=>
 (cond b_4
   ((f31 N).bind fun r_8=>
   (f32 N 4).bind fun r_9=>
   (f13 N (r_8.1,r_8.2) r_9 0 ((15,(0,(1,()))) :: ([]:List Yr)) 1).bind fun r_10=>
   some (decide (r_10=0)))
   (some false)).bind fun b_5=>
 some b_5
def c11 (N:Nat):Callee:=.pure .un [.bool] fun d=>f11 N
def lp11 (N:Nat):Nat->Option z0m:=fun r=>none
def x11 (N:Nat):Ctx:=(mkX N 61 [(31,[c31 N]),(32,[c32 N]),(20,[c20 N]),(19,[c19 N]),(23,[c23 N]),(27,[c27 N]),(13,[c13 N])] [] [] ⟨[0],[]⟩ (z1v [(35,.yb),(37,.yb),(39,.yb),(41,.yp),(50,.yb),(57,.ym)]) (lp11 N))
noncomputable def b11:Code:=((Go.Proofs.Try.f11).body).getD .skip
theorem e11 (N:Nat):z1y (x11 N) [.bool] [.tmp 0] b11 (entry .un ())=f11 N:=by kernel_rfl
theorem k11 (N:Nat):z03 Go.Proofs.Try.prog 11 (c11 N):=
 z23 (fn:=Go.Proofs.Try.f11) (body:=b11) (c:=x11 N) Go.Proofs.Try.func11 (by kernel_rfl) (by kernel_rfl) ⟨ttL_ok,z0n,z0p,z0q,z0o,z02 (z01 (k31 N)) (z02 (z01 (k32 N)) (z02 (z01 (k20 N)) (z02 (z01 (k19 N)) (z02 (z01 (k23 N)) (z02 (z01 (k27 N)) (z02 (z01 (k13 N)) (z0e)))))))⟩ mixed (by kernel_rfl) (zL (by kernel_rfl)) (by kernel_rfl) (by decide)
  (z0b (by kernel_rfl:z00 b11=[]) .nil) fun d=>e11 N
def zom {R:Type} (N:Nat) (t2:Int) (t30:List Ya) (t1:List Ya) (t31:Int) (kb:Int->Option R) (kret:Bool->Option R) (kx0:Unit->Option R):Int->Option R:=
 fun t32=>
  cond (decide (t32 < t31))
   ((idx t30 t32).bind fun x=>
   cond (decide ((z0l (t2+2)) < (len x)))
    (kret false)
    (kb (z0l (t32+1))))
   (kx0 ())
def zh0 {R:Type} (N:Nat) (t2_1:Int) (t42:List Ya) (t43:Int) (kb:Int->Option R) (kret:Bool->Option R) (kx2:Unit->Option R):Int->Option R:=
 fun t44=>
  cond (decide (t44 < t43))
   ((idx t42 t44).bind fun x_1=>
   cond (decide ((z0l (t2_1+2)) < (len x_1)))
    (kret false)
    (kb (z0l (t44+1))))
   (kx2 ())
def f12 (N:Nat) (a0:Ye) (a1:List Ya) (a2:Int) (a3:Int):Option (Bool):=
 (cond (decide (a2 < a0.1))
   (some true)
   (some (decide (a3 < (len a0.2.1))))).bind fun b=>
 (cond b
   (some true)
   (some (decide (12 < (len a1))))).bind fun b_1=>
 cond b_1
  (some false)
  (iter (fun w=>zom N a2 a0.2.1 a1 (len a0.2.1) w
   (fun t8=>
    some t8)
   (fun (_:Unit)=>
    iter (fun w=>zh0 N a2 a1 (len a1) w
     (fun t8_1=>
      some t8_1)
     (fun (_:Unit)=>
      some true)) N 0)) N 0)
def c12 (N:Nat):Callee:=.pure (.pr (.val .yg) (.pr (.val .yc) (.pr (.val .ya) (.pr (.val .ya) .un)))) [.bool] fun d=>f12 N d.1 d.2.1 d.2.2.1 d.2.2.2.1
def F12_4:SForm:=⟨[(32,(.val .ya)),(2,(.val .ya)),(30,(.val .yc)),(1,(.val .yc)),(31,(.val .ya))],[]⟩
def G12_4 (N:Nat):(R:Type)->F12_4.den->(AExit->St->Option R)->Option R:=fun R d k=>iter (fun kb=>zom N d.1.2.1 d.1.2.2.1 d.1.2.2.2.1 d.1.2.2.2.2.1 kb
  (fun y0=>k .ret (St.of [(8,(.data .bool y0))] []))
  (fun _=>k (.exit 0) (St.of [(2,(.data .ya d.1.2.1)),(1,(.data .yc d.1.2.2.2.1))] []))) N d.1.1
def F12_10:SForm:=⟨[(44,(.val .ya)),(2,(.val .ya)),(42,(.val .yc)),(43,(.val .ya))],[]⟩
def G12_10 (N:Nat):(R:Type)->F12_10.den->(AExit->St->Option R)->Option R:=fun R d k=>iter (fun kb=>zh0 N d.1.2.1 d.1.2.2.1 d.1.2.2.2.1 kb
  (fun y0=>k .ret (St.of [(8,(.data .bool y0))] []))
  (fun _=>k (.exit 2) (St.of [] []))) N d.1.1
def lp12 (N:Nat):Nat->Option z0m:=fun r=>cond (Nat.beq r 4) (some fun R sl os k=>F12_4.take sl os fun d=>G12_4 N R d k) (cond (Nat.beq r 10) (some fun R sl os k=>F12_10.take sl os fun d=>G12_10 N R d k) (none))
def x12 (N:Nat):Ctx:=(mkX N 54 [] [(4,⟨[32,2,30,1,31],[]⟩),(10,⟨[44,2,42,43],[]⟩)] [(4,[(0,⟨[2,1],[]⟩)]),(10,[(2,⟨[],[]⟩)])] ⟨[8],[]⟩ (fun _=>none) (lp12 N))
noncomputable def b12:Code:=((Go.Proofs.Try.f12).body).getD .skip
theorem s12_4 (N:Nat) {R:Type} (k:AExit->St->Option R) (t2:Int) (t30:List Ya) (t1:List Ya) (t31:Int) (kb:List Yp->List Obj->Option R) (x:Int):z0z (x12 N) (z04 4 (z00 b12)) (St.of [(32,(.data .ya x)),(2,(.data .ya t2)),(30,(.data .yc t30)),(1,(.data .yc t1)),(31,(.data .ya t31))] []) (z1q (x12 N) 4 ⟨[32,2,30,1,31],[]⟩ kb k)=zom N t2 t30 t1 t31 (fun y=>kb [(32,(.data .ya y)),(2,(.data .ya t2)),(30,(.data .yc t30)),(1,(.data .yc t1)),(31,(.data .ya t31))] [])
  (fun y0=>k .ret (St.of [(8,(.data .bool y0))] []))
  (fun _=>k (.exit 0) (St.of [(2,(.data .ya t2)),(1,(.data .yc t1))] [])) x:=by kernel_rfl
theorem l12_4 (N:Nat):z0r (x12 N) (z04 4 (z00 b12)):=
 z0i (G12_4 N) (by kernel_rfl) (by kernel_rfl) (by kernel_rfl) fun R k d=>
  z0g (st:=fun (x:Int)=>([(32,(.data .ya x)),(2,(.data .ya d.1.2.1)),(30,(.data .yc d.1.2.2.1)),(1,(.data .yc d.1.2.2.2.1)),(31,(.data .ya d.1.2.2.2.2.1))],[])) (s12_4 N k d.1.2.1 d.1.2.2.1 d.1.2.2.2.1 d.1.2.2.2.2.1) N d.1.1
theorem s12_10 (N:Nat) {R:Type} (k:AExit->St->Option R) (t2_1:Int) (t42:List Ya) (t43:Int) (kb:List Yp->List Obj->Option R) (x:Int):z0z (x12 N) (z04 10 (z00 b12)) (St.of [(44,(.data .ya x)),(2,(.data .ya t2_1)),(42,(.data .yc t42)),(43,(.data .ya t43))] []) (z1q (x12 N) 10 ⟨[44,2,42,43],[]⟩ kb k)=zh0 N t2_1 t42 t43 (fun y=>kb [(44,(.data .ya y)),(2,(.data .ya t2_1)),(42,(.data .yc t42)),(43,(.data .ya t43))] [])
  (fun y0=>k .ret (St.of [(8,(.data .bool y0))] []))
  (fun _=>k (.exit 2) (St.of [] [])) x:=by kernel_rfl
theorem l12_10 (N:Nat):z0r (x12 N) (z04 10 (z00 b12)):=
 z0i (G12_10 N) (by kernel_rfl) (by kernel_rfl) (by kernel_rfl) fun R k d=>
  z0g (st:=fun (x:Int)=>([(44,(.data .ya x)),(2,(.data .ya d.1.2.1)),(42,(.data .yc d.1.2.2.1)),(43,(.data .ya d.1.2.2.2.1))],[])) (s12_10 N k d.1.2.1 d.1.2.2.1 d.1.2.2.2.1) N d.1.1
theorem e12 (N:Nat) (a0:Ye) (a1:List Ya) (a2:Int) (a3:Int):z1y (x12 N) [.bool] [.tmp 8] b12 (entry (.pr (.val .yg) (.pr (.val .yc) (.pr (.val .ya) (.pr (.val .ya) .un)))) (a0,(a1,(a2,(a3,())))))=f12 N a0 a1 a2 a3:=by kernel_rfl
theorem k12 (N:Nat):z03 Go.Proofs.Try.prog 12 (c12 N):=
 z23 (fn:=Go.Proofs.Try.f12) (body:=b12) (c:=x12 N) Go.Proofs.Try.func12 (by kernel_rfl) (by kernel_rfl) ⟨ttL_ok,z0n,z0p,z0q,z0o,z0e⟩ mixed (by kernel_rfl) (zL (by kernel_rfl)) (by kernel_rfl) (by decide)
  (z0b (by kernel_rfl:z00 b12=[z04 4 (z00 b12),z04 10 (z00 b12)]) (.cons (l12_4 N) (.cons (l12_10 N) .nil))) fun d=>e12 N d.1 d.2.1 d.2.2.1 d.2.2.2.1
def zst {R:Type} (N:Nat) (t0:List Int) (kb:Int×Int->Option R) (kret:Bool->Option R) (kx0:Unit->Option R):Int×Int->Option R:=
 fun (t4,t3)=>
  cond (decide (t4 < (len t0)))
   ((idx t0 t4).bind fun x=>
   (cond (decide (x < 0))
     (some true)
     ((idx t0 t4).bind fun x_1=>
     some (decide (t3 < x_1)))).bind fun b=>
   cond b
    (kret false)
    ((idx t0 t4).bind fun x_2=>
    cond (decide (x_2=t3))
     (kb ((z0l (t4+1)),(z0l (t3+1))))
     (kb ((z0l (t4+1)),t3))))
   (kx0 ())
def f67 (N:Nat) (a0:List Int):Option (Bool):=
 iter (fun w=>zst N a0 w
  (fun t2=>
   some t2)
  (fun (_:Unit)=>
   some true)) N (0,0)
def c67 (N:Nat):Callee:=.pure (.pr (.val .yb) .un) [.bool] fun d=>f67 N d.1
def F67_3:SForm:=⟨[(4,(.val .ya)),(3,(.val .ya)),(0,(.val .yb))],[]⟩
def G67_3 (N:Nat):(R:Type)->F67_3.den->(AExit->St->Option R)->Option R:=fun R d k=>iter (fun kb=>zst N d.1.2.2.1 kb
  (fun y0=>k .ret (St.of [(2,(.data .bool y0))] []))
  (fun _=>k (.exit 0) (St.of [] []))) N (d.1.1,d.1.2.1)
def lp67 (N:Nat):Nat->Option z0m:=fun r=>cond (Nat.beq r 3) (some fun R sl os k=>F67_3.take sl os fun d=>G67_3 N R d k) (none)
def x67 (N:Nat):Ctx:=(mkX N 32 [] [(3,⟨[4,3,0],[]⟩)] [(3,[(0,⟨[],[]⟩)])] ⟨[2],[]⟩ (fun _=>none) (lp67 N))
noncomputable def b67:Code:=((Go.Proofs.Try.f67).body).getD .skip
theorem s67_3 (N:Nat) {R:Type} (k:AExit->St->Option R) (t0:List Int) (kb:List Yp->List Obj->Option R) (x:Int×Int):z0z (x67 N) (z04 3 (z00 b67)) (St.of [(4,(.data .ya x.1)),(3,(.data .ya x.2)),(0,(.data .yb t0))] []) (z1q (x67 N) 3 ⟨[4,3,0],[]⟩ kb k)=zst N t0 (fun y=>kb [(4,(.data .ya y.1)),(3,(.data .ya y.2)),(0,(.data .yb t0))] [])
  (fun y0=>k .ret (St.of [(2,(.data .bool y0))] []))
  (fun _=>k (.exit 0) (St.of [] [])) x:=by kernel_rfl
theorem l67_3 (N:Nat):z0r (x67 N) (z04 3 (z00 b67)):=
 z0i (G67_3 N) (by kernel_rfl) (by kernel_rfl) (by kernel_rfl) fun R k d=>
  z0g (st:=fun (x:Int×Int)=>([(4,(.data .ya x.1)),(3,(.data .ya x.2)),(0,(.data .yb d.1.2.2.1))],[])) (s67_3 N k d.1.2.2.1) N (d.1.1,d.1.2.1)
theorem e67 (N:Nat) (a0:List Int):z1y (x67 N) [.bool] [.tmp 2] b67 (entry (.pr (.val .yb) .un) (a0,()))=f67 N a0:=by kernel_rfl
theorem k67 (N:Nat):z03 Go.Proofs.Try.prog 67 (c67 N):=
 z23 (fn:=Go.Proofs.Try.f67) (body:=b67) (c:=x67 N) Go.Proofs.Try.func67 (by kernel_rfl) (by kernel_rfl) ⟨ttL_ok,z0n,z0p,z0q,z0o,z0e⟩ mixed (by kernel_rfl) (zL (by kernel_rfl)) (by kernel_rfl) (by decide)
  (z0b (by kernel_rfl:z00 b67=[z04 3 (z00 b67)]) (.cons (l67_3 N) .nil)) fun d=>e67 N d.1
def zoi {R:Type} (N:Nat) (t20:List Ya) (t21:Int) (o0:Ye) (kb:Int->Option R) (kret:Bool->Option R) (kx0:Unit->Option R):Int->Option R:=
 fun t22=>
  cond (decide (t22 < t21))
   ((idx t20 t22).bind fun x=>
   (cond (!(decide ((len x)=o0.1)))
     (some true)
     ((f67 N x).bind fun r=>
     some (!r))).bind fun b_2=>
   cond b_2
    (kret false)
    (kb (z0l (t22+1))))
   (kx0 ())
def f28 (N:Nat) (a0:Ye):Option (Bool):=
 (cond (decide (a0.1 < 1))
   (some true)
   (some (decide (62 < a0.1)))).bind fun b=>
 (cond b
   (some true)
   (some (decide (8 < (len a0.2.1))))).bind fun b_1=>
 cond b_1
  (some false)
  (iter (fun w=>zoi N a0.2.1 (len a0.2.1) a0 w
   (fun t2=>
    some t2)
   (fun (_:Unit)=>
    some true)) N 0)
def c28 (N:Nat):Callee:=.pure (.pr (.val .yg) .un) [.bool] fun d=>f28 N d.1
def F28_4:SForm:=⟨[(22,(.val .ya)),(1,(.bptr 0 [])),(20,(.val .yc)),(21,(.val .ya))],[.cell (.val .yg)]⟩
def G28_4 (N:Nat):(R:Type)->F28_4.den->(AExit->St->Option R)->Option R:=fun R d k=>iter (fun kb=>zoi N d.1.2.2.1 d.1.2.2.2.1 d.2.1 kb
  (fun y0=>k .ret (St.of [(2,(.data .bool y0))] []))
  (fun _=>k (.exit 0) (St.of [] []))) N d.1.1
def lp28 (N:Nat):Nat->Option z0m:=fun r=>cond (Nat.beq r 4) (some fun R sl os k=>F28_4.take sl os fun d=>G28_4 N R d k) (none)
def x28 (N:Nat):Ctx:=(mkX N 37 [(67,[c67 N])] [(4,⟨[22,1,20,21],[]⟩)] [(4,[(0,⟨[],[]⟩)])] ⟨[2],[]⟩ (fun _=>none) (lp28 N))
noncomputable def b28:Code:=((Go.Proofs.Try.f28).body).getD .skip
theorem s28_4 (N:Nat) {R:Type} (k:AExit->St->Option R) (t20:List Ya) (t21:Int) (o0:Ye) (kb:List Yp->List Obj->Option R) (x:Int):z0z (x28 N) (z04 4 (z00 b28)) (St.of [(22,(.data .ya x)),(1,(.bptr 0 [])),(20,(.data .yc t20)),(21,(.data .ya t21))] [.cell (.data .yg o0)]) (z1q (x28 N) 4 ⟨[22,1,20,21],[]⟩ kb k)=zoi N t20 t21 o0 (fun y=>kb [(22,(.data .ya y)),(1,(.bptr 0 [])),(20,(.data .yc t20)),(21,(.data .ya t21))] [.cell (.data .yg o0)])
  (fun y0=>k .ret (St.of [(2,(.data .bool y0))] []))
  (fun _=>k (.exit 0) (St.of [] [])) x:=by kernel_rfl
theorem l28_4 (N:Nat):z0r (x28 N) (z04 4 (z00 b28)):=
 z0i (G28_4 N) (by kernel_rfl) (by kernel_rfl) (by kernel_rfl) fun R k d=>
  z0g (st:=fun (x:Int)=>([(22,(.data .ya x)),(1,(.bptr 0 [])),(20,(.data .yc d.1.2.2.1)),(21,(.data .ya d.1.2.2.2.1))],[.cell (.data .yg d.2.1)])) (s28_4 N k d.1.2.2.1 d.1.2.2.2.1 d.2.1) N d.1.1
theorem e28 (N:Nat) (a0:Ye):z1y (x28 N) [.bool] [.tmp 2] b28 (entry (.pr (.val .yg) .un) (a0,()))=f28 N a0:=by kernel_rfl
theorem k28 (N:Nat):z03 Go.Proofs.Try.prog 28 (c28 N):=
 z23 (fn:=Go.Proofs.Try.f28) (body:=b28) (c:=x28 N) Go.Proofs.Try.func28 (by kernel_rfl) (by kernel_rfl) ⟨ttL_ok,z0n,z0p,z0q,z0o,z02 (z01 (k67 N)) (z0e)⟩ mixed (by kernel_rfl) (zL (by kernel_rfl)) (by kernel_rfl) (by decide)
  (z0b (by kernel_rfl:z00 b28=[z04 4 (z00 b28)]) (.cons (l28_4 N) .nil)) fun d=>e28 N d.1
def zoa {R:Type} (N:Nat) (t28:List Int) (t17_1:List Ya) (t18_1:Int) (t19_1:Int) (t29:Int) (o0_1:Ye) (kb:Int->Option R) (kret:Bool->Option R) (kx2:Unit->Option R):Int->Option R:=
 fun t30=>
  cond (decide (t30 < t29))
   ((idx t28 t30).bind fun x_1=>
   (cond (decide (x_1 < 0))
     (some true)
     (some (decide (1024 < x_1)))).bind fun b_1=>
   cond b_1
    (kret false)
    (kb (z0l (t30+1))))
   (kx2 ())
def zob {R:Type} (N:Nat) (t17:List Ya) (t18:Int) (o0:Ye) (kb:Int->Option R) (kret:Bool->Option R) (kx0:Unit->Option R):Int->Option R:=
 fun t19=>
  cond (decide (t19 < t18))
   ((idx t17 t19).bind fun x=>
   cond (!(decide ((len x)=o0.1)))
    (kret false)
    (iter (fun w=>zoa N x t17 t18 t19 (len x) o0 w
     (fun t4=>
      kret t4)
     (fun (_:Unit)=>
      kb (z0l (t19+1)))) N 0))
   (kx0 ())
def f43 (N:Nat) (a0:Ye) (a1:List Ya):Option (Bool):=
 (cond (decide ((len a1) < 1))
   (some true)
   (some (decide (64 < (len a1))))).bind fun b=>
 cond b
  (some false)
  (iter (fun w=>zob N a1 (len a1) a0 w
   (fun t4_1=>
    some t4_1)
   (fun (_:Unit)=>
    some true)) N 0)
def c43 (N:Nat):Callee:=.pure (.pr (.val .yg) (.pr (.val .yc) .un)) [.bool] fun d=>f43 N d.1 d.2.1
def F43_9:SForm:=⟨[(30,(.val .ya)),(28,(.val .yb)),(2,(.bptr 0 [])),(17,(.val .yc)),(18,(.val .ya)),(19,(.val .ya)),(29,(.val .ya))],[.cell (.val .yg)]⟩
def G43_9 (N:Nat):(R:Type)->F43_9.den->(AExit->St->Option R)->Option R:=fun R d k=>iter (fun kb=>zoa N d.1.2.1 d.1.2.2.2.1 d.1.2.2.2.2.1 d.1.2.2.2.2.2.1 d.1.2.2.2.2.2.2.1 d.2.1 kb
  (fun y0=>k .ret (St.of [(4,(.data .bool y0))] []))
  (fun _=>k (.exit 2) (St.of [(2,(.bptr 0 [])),(17,(.data .yc d.1.2.2.2.1)),(18,(.data .ya d.1.2.2.2.2.1)),(19,(.data .ya d.1.2.2.2.2.2.1))] [.cell (.data .yg d.2.1)]))) N d.1.1
def F43_4:SForm:=⟨[(19,(.val .ya)),(2,(.bptr 0 [])),(17,(.val .yc)),(18,(.val .ya))],[.cell (.val .yg)]⟩
def G43_4 (N:Nat):(R:Type)->F43_4.den->(AExit->St->Option R)->Option R:=fun R d k=>iter (fun kb=>zob N d.1.2.2.1 d.1.2.2.2.1 d.2.1 kb
  (fun y0=>k .ret (St.of [(4,(.data .bool y0))] []))
  (fun _=>k (.exit 0) (St.of [] []))) N d.1.1
def lp43 (N:Nat):Nat->Option z0m:=fun r=>cond (Nat.beq r 9) (some fun R sl os k=>F43_9.take sl os fun d=>G43_9 N R d k) (cond (Nat.beq r 4) (some fun R sl os k=>F43_4.take sl os fun d=>G43_4 N R d k) (none))
def x43 (N:Nat):Ctx:=(mkX N 42 [] [(4,⟨[19,2,17,18],[]⟩),(9,⟨[30,28,2,17,18,19,29],[]⟩)] [(4,[(0,⟨[],[]⟩)]),(9,[(2,⟨[2,17,18,19],[]⟩)])] ⟨[4],[]⟩ (fun _=>none) (lp43 N))
noncomputable def b43:Code:=((Go.Proofs.Try.f43).body).getD .skip
theorem s43_9 (N:Nat) {R:Type} (k:AExit->St->Option R) (t28:List Int) (t17_1:List Ya) (t18_1:Int) (t19_1:Int) (t29:Int) (o0_1:Ye) (kb:List Yp->List Obj->Option R) (x:Int):z0z (x43 N) (z04 9 (z00 b43)) (St.of [(30,(.data .ya x)),(28,(.data .yb t28)),(2,(.bptr 0 [])),(17,(.data .yc t17_1)),(18,(.data .ya t18_1)),(19,(.data .ya t19_1)),(29,(.data .ya t29))] [.cell (.data .yg o0_1)]) (z1q (x43 N) 9 ⟨[30,28,2,17,18,19,29],[]⟩ kb k)=zoa N t28 t17_1 t18_1 t19_1 t29 o0_1 (fun y=>kb [(30,(.data .ya y)),(28,(.data .yb t28)),(2,(.bptr 0 [])),(17,(.data .yc t17_1)),(18,(.data .ya t18_1)),(19,(.data .ya t19_1)),(29,(.data .ya t29))] [.cell (.data .yg o0_1)])
  (fun y0=>k .ret (St.of [(4,(.data .bool y0))] []))
  (fun _=>k (.exit 2) (St.of [(2,(.bptr 0 [])),(17,(.data .yc t17_1)),(18,(.data .ya t18_1)),(19,(.data .ya t19_1))] [.cell (.data .yg o0_1)])) x:=by kernel_rfl
theorem l43_9 (N:Nat):z0r (x43 N) (z04 9 (z00 b43)):=
 z0i (G43_9 N) (by kernel_rfl) (by kernel_rfl) (by kernel_rfl) fun R k d=>
  z0g (st:=fun (x:Int)=>([(30,(.data .ya x)),(28,(.data .yb d.1.2.1)),(2,(.bptr 0 [])),(17,(.data .yc d.1.2.2.2.1)),(18,(.data .ya d.1.2.2.2.2.1)),(19,(.data .ya d.1.2.2.2.2.2.1)),(29,(.data .ya d.1.2.2.2.2.2.2.1))],[.cell (.data .yg d.2.1)])) (s43_9 N k d.1.2.1 d.1.2.2.2.1 d.1.2.2.2.2.1 d.1.2.2.2.2.2.1 d.1.2.2.2.2.2.2.1 d.2.1) N d.1.1
theorem s43_4 (N:Nat) {R:Type} (k:AExit->St->Option R) (t17:List Ya) (t18:Int) (o0:Ye) (kb:List Yp->List Obj->Option R) (x:Int):z0z (x43 N) (z04 4 (z00 b43)) (St.of [(19,(.data .ya x)),(2,(.bptr 0 [])),(17,(.data .yc t17)),(18,(.data .ya t18))] [.cell (.data .yg o0)]) (z1q (x43 N) 4 ⟨[19,2,17,18],[]⟩ kb k)=zob N t17 t18 o0 (fun y=>kb [(19,(.data .ya y)),(2,(.bptr 0 [])),(17,(.data .yc t17)),(18,(.data .ya t18))] [.cell (.data .yg o0)])
  (fun y0=>k .ret (St.of [(4,(.data .bool y0))] []))
  (fun _=>k (.exit 0) (St.of [] [])) x:=by kernel_rfl
theorem l43_4 (N:Nat):z0r (x43 N) (z04 4 (z00 b43)):=
 z0i (G43_4 N) (by kernel_rfl) (by kernel_rfl) (by kernel_rfl) fun R k d=>
  z0g (st:=fun (x:Int)=>([(19,(.data .ya x)),(2,(.bptr 0 [])),(17,(.data .yc d.1.2.2.1)),(18,(.data .ya d.1.2.2.2.1))],[.cell (.data .yg d.2.1)])) (s43_4 N k d.1.2.2.1 d.1.2.2.2.1 d.2.1) N d.1.1
theorem e43 (N:Nat) (a0:Ye) (a1:List Ya):z1y (x43 N) [.bool] [.tmp 4] b43 (entry (.pr (.val .yg) (.pr (.val .yc) .un)) (a0,(a1,())))=f43 N a0 a1:=by kernel_rfl
theorem k43 (N:Nat):z03 Go.Proofs.Try.prog 43 (c43 N):=
 z23 (fn:=Go.Proofs.Try.f43) (body:=b43) (c:=x43 N) Go.Proofs.Try.func43 (by kernel_rfl) (by kernel_rfl) ⟨ttL_ok,z0n,z0p,z0q,z0o,z0e⟩ mixed (by kernel_rfl) (zL (by kernel_rfl)) (by kernel_rfl) (by decide)
  (z0b (by kernel_rfl:z00 b43=[z04 4 (z00 b43),z04 9 (z00 b43)]) (.cons (l43_4 N) (.cons (l43_9 N) .nil))) fun d=>e43 N d.1 d.2.1
def f15 (N:Nat) (a0:Ye) (a1:List Ya) (a2:Int):Option (Bool):=
 (f28 N a0).bind fun r=>
 (cond r
   ((f43 N a0 a1).bind fun r_1=>
   some r_1)
   (some false)).bind fun b=>
 (cond b
   (some (decide (0≤a2)))
   (some false)).bind fun b_1=>
 (cond b_1
   (some (decide (a2≤8)))
   (some false)).bind fun b_2=>
 some b_2
def c15 (N:Nat):Callee:=.pure (.pr (.val .yg) (.pr (.val .yc) (.pr (.val .ya) .un))) [.bool] fun d=>f15 N d.1 d.2.1 d.2.2.1
def lp15 (N:Nat):Nat->Option z0m:=fun r=>none
def x15 (N:Nat):Ctx:=(mkX N 22 [(28,[c28 N]),(43,[c43 N])] [] [] ⟨[6],[]⟩ (fun _=>none) (lp15 N))
noncomputable def b15:Code:=((Go.Proofs.Try.f15).body).getD .skip
theorem e15 (N:Nat) (a0:Ye) (a1:List Ya) (a2:Int):z1y (x15 N) [.bool] [.tmp 6] b15 (entry (.pr (.val .yg) (.pr (.val .yc) (.pr (.val .ya) .un))) (a0,(a1,(a2,()))))=f15 N a0 a1 a2:=by kernel_rfl
theorem k15 (N:Nat):z03 Go.Proofs.Try.prog 15 (c15 N):=
 z23 (fn:=Go.Proofs.Try.f15) (body:=b15) (c:=x15 N) Go.Proofs.Try.func15 (by kernel_rfl) (by kernel_rfl) ⟨ttL_ok,z0n,z0p,z0q,z0o,z02 (z01 (k28 N)) (z02 (z01 (k43 N)) (z0e))⟩ mixed (by kernel_rfl) (zL (by kernel_rfl)) (by kernel_rfl) (by decide)
  (z0b (by kernel_rfl:z00 b15=[]) .nil) fun d=>e15 N d.1 d.2.1 d.2.2.1
def f38 (N:Nat) (a0:Yr) (a1:Yr):Option (Bool):=
 cond (!(decide (a0.2.1=a1.2.1)))
  (some (decide (a1.2.1 < a0.2.1)))
  (some (decide (a0.1 < a1.1)))
def c38 (N:Nat):Callee:=.pure (.pr (.val .yh) (.pr (.val .yh) .un)) [.bool] fun d=>f38 N d.1 d.2.1
def lp38 (N:Nat):Nat->Option z0m:=fun r=>none
def x38 (N:Nat):Ctx:=(mkX N 20 [] [] [] ⟨[4],[]⟩ (fun _=>none) (lp38 N))
noncomputable def b38:Code:=((Go.Proofs.Try.f38).body).getD .skip
theorem e38 (N:Nat) (a0:Yr) (a1:Yr):z1y (x38 N) [.bool] [.tmp 4] b38 (entry (.pr (.val .yh) (.pr (.val .yh) .un)) (a0,(a1,())))=f38 N a0 a1:=by kernel_rfl
theorem k38 (N:Nat):z03 Go.Proofs.Try.prog 38 (c38 N):=
 z23 (fn:=Go.Proofs.Try.f38) (body:=b38) (c:=x38 N) Go.Proofs.Try.func38 (by kernel_rfl) (by kernel_rfl) ⟨ttL_ok,z0n,z0p,z0q,z0o,z0e⟩ mixed (by kernel_rfl) (zL (by kernel_rfl)) (by kernel_rfl) (by decide)
  (z0b (by kernel_rfl:z00 b38=[]) .nil) fun d=>e38 N d.1 d.2.1
def f39 (N:Nat) (a0:Ye):Option (Int):=
 cond (decide (a0.1 < 0))
  (none)
  (some (z0l ((z0l (1*(2 ^ (min (Int.toNat a0.1) 64))))-1)))
def c39 (N:Nat):Callee:=.pure (.pr (.val .yg) .un) [.ya] fun d=>f39 N d.1
def lp39 (N:Nat):Nat->Option z0m:=fun r=>none
def x39 (N:Nat):Ctx:=(mkX N 7 [] [] [] ⟨[2],[]⟩ (fun _=>none) (lp39 N))
noncomputable def b39:Code:=((Go.Proofs.Try.f39).body).getD .skip
theorem e39 (N:Nat) (a0:Ye):z1y (x39 N) [.ya] [.tmp 2] b39 (entry (.pr (.val .yg) .un) (a0,()))=f39 N a0:=by kernel_rfl
theorem k39 (N:Nat):z03 Go.Proofs.Try.prog 39 (c39 N):=
 z23 (fn:=Go.Proofs.Try.f39) (body:=b39) (c:=x39 N) Go.Proofs.Try.func39 (by kernel_rfl) (by kernel_rfl) ⟨ttL_ok,z0n,z0p,z0q,z0o,z0e⟩ mixed (by kernel_rfl) (zL (by kernel_rfl)) (by kernel_rfl) (by decide)
  (z0b (by kernel_rfl:z00 b39=[]) .nil) fun d=>e39 N d.1
def f65 (N:Nat) (a0:Int) (a1:Int):Option (Bool):=
 cond (decide (a1 < 0))
  (none)
  (some (decide ((z0l (((((BitVec.ofInt 64 (Int.fdiv a0 (Int.pow 2 (min (Int.toNat a1) 64)))).and (BitVec.ofInt 64 1)).toNat):Nat):Int))=1)))
def c65 (N:Nat):Callee:=.pure (.pr (.val .ya) (.pr (.val .ya) .un)) [.bool] fun d=>f65 N d.1 d.2.1
def lp65 (N:Nat):Nat->Option z0m:=fun r=>none
def x65 (N:Nat):Ctx:=(mkX N 10 [] [] [] ⟨[4],[]⟩ (fun _=>none) (lp65 N))
noncomputable def b65:Code:=((Go.Proofs.Try.f65).body).getD .skip
theorem e65 (N:Nat) (a0:Int) (a1:Int):z1y (x65 N) [.bool] [.tmp 4] b65 (entry (.pr (.val .ya) (.pr (.val .ya) .un)) (a0,(a1,())))=f65 N a0 a1:=by kernel_rfl
theorem k65 (N:Nat):z03 Go.Proofs.Try.prog 65 (c65 N):=
 z23 (fn:=Go.Proofs.Try.f65) (body:=b65) (c:=x65 N) Go.Proofs.Try.func65 (by kernel_rfl) (by kernel_rfl) ⟨ttL_ok,z0n,z0p,z0q,z0o,z0e⟩ mixed (by kernel_rfl) (zL (by kernel_rfl)) (by kernel_rfl) (by decide)
  (z0b (by kernel_rfl:z00 b65=[]) .nil) fun d=>e65 N d.1 d.2.1
def zod {R:Type} (N:Nat) (t9:List Int) (t2_1:Int) (t12_1:List Ya) (t13_1:Int) (t14_1:Int) (t7_1:Int) (t19:Int) (o0_1:Ye) (kb:Int×Int->Option R) (kx2:Int->Option R):Int×Int->Option R:=
 fun (t20,t10)=>
  cond (decide (t20 < t19))
   ((f65 N t2_1 t20).bind fun r=>
   cond r
    ((idx t9 t20).bind fun x_1=>
    kb ((z0l (t20+1)),(z0l (t10+x_1))))
    (kb ((z0l (t20+1)),t10)))
   (kx2 t10)
def zoe {R:Type} (N:Nat) (t2:Int) (t12:List Ya) (t13:Int) (o0:Ye) (kb:Int×Int->Option R) (kx0:Int->Option R):Int×Int->Option R:=
 fun (t14,t7)=>
  cond (decide (t14 < t13))
   ((idx t12 t14).bind fun x=>
   iter (fun w=>zod N x t2 t12 t13 t14 t7 o0.1 o0 w
    (fun t10_1=>
     kb ((z0l (t14+1)),(zsa t7 t10_1)))) N (0,0))
   (kx0 t7)
def f40 (N:Nat) (a0:Ye) (a1:List Ya) (a2:Int):Option (Int):=
 iter (fun w=>zoe N a2 a1 (len a1) a0 w
  (fun t7_2=>
   some t7_2)) N (0,0)
def c40 (N:Nat):Callee:=.pure (.pr (.val .yg) (.pr (.val .yc) (.pr (.val .ya) .un))) [.ya] fun d=>f40 N d.1 d.2.1 d.2.2.1
def F40_7:SForm:=⟨[(20,(.val .ya)),(9,(.val .yb)),(10,(.val .ya)),(2,(.val .ya)),(3,(.bptr 0 [])),(12,(.val .yc)),(13,(.val .ya)),(14,(.val .ya)),(7,(.val .ya)),(19,(.val .ya))],[.cell (.val .yg)]⟩
def G40_7 (N:Nat):(R:Type)->F40_7.den->(AExit->St->Option R)->Option R:=fun R d k=>iter (fun kb=>zod N d.1.2.1 d.1.2.2.2.1 d.1.2.2.2.2.2.1 d.1.2.2.2.2.2.2.1 d.1.2.2.2.2.2.2.2.1 d.1.2.2.2.2.2.2.2.2.1 d.1.2.2.2.2.2.2.2.2.2.1 d.2.1 kb
  (fun y4=>k (.exit 2) (St.of [(2,(.data .ya d.1.2.2.2.1)),(3,(.bptr 0 [])),(12,(.data .yc d.1.2.2.2.2.2.1)),(13,(.data .ya d.1.2.2.2.2.2.2.1)),(14,(.data .ya d.1.2.2.2.2.2.2.2.1)),(10,(.data .ya y4)),(7,(.data .ya d.1.2.2.2.2.2.2.2.2.1))] [.cell (.data .yg d.2.1)]))) N (d.1.1,d.1.2.2.1)
def F40_3:SForm:=⟨[(2,(.val .ya)),(14,(.val .ya)),(7,(.val .ya)),(3,(.bptr 0 [])),(12,(.val .yc)),(13,(.val .ya))],[.cell (.val .yg)]⟩
def G40_3 (N:Nat):(R:Type)->F40_3.den->(AExit->St->Option R)->Option R:=fun R d k=>iter (fun kb=>zoe N d.1.1 d.1.2.2.2.2.1 d.1.2.2.2.2.2.1 d.2.1 kb
  (fun y0=>k (.exit 0) (St.of [(7,(.data .ya y0))] []))) N (d.1.2.1,d.1.2.2.1)
def lp40 (N:Nat):Nat->Option z0m:=fun r=>cond (Nat.beq r 7) (some fun R sl os k=>F40_7.take sl os fun d=>G40_7 N R d k) (cond (Nat.beq r 3) (some fun R sl os k=>F40_3.take sl os fun d=>G40_3 N R d k) (none))
def x40 (N:Nat):Ctx:=(mkX N 38 [(65,[c65 N])] [(3,⟨[2,14,7,3,12,13],[]⟩),(7,⟨[20,9,10,2,3,12,13,14,7,19],[]⟩)] [(3,[(0,⟨[7],[]⟩)]),(7,[(2,⟨[2,3,12,13,14,10,7],[]⟩)])] ⟨[6],[]⟩ (fun _=>none) (lp40 N))
noncomputable def b40:Code:=((Go.Proofs.Try.f40).body).getD .skip
theorem s40_7 (N:Nat) {R:Type} (k:AExit->St->Option R) (t9:List Int) (t2_1:Int) (t12_1:List Ya) (t13_1:Int) (t14_1:Int) (t7_1:Int) (t19:Int) (o0_1:Ye) (kb:List Yp->List Obj->Option R) (x:Int×Int):z0z (x40 N) (z04 7 (z00 b40)) (St.of [(20,(.data .ya x.1)),(9,(.data .yb t9)),(10,(.data .ya x.2)),(2,(.data .ya t2_1)),(3,(.bptr 0 [])),(12,(.data .yc t12_1)),(13,(.data .ya t13_1)),(14,(.data .ya t14_1)),(7,(.data .ya t7_1)),(19,(.data .ya t19))] [.cell (.data .yg o0_1)]) (z1q (x40 N) 7 ⟨[20,9,10,2,3,12,13,14,7,19],[]⟩ kb k)=zod N t9 t2_1 t12_1 t13_1 t14_1 t7_1 t19 o0_1 (fun y=>kb [(20,(.data .ya y.1)),(9,(.data .yb t9)),(10,(.data .ya y.2)),(2,(.data .ya t2_1)),(3,(.bptr 0 [])),(12,(.data .yc t12_1)),(13,(.data .ya t13_1)),(14,(.data .ya t14_1)),(7,(.data .ya t7_1)),(19,(.data .ya t19))] [.cell (.data .yg o0_1)])
  (fun y4=>k (.exit 2) (St.of [(2,(.data .ya t2_1)),(3,(.bptr 0 [])),(12,(.data .yc t12_1)),(13,(.data .ya t13_1)),(14,(.data .ya t14_1)),(10,(.data .ya y4)),(7,(.data .ya t7_1))] [.cell (.data .yg o0_1)])) x:=by kernel_rfl
theorem l40_7 (N:Nat):z0r (x40 N) (z04 7 (z00 b40)):=
 z0i (G40_7 N) (by kernel_rfl) (by kernel_rfl) (by kernel_rfl) fun R k d=>
  z0g (st:=fun (x:Int×Int)=>([(20,(.data .ya x.1)),(9,(.data .yb d.1.2.1)),(10,(.data .ya x.2)),(2,(.data .ya d.1.2.2.2.1)),(3,(.bptr 0 [])),(12,(.data .yc d.1.2.2.2.2.2.1)),(13,(.data .ya d.1.2.2.2.2.2.2.1)),(14,(.data .ya d.1.2.2.2.2.2.2.2.1)),(7,(.data .ya d.1.2.2.2.2.2.2.2.2.1)),(19,(.data .ya d.1.2.2.2.2.2.2.2.2.2.1))],[.cell (.data .yg d.2.1)])) (s40_7 N k d.1.2.1 d.1.2.2.2.1 d.1.2.2.2.2.2.1 d.1.2.2.2.2.2.2.1 d.1.2.2.2.2.2.2.2.1 d.1.2.2.2.2.2.2.2.2.1 d.1.2.2.2.2.2.2.2.2.2.1 d.2.1) N (d.1.1,d.1.2.2.1)
theorem s40_3 (N:Nat) {R:Type} (k:AExit->St->Option R) (t2:Int) (t12:List Ya) (t13:Int) (o0:Ye) (kb:List Yp->List Obj->Option R) (x:Int×Int):z0z (x40 N) (z04 3 (z00 b40)) (St.of [(2,(.data .ya t2)),(14,(.data .ya x.1)),(7,(.data .ya x.2)),(3,(.bptr 0 [])),(12,(.data .yc t12)),(13,(.data .ya t13))] [.cell (.data .yg o0)]) (z1q (x40 N) 3 ⟨[2,14,7,3,12,13],[]⟩ kb k)=zoe N t2 t12 t13 o0 (fun y=>kb [(2,(.data .ya t2)),(14,(.data .ya y.1)),(7,(.data .ya y.2)),(3,(.bptr 0 [])),(12,(.data .yc t12)),(13,(.data .ya t13))] [.cell (.data .yg o0)])
  (fun y0=>k (.exit 0) (St.of [(7,(.data .ya y0))] [])) x:=by kernel_rfl
theorem l40_3 (N:Nat):z0r (x40 N) (z04 3 (z00 b40)):=
 z0i (G40_3 N) (by kernel_rfl) (by kernel_rfl) (by kernel_rfl) fun R k d=>
  z0g (st:=fun (x:Int×Int)=>([(2,(.data .ya d.1.1)),(14,(.data .ya x.1)),(7,(.data .ya x.2)),(3,(.bptr 0 [])),(12,(.data .yc d.1.2.2.2.2.1)),(13,(.data .ya d.1.2.2.2.2.2.1))],[.cell (.data .yg d.2.1)])) (s40_3 N k d.1.1 d.1.2.2.2.2.1 d.1.2.2.2.2.2.1 d.2.1) N (d.1.2.1,d.1.2.2.1)
theorem e40 (N:Nat) (a0:Ye) (a1:List Ya) (a2:Int):z1y (x40 N) [.ya] [.tmp 6] b40 (entry (.pr (.val .yg) (.pr (.val .yc) (.pr (.val .ya) .un))) (a0,(a1,(a2,()))))=f40 N a0 a1 a2:=by kernel_rfl
theorem k40 (N:Nat):z03 Go.Proofs.Try.prog 40 (c40 N):=
 z23 (fn:=Go.Proofs.Try.f40) (body:=b40) (c:=x40 N) Go.Proofs.Try.func40 (by kernel_rfl) (by kernel_rfl) ⟨ttL_ok,z0n,z0p,z0q,z0o,z02 (z01 (k65 N)) (z0e)⟩ mixed (by kernel_rfl) (zL (by kernel_rfl)) (by kernel_rfl) (by decide)
  (z0b (by kernel_rfl:z00 b40=[z04 3 (z00 b40),z04 7 (z00 b40)]) (.cons (l40_3 N) (.cons (l40_7 N) .nil))) fun d=>e40 N d.1 d.2.1 d.2.2.1
def zo9 {R:Type} (N:Nat) (t0:List Int) (kb:Int×Int->Option R) (kx0:Int->Option R):Int×Int->Option R:=
 fun (t4,t3)=>
  cond (decide (t4 < (len t0)))
   ((idx t0 t4).bind fun x=>
   cond (decide (x=t3))
    (kb ((z0l (t4+1)),(z0l (t3+1))))
    (kb ((z0l (t4+1)),t3)))
   (kx0 t3)
def f44 (N:Nat) (a0:List Int):Option (Int):=
 (f67 N a0).bind fun r=>
 cond (!r)
  (some 0)
  (iter (fun w=>zo9 N a0 w
   (fun t3_1=>
    some t3_1)) N (0,0))
def c44 (N:Nat):Callee:=.pure (.pr (.val .yb) .un) [.ya] fun d=>f44 N d.1
def F44_5:SForm:=⟨[(4,(.val .ya)),(3,(.val .ya)),(0,(.val .yb))],[]⟩
def G44_5 (N:Nat):(R:Type)->F44_5.den->(AExit->St->Option R)->Option R:=fun R d k=>iter (fun kb=>zo9 N d.1.2.2.1 kb
  (fun y0=>k (.exit 0) (St.of [(3,(.data .ya y0))] []))) N (d.1.1,d.1.2.1)
def lp44 (N:Nat):Nat->Option z0m:=fun r=>cond (Nat.beq r 5) (some fun R sl os k=>F44_5.take sl os fun d=>G44_5 N R d k) (none)
def x44 (N:Nat):Ctx:=(mkX N 23 [(67,[c67 N])] [(5,⟨[4,3,0],[]⟩)] [(5,[(0,⟨[3],[]⟩)])] ⟨[2],[]⟩ (fun _=>none) (lp44 N))
noncomputable def b44:Code:=((Go.Proofs.Try.f44).body).getD .skip
theorem s44_5 (N:Nat) {R:Type} (k:AExit->St->Option R) (t0:List Int) (kb:List Yp->List Obj->Option R) (x:Int×Int):z0z (x44 N) (z04 5 (z00 b44)) (St.of [(4,(.data .ya x.1)),(3,(.data .ya x.2)),(0,(.data .yb t0))] []) (z1q (x44 N) 5 ⟨[4,3,0],[]⟩ kb k)=zo9 N t0 (fun y=>kb [(4,(.data .ya y.1)),(3,(.data .ya y.2)),(0,(.data .yb t0))] [])
  (fun y0=>k (.exit 0) (St.of [(3,(.data .ya y0))] [])) x:=by kernel_rfl
theorem l44_5 (N:Nat):z0r (x44 N) (z04 5 (z00 b44)):=
 z0i (G44_5 N) (by kernel_rfl) (by kernel_rfl) (by kernel_rfl) fun R k d=>
  z0g (st:=fun (x:Int×Int)=>([(4,(.data .ya x.1)),(3,(.data .ya x.2)),(0,(.data .yb d.1.2.2.1))],[])) (s44_5 N k d.1.2.2.1) N (d.1.1,d.1.2.1)
theorem e44 (N:Nat) (a0:List Int):z1y (x44 N) [.ya] [.tmp 2] b44 (entry (.pr (.val .yb) .un) (a0,()))=f44 N a0:=by kernel_rfl
theorem k44 (N:Nat):z03 Go.Proofs.Try.prog 44 (c44 N):=
 z23 (fn:=Go.Proofs.Try.f44) (body:=b44) (c:=x44 N) Go.Proofs.Try.func44 (by kernel_rfl) (by kernel_rfl) ⟨ttL_ok,z0n,z0p,z0q,z0o,z02 (z01 (k67 N)) (z0e)⟩ mixed (by kernel_rfl) (zL (by kernel_rfl)) (by kernel_rfl) (by decide)
  (z0b (by kernel_rfl:z00 b44=[z04 5 (z00 b44)]) (.cons (l44_5 N) .nil)) fun d=>e44 N d.1
def znw {R:Type} (N:Nat) (t3:Int) (t2:Int) (t1:Int) (t12:Int) (o0:Ye) (kb:Int×Int->Option R) (kx0:Int->Option R):Int×Int->Option R:=
 fun (t13,t9)=>
  cond (decide (t13 < t12))
   ((f65 N t1 t13).bind fun r=>
   (cond r
     ((idx o0.2.1 t2).bind fun x=>
     (idx x t13).bind fun x_1=>
     some (decide (x_1=t3)))
     (some false)).bind fun b=>
   cond b
    (cond (decide (t13 < 0))
     (none)
     (kb ((z0l (t13+1)),(z0l (t9+(z0l (1*(2 ^ (min (Int.toNat t13) 64)))))))))
    (kb ((z0l (t13+1)),t9)))
   (kx0 t9)
def f77 (N:Nat) (a0:Ye) (a1:Int) (a2:Int) (a3:Int):Option (Int):=
 iter (fun w=>znw N a3 a2 a1 a0.1 a0 w
  (fun t9_1=>
   some t9_1)) N (0,0)
def c77 (N:Nat):Callee:=.pure (.pr (.val .yg) (.pr (.val .ya) (.pr (.val .ya) (.pr (.val .ya) .un)))) [.ya] fun d=>f77 N d.1 d.2.1 d.2.2.1 d.2.2.2.1
def F77_3:SForm:=⟨[(13,(.val .ya)),(9,(.val .ya)),(3,(.val .ya)),(2,(.val .ya)),(4,(.bptr 0 [])),(1,(.val .ya)),(12,(.val .ya))],[.cell (.val .yg)]⟩
def G77_3 (N:Nat):(R:Type)->F77_3.den->(AExit->St->Option R)->Option R:=fun R d k=>iter (fun kb=>znw N d.1.2.2.1 d.1.2.2.2.1 d.1.2.2.2.2.2.1 d.1.2.2.2.2.2.2.1 d.2.1 kb
  (fun y0=>k (.exit 0) (St.of [(9,(.data .ya y0))] []))) N (d.1.1,d.1.2.1)
def lp77 (N:Nat):Nat->Option z0m:=fun r=>cond (Nat.beq r 3) (some fun R sl os k=>F77_3.take sl os fun d=>G77_3 N R d k) (none)
def x77 (N:Nat):Ctx:=(mkX N 37 [(65,[c65 N])] [(3,⟨[13,9,3,2,4,1,12],[]⟩)] [(3,[(0,⟨[9],[]⟩)])] ⟨[8],[]⟩ (fun _=>none) (lp77 N))
noncomputable def b77:Code:=((Go.Proofs.Try.f77).body).getD .skip
theorem s77_3 (N:Nat) {R:Type} (k:AExit->St->Option R) (t3:Int) (t2:Int) (t1:Int) (t12:Int) (o0:Ye) (kb:List Yp->List Obj->Option R) (x:Int×Int):z0z (x77 N) (z04 3 (z00 b77)) (St.of [(13,(.data .ya x.1)),(9,(.data .ya x.2)),(3,(.data .ya t3)),(2,(.data .ya t2)),(4,(.bptr 0 [])),(1,(.data .ya t1)),(12,(.data .ya t12))] [.cell (.data .yg o0)]) (z1q (x77 N) 3 ⟨[13,9,3,2,4,1,12],[]⟩ kb k)=znw N t3 t2 t1 t12 o0 (fun y=>kb [(13,(.data .ya y.1)),(9,(.data .ya y.2)),(3,(.data .ya t3)),(2,(.data .ya t2)),(4,(.bptr 0 [])),(1,(.data .ya t1)),(12,(.data .ya t12))] [.cell (.data .yg o0)])
  (fun y0=>k (.exit 0) (St.of [(9,(.data .ya y0))] [])) x:=by kernel_rfl
theorem l77_3 (N:Nat):z0r (x77 N) (z04 3 (z00 b77)):=
 z0i (G77_3 N) (by kernel_rfl) (by kernel_rfl) (by kernel_rfl) fun R k d=>
  z0g (st:=fun (x:Int×Int)=>([(13,(.data .ya x.1)),(9,(.data .ya x.2)),(3,(.data .ya d.1.2.2.1)),(2,(.data .ya d.1.2.2.2.1)),(4,(.bptr 0 [])),(1,(.data .ya d.1.2.2.2.2.2.1)),(12,(.data .ya d.1.2.2.2.2.2.2.1))],[.cell (.data .yg d.2.1)])) (s77_3 N k d.1.2.2.1 d.1.2.2.2.1 d.1.2.2.2.2.2.1 d.1.2.2.2.2.2.2.1 d.2.1) N (d.1.1,d.1.2.1)
theorem e77 (N:Nat) (a0:Ye) (a1:Int) (a2:Int) (a3:Int):z1y (x77 N) [.ya] [.tmp 8] b77 (entry (.pr (.val .yg) (.pr (.val .ya) (.pr (.val .ya) (.pr (.val .ya) .un)))) (a0,(a1,(a2,(a3,())))))=f77 N a0 a1 a2 a3:=by kernel_rfl
theorem k77 (N:Nat):z03 Go.Proofs.Try.prog 77 (c77 N):=
 z23 (fn:=Go.Proofs.Try.f77) (body:=b77) (c:=x77 N) Go.Proofs.Try.func77 (by kernel_rfl) (by kernel_rfl) ⟨ttL_ok,z0n,z0p,z0q,z0o,z02 (z01 (k65 N)) (z0e)⟩ mixed (by kernel_rfl) (zL (by kernel_rfl)) (by kernel_rfl) (by decide)
  (z0b (by kernel_rfl:z00 b77=[z04 3 (z00 b77)]) (.cons (l77_3 N) .nil)) fun d=>e77 N d.1 d.2.1 d.2.2.1 d.2.2.2.1
def zoc {R:Type} (N:Nat) (t2:Int) (t1:Int) (t16:Int) (o1:Ye) (kb:Int×List Int->Option R) (kx0:Ya->Option R):Int×List Int->Option R:=
 fun (t17,o0)=>
  cond (decide (t17 < t16))
   ((f77 N o1 t1 t2 t17).bind fun r_1=>
   cond (!(decide (r_1=0)))
    (chk (decide ((Nat.succ (List.length o0))≤z3e)) <|
    kb ((z0l (t17+1)),(o0++(r_1 :: ([]:List Int)))))
    (kb ((z0l (t17+1)),o0)))
   (kx0 o0)
def f41 (N:Nat) (a0:Ye) (a1:Int) (a2:Int):Option Ya:=
 (idx a0.2.1 a2).bind fun x=>
 (f44 N x).bind fun r=>
 iter (fun w=>zoc N a2 a1 r a0 w
  (fun o0_1=>
   some o0_1)) N (0,([]:List Int))
def c41 (N:Nat):Callee:=.pure (.pr (.val .yg) (.pr (.val .ya) (.pr (.val .ya) .un))) [.yj] fun d=>f41 N d.1 d.2.1 d.2.2.1
def F41_3:SForm:=⟨[(17,(.val .ya)),(7,(.ref 0)),(2,(.val .ya)),(1,(.val .ya)),(3,(.bptr 1 [])),(16,(.val .ya))],[.row .ya,.cell (.val .yg)]⟩
def G41_3 (N:Nat):(R:Type)->F41_3.den->(AExit->St->Option R)->Option R:=fun R d k=>iter (fun kb=>zoc N d.1.2.2.1 d.1.2.2.2.1 d.1.2.2.2.2.2.1 d.2.2.1 kb
  (fun y0=>k (.exit 0) (St.of [(7,(.ref 0 [] 0))] [.row .ya y0 0]))) N (d.1.1,d.2.1)
def lp41 (N:Nat):Nat->Option z0m:=fun r=>cond (Nat.beq r 3) (some fun R sl os k=>F41_3.take sl os fun d=>G41_3 N R d k) (none)
def x41 (N:Nat):Ctx:=(mkX N 33 [(44,[c44 N]),(77,[c77 N])] [(3,⟨[17,7,2,1,3,16],[]⟩)] [(3,[(0,⟨[7],[]⟩)])] ⟨[6],[]⟩ (fun _=>none) (lp41 N))
noncomputable def b41:Code:=((Go.Proofs.Try.f41).body).getD .skip
theorem s41_3 (N:Nat) {R:Type} (k:AExit->St->Option R) (t2:Int) (t1:Int) (t16:Int) (o1:Ye) (kb:List Yp->List Obj->Option R) (x:Int×List Int):z0z (x41 N) (z04 3 (z00 b41)) (St.of [(17,(.data .ya x.1)),(7,(.ref 0 [] 0)),(2,(.data .ya t2)),(1,(.data .ya t1)),(3,(.bptr 1 [])),(16,(.data .ya t16))] [.row .ya x.2 0,.cell (.data .yg o1)]) (z1q (x41 N) 3 ⟨[17,7,2,1,3,16],[]⟩ kb k)=zoc N t2 t1 t16 o1 (fun y=>kb [(17,(.data .ya y.1)),(7,(.ref 0 [] 0)),(2,(.data .ya t2)),(1,(.data .ya t1)),(3,(.bptr 1 [])),(16,(.data .ya t16))] [.row .ya y.2 0,.cell (.data .yg o1)])
  (fun y0=>k (.exit 0) (St.of [(7,(.ref 0 [] 0))] [.row .ya y0 0])) x:=by kernel_rfl
theorem l41_3 (N:Nat):z0r (x41 N) (z04 3 (z00 b41)):=
 z0i (G41_3 N) (by kernel_rfl) (by kernel_rfl) (by kernel_rfl) fun R k d=>
  z0g (st:=fun (x:Int×List Int)=>([(17,(.data .ya x.1)),(7,(.ref 0 [] 0)),(2,(.data .ya d.1.2.2.1)),(1,(.data .ya d.1.2.2.2.1)),(3,(.bptr 1 [])),(16,(.data .ya d.1.2.2.2.2.2.1))],[.row .ya x.2 0,.cell (.data .yg d.2.2.1)])) (s41_3 N k d.1.2.2.1 d.1.2.2.2.1 d.1.2.2.2.2.2.1 d.2.2.1) N (d.1.1,d.2.1)
theorem e41 (N:Nat) (a0:Ye) (a1:Int) (a2:Int):z1y (x41 N) [.yj] [.tmp 6] b41 (entry (.pr (.val .yg) (.pr (.val .ya) (.pr (.val .ya) .un))) (a0,(a1,(a2,()))))=f41 N a0 a1 a2:=by kernel_rfl
theorem k41 (N:Nat):z03 Go.Proofs.Try.prog 41 (c41 N):=
 z23 (fn:=Go.Proofs.Try.f41) (body:=b41) (c:=x41 N) Go.Proofs.Try.func41 (by kernel_rfl) (by kernel_rfl) ⟨ttL_ok,z0n,z0p,z0q,z0o,z02 (z01 (k44 N)) (z02 (z01 (k77 N)) (z0e))⟩ mixed (by kernel_rfl) (zL (by kernel_rfl)) (by kernel_rfl) (by decide)
  (z0b (by kernel_rfl:z00 b41=[z04 3 (z00 b41)]) (.cons (l41_3 N) .nil)) fun d=>e41 N d.1 d.2.1 d.2.2.1
end
end Go.Kz
