/-
  The functions of the program as plain functions on lists and numbers, and the proofs that the program computes them. Printed by a program.
-/
import Derived.Test.YtnjfafnflbackaaGreatKzP43Zb
set_option linter.unusedSimpArgs false
set_option maxRecDepth 100000
set_option linter.unusedVariables false
namespace Go.Kz
open Go.Proofs
noncomputable section
def zdv {R:Type} (N:Nat) (t0_1:Int) (kb:Int×Yd×List Ya×Int×List Int->Option R) (kx0:Yd->Yq->Int->Ya->Option R):Int×Yd×List Ya×Int×List Int->Option R:=
 fun (t15,o1_1,o2_1,o3,o5)=>
  cond (decide (t15 < (len o1_1.2.1)))
   (z17 [z17 [(f46 N ([]:List Int)).bind fun r_3=>
     chk (decide ((Nat.succ (List.length r_3))≤z31)) <|
     (zje N (z0g (t0_1-1)) (z0g (t15+1)) (r_3++(t15 :: ([]:List Int))) o1_1 o2_1 o3 o5).bind fun r_4=>
     kb ((z0g (t15+1)),r_4.2.2.1,r_4.2.2.2.1,r_4.2.2.2.2.1,r_4.2.2.2.2.2.2.1),
     (f46 N ([]:List Int)).bind fun r_5=>
     chk (decide ((Nat.succ (List.length r_5))≤z31)) <|
     (zje N (z0g (t0_1-1)) (z0g (t15+1)) (r_5++(t15 :: ([]:List Int))) o1_1 o2_1 o3 o5).bind fun r_6=>
     kb ((z0g (t15+1)),r_6.2.2.1,r_6.2.2.2.1,r_6.2.2.2.2.1,r_6.2.2.2.2.2.2.1)],
    (f46 N ([]:List Int)).bind fun r_7=>
    z17 [chk (decide ((Nat.succ (List.length r_7))≤z31)) <|
     (zje N (z0g (t0_1-1)) (z0g (t15+1)) (r_7++(t15 :: ([]:List Int))) o1_1 o2_1 o3 o5).bind fun r_8=>
     kb ((z0g (t15+1)),r_8.2.2.1,r_8.2.2.2.1,r_8.2.2.2.2.1,r_8.2.2.2.2.2.2.1),
     z17 [chk (decide ((Nat.succ (List.length r_7))≤z31)) <|
      (zje N (z0g (t0_1-1)) (z0g (t15+1)) (r_7++(t15 :: ([]:List Int))) o1_1 o2_1 o3 o5).bind fun r_9=>
      kb ((z0g (t15+1)),r_9.2.2.1,r_9.2.2.2.1,r_9.2.2.2.2.1,r_9.2.2.2.2.2.2.1),
      chk (decide ((Nat.succ (List.length r_7))≤z31)) <|
      (zje N (z0g (t0_1-1)) (z0g (t15+1)) (r_7++(t15 :: ([]:List Int))) o1_1 o2_1 o3 o5).bind fun r_10=>
      kb ((z0g (t15+1)),r_10.2.2.1,r_10.2.2.2.1,r_10.2.2.2.2.1,r_10.2.2.2.2.2.2.1)]],
    z17 [(f46 N ([]:List Int)).bind fun r_11=>
     chk (decide ((Nat.succ (List.length r_11))≤z31)) <|
     (zje N (z0g (t0_1-1)) (z0g (t15+1)) (r_11++(t15 :: ([]:List Int))) o1_1 o2_1 o3 o5).bind fun r_12=>
     kb ((z0g (t15+1)),r_12.2.2.1,r_12.2.2.2.1,r_12.2.2.2.2.1,r_12.2.2.2.2.2.2.1),
     (f46 N ([]:List Int)).bind fun r_13=>
     z17 [chk (decide ((Nat.succ (List.length r_13))≤z31)) <|
      (zje N (z0g (t0_1-1)) (z0g (t15+1)) (r_13++(t15 :: ([]:List Int))) o1_1 o2_1 o3 o5).bind fun r_14=>
      kb ((z0g (t15+1)),r_14.2.2.1,r_14.2.2.2.1,r_14.2.2.2.2.1,r_14.2.2.2.2.2.2.1),
      chk (decide ((Nat.succ (List.length r_13))≤z31)) <|
      (zje N (z0g (t0_1-1)) (z0g (t15+1)) (r_13++(t15 :: ([]:List Int))) o1_1 o2_1 o3 o5).bind fun r_15=>
      kb ((z0g (t15+1)),r_15.2.2.1,r_15.2.2.2.1,r_15.2.2.2.2.1,r_15.2.2.2.2.2.2.1)]]])
   (kx0 o1_1 o2_1 o3 o5)
def zli (N:Nat) (t0:Int) (t1:Int) (o0:Yd) (o1:List Ya) (o2:Int) (o4:List Int):Option ((Yac×Yaz)):=
 cond (decide (t0=0))
  ((f44 N o0 ([]:List Int)).bind fun r=>
  (f45 N o0 o1 r.1).bind fun r_1=>
  cond (decide (o2 < r_1.1))
   ((f46 N ([]:List Int)).bind fun r_2=>
   some (((),((),((),((),((),()))))),(o0,(o1,(r_1.1,((),(r_2,(((),((),((),((),((),()))))),()))))))))
   (some (((),((),((),((),((),()))))),(o0,(o1,(o2,((),(o4,(((),((),((),((),((),()))))),())))))))))
  (iter (fun w=>zdv N t0 w
   (fun o0_1 o1_2 o2_2 o4_1=>
    some (((),((),((),((),((),()))))),(o0_1,(o1_2,(o2_2,((),(o4_1,(((),((),((),((),((),()))))),()))))))))) N (t1,o0,o1,o2,o4))
def fi43v3:SForm:=⟨[(0,(.val .ya)),(1,(.val .ya)),(2,.nilS),(3,(.bptr 0 [])),(4,(.bptr 1 [])),(5,(.bptr 2 [])),(6,(.bptr 3 [])),(7,(.bptr 5 []))],[.cell (.val .yf),.cell (.val .yc),.cell (.val .ya),.cell (.ref 4),.row .ya,.cell (.clos 43 (.pr (.bptr 0 []) (.pr (.bptr 1 []) (.pr (.bptr 2 []) (.pr (.bptr 3 []) (.pr (.bptr 5 []) .un))))))]⟩
def zz6:SForm:=⟨[(3,(.bptr 0 [])),(4,(.bptr 1 [])),(5,(.bptr 2 [])),(6,(.bptr 3 [])),(7,(.bptr 5 []))],[.cell (.val .yf),.cell (.val .yc),.cell (.val .ya),.cell (.ref 4),.row .ya,.cell (.clos 43 (.pr (.bptr 0 []) (.pr (.bptr 1 []) (.pr (.bptr 2 []) (.pr (.bptr 3 []) (.pr (.bptr 5 []) .un))))))]⟩
def c43v3 (N:Nat):Callee:=.mut fi43v3 [3,4,5,6,7] zz6 fun d=>zli N d.1.1 d.1.2.1 d.2.1 d.2.2.1 d.2.2.2.1 d.2.2.2.2.2.1
def zvs:SForm:=⟨[(15,(.val .ya)),(2,.nilS),(0,(.val .ya)),(7,(.bptr 0 [])),(3,(.bptr 1 [])),(4,(.bptr 2 [])),(5,(.bptr 3 [])),(6,(.bptr 4 []))],[.cell (.clos 43 (.pr (.bptr 1 []) (.pr (.bptr 2 []) (.pr (.bptr 3 []) (.pr (.bptr 4 []) (.pr (.bptr 0 []) .un)))))),.cell (.val .yf),.cell (.val .yc),.cell (.val .ya),.cell (.ref 5),.row .ya]⟩
def zvo (N:Nat):(R:Type)->zvs.den->(AExit->St->Option R)->Option R:=fun R d k=>iter (fun kb=>zdv N d.1.2.2.1 kb
  (fun y0 y1 y2 y3=>k (.exit 0) (St.of [(3,(.bptr 0 [])),(4,(.bptr 1 [])),(5,(.bptr 2 [])),(6,(.bptr 3 [])),(7,(.bptr 5 []))] [.cell (.data .yf y0),.cell (.data .yc y1),.cell (.data .ya y2),.cell (.ref 4 [] 0),.row .ya y3 0,.cell (.clos 43 (.pr (.bptr 0 []) (.pr (.bptr 1 []) (.pr (.bptr 2 []) (.pr (.bptr 3 []) (.pr (.bptr 5 []) .un))))))]))) N (d.1.1,d.2.2.1,d.2.2.2.1,d.2.2.2.2.1,d.2.2.2.2.2.2.1)
def lp43v3 (N:Nat):Nat->Option z0h:=fun r=>cond (Nat.beq r 6) (some fun R sl os k=>zvs.take sl os fun d=>zvo N R d k) (none)
def zs7 (N:Nat):Ctx:=(mkX N 56 [(44,[c44 N]),(45,[c45 N]),(46,[c46 N]),(43,[c43v2 N])] [(6,⟨[15,2,0,7,3,4,5,6],[]⟩)] [(6,[(0,⟨[3,4,5,6,7],[]⟩)])] ⟨[3,4,5,6,7],[]⟩ (fun _=>none) (lp43v3 N))
noncomputable def zs3:Code:=((Go.Proofs.Tryz.f43).body).getD .skip
theorem s43v3_6 (N:Nat) {R:Type} (k:AExit->St->Option R) (t0_1:Int) (kb:List Yo->List Obj->Option R) (x:Int×Yd×List Ya×Int×List Int):z0q (zs7 N) (z03 6 (z00 zs3)) (St.of [(15,(.data .ya x.1)),(2,.nilS),(0,(.data .ya t0_1)),(7,(.bptr 0 [])),(3,(.bptr 1 [])),(4,(.bptr 2 [])),(5,(.bptr 3 [])),(6,(.bptr 4 []))] [.cell (.clos 43 (.pr (.bptr 1 []) (.pr (.bptr 2 []) (.pr (.bptr 3 []) (.pr (.bptr 4 []) (.pr (.bptr 0 []) .un)))))),.cell (.data .yf x.2.1),.cell (.data .yc x.2.2.1),.cell (.data .ya x.2.2.2.1),.cell (.ref 5 [] 0),.row .ya x.2.2.2.2 0]) (z12 (zs7 N) 6 ⟨[15,2,0,7,3,4,5,6],[]⟩ kb k)=zdv N t0_1 (fun y=>kb [(15,(.data .ya y.1)),(2,.nilS),(0,(.data .ya t0_1)),(7,(.bptr 0 [])),(3,(.bptr 1 [])),(4,(.bptr 2 [])),(5,(.bptr 3 [])),(6,(.bptr 4 []))] [.cell (.clos 43 (.pr (.bptr 1 []) (.pr (.bptr 2 []) (.pr (.bptr 3 []) (.pr (.bptr 4 []) (.pr (.bptr 0 []) .un)))))),.cell (.data .yf y.2.1),.cell (.data .yc y.2.2.1),.cell (.data .ya y.2.2.2.1),.cell (.ref 5 [] 0),.row .ya y.2.2.2.2 0])
  (fun y0 y1 y2 y3=>k (.exit 0) (St.of [(3,(.bptr 0 [])),(4,(.bptr 1 [])),(5,(.bptr 2 [])),(6,(.bptr 3 [])),(7,(.bptr 5 []))] [.cell (.data .yf y0),.cell (.data .yc y1),.cell (.data .ya y2),.cell (.ref 4 [] 0),.row .ya y3 0,.cell (.clos 43 (.pr (.bptr 0 []) (.pr (.bptr 1 []) (.pr (.bptr 2 []) (.pr (.bptr 3 []) (.pr (.bptr 5 []) .un))))))])) x:=by kernel_rfl
theorem l43v3_6 (N:Nat):z0f (zs7 N) (z03 6 (z00 zs3)):=
 z0b (zvo N) (by kernel_rfl) (by kernel_rfl) (by kernel_rfl) fun R k d=>
  z0a (st:=fun (x:Int×Yd×List Ya×Int×List Int)=>([(15,(.data .ya x.1)),(2,.nilS),(0,(.data .ya d.1.2.2.1)),(7,(.bptr 0 [])),(3,(.bptr 1 [])),(4,(.bptr 2 [])),(5,(.bptr 3 [])),(6,(.bptr 4 []))],[.cell (.clos 43 (.pr (.bptr 1 []) (.pr (.bptr 2 []) (.pr (.bptr 3 []) (.pr (.bptr 4 []) (.pr (.bptr 0 []) .un)))))),.cell (.data .yf x.2.1),.cell (.data .yc x.2.2.1),.cell (.data .ya x.2.2.2.1),.cell (.ref 5 [] 0),.row .ya x.2.2.2.2 0])) (s43v3_6 N k d.1.2.2.1) N (d.1.1,d.2.2.1,d.2.2.2.1,d.2.2.2.2.1,d.2.2.2.2.2.2.1)
theorem e43v3 (N:Nat) (t0:Int) (t1:Int) (o0:Yd) (o1:List Ya) (o2:Int) (o4:List Int):z9m (zs7 N) zz6 zs3 (St.of [(0,(.data .ya t0)),(1,(.data .ya t1)),(2,.nilS),(3,(.bptr 0 [])),(4,(.bptr 1 [])),(5,(.bptr 2 [])),(6,(.bptr 3 [])),(7,(.bptr 5 []))] [.cell (.data .yf o0),.cell (.data .yc o1),.cell (.data .ya o2),.cell (.ref 4 [] 0),.row .ya o4 0,.cell (.clos 43 (.pr (.bptr 0 []) (.pr (.bptr 1 []) (.pr (.bptr 2 []) (.pr (.bptr 3 []) (.pr (.bptr 5 []) .un))))))])=zli N t0 t1 o0 o1 o2 o4:=by kernel_rfl
theorem k43v3 (N:Nat):z04 Go.Proofs.Tryz.prog 43 (c43v3 N):=
 z2a (fn:=Go.Proofs.Tryz.f43) (body:=zs3) (c:=zs7 N) (rs:=[]) Go.Proofs.Tryz.func43 (by kernel_rfl) (by kernel_rfl) ⟨ttL_ok,z0k,z0m,z0n,z0l,z02 (z01 (k44 N)) (z02 (z01 (k45 N)) (z02 (z01 (k46 N)) (z02 (z01 (k43v2 N)) (z09))))⟩ mixed (by kernel_rfl) (zL (by kernel_rfl)) (by kernel_rfl) (by kernel_rfl) (by kernel_rfl) (z2o (by kernel_rfl))
  (z06 (by kernel_rfl:z00 zs3=[z03 6 (z00 zs3)]) (.cons (l43v3_6 N) .nil)) fun d=>e43v3 N d.1.1 d.1.2.1 d.2.1 d.2.2.1 d.2.2.2.1 d.2.2.2.2.2.1
def zq3 {R:Type} (N:Nat) (t27:Int) (kb:Int×Yd×List Ya×Int×List Int->Option R) (kx0:Ya->Int->Option R):Int×Yd×List Ya×Int×List Int->Option R:=
 fun (t28,o1,o2,o3,o5)=>
  cond (decide (t28 < t27))
   ((zli N t28 0 o1 o2 o3 o5).bind fun r_1=>
   kb ((z0g (t28+1)),r_1.2.1,r_1.2.2.1,r_1.2.2.2.1,r_1.2.2.2.2.2.1))
   (kx0 o5 o3)
def f18 (N:Nat) (a0:Yd) (a1:List Ya) (a2:Int):Option (Int×List Int×Int):=
 (f37 N a0 a1 a2).bind fun r=>
 cond (!(decide (r=0)))
  (some (0,(([]:List Int),r)))
  (iter (fun w=>zq3 N (z0g ((zxc a2 (len a0.2.1))+1)) w
   (fun o1_1 o2_1=>
    some (o2_1,(o1_1,0)))) N (0,a0,a1,(-1),([]:List Int)))
def c18 (N:Nat):Callee:=.pure (.pr (.val .yf) (.pr (.val .yc) (.pr (.val .ya) .un))) [.ya,.yi,.ya] fun d=>f18 N d.1 d.2.1 d.2.2.1
def F18_8:SForm:=⟨[(28,(.val .ya)),(12,(.bptr 0 [])),(11,(.bptr 4 [])),(10,(.bptr 3 [])),(27,(.val .ya))],[.cell (.clos 43 (.pr (.bptr 1 []) (.pr (.bptr 2 []) (.pr (.bptr 3 []) (.pr (.bptr 4 []) (.pr (.bptr 0 []) .un)))))),.cell (.val .yf),.cell (.val .yc),.cell (.val .ya),.cell (.ref 5),.row .ya]⟩
def G18_8 (N:Nat):(R:Type)->F18_8.den->(AExit->St->Option R)->Option R:=fun R d k=>iter (fun kb=>zq3 N d.1.2.2.2.2.1 kb
  (fun y0 y1=>k (.exit 0) (St.of [(11,(.bptr 0 [])),(10,(.bptr 2 []))] [.cell (.ref 1 [] 0),.row .ya y0 0,.cell (.data .ya y1)]))) N (d.1.1,d.2.2.1,d.2.2.2.1,d.2.2.2.2.1,d.2.2.2.2.2.2.1)
def lp18 (N:Nat):Nat->Option z0h:=fun r=>cond (Nat.beq r 8) (some fun R sl os k=>F18_8.take sl os fun d=>G18_8 N R d k) (none)
def x18 (N:Nat):Ctx:=(mkX N 37 [(37,[c37 N]),(43,[c43v3 N])] [(8,⟨[28,12,11,10,27],[(11,some [],.row .ya)]⟩)] [(8,[(0,⟨[11,10],[]⟩)])] ⟨[6,7,8],[]⟩ (fun _=>none) (lp18 N))
noncomputable def b18:Code:=((Go.Proofs.Tryz.f18).body).getD .skip
theorem s18_8 (N:Nat) {R:Type} (k:AExit->St->Option R) (t27:Int) (kb:List Yo->List Obj->Option R) (x:Int×Yd×List Ya×Int×List Int):z0q (x18 N) (z03 8 (z00 b18)) (St.of [(28,(.data .ya x.1)),(12,(.bptr 0 [])),(11,(.bptr 4 [])),(10,(.bptr 3 [])),(27,(.data .ya t27))] [.cell (.clos 43 (.pr (.bptr 1 []) (.pr (.bptr 2 []) (.pr (.bptr 3 []) (.pr (.bptr 4 []) (.pr (.bptr 0 []) .un)))))),.cell (.data .yf x.2.1),.cell (.data .yc x.2.2.1),.cell (.data .ya x.2.2.2.1),.cell (.ref 5 [] 0),.row .ya x.2.2.2.2 0]) (z12 (x18 N) 8 ⟨[28,12,11,10,27],[(11,some [],.row .ya)]⟩ kb k)=zq3 N t27 (fun y=>kb [(28,(.data .ya y.1)),(12,(.bptr 0 [])),(11,(.bptr 4 [])),(10,(.bptr 3 [])),(27,(.data .ya t27))] [.cell (.clos 43 (.pr (.bptr 1 []) (.pr (.bptr 2 []) (.pr (.bptr 3 []) (.pr (.bptr 4 []) (.pr (.bptr 0 []) .un)))))),.cell (.data .yf y.2.1),.cell (.data .yc y.2.2.1),.cell (.data .ya y.2.2.2.1),.cell (.ref 5 [] 0),.row .ya y.2.2.2.2 0])
  (fun y0 y1=>k (.exit 0) (St.of [(11,(.bptr 0 [])),(10,(.bptr 2 []))] [.cell (.ref 1 [] 0),.row .ya y0 0,.cell (.data .ya y1)])) x:=by kernel_rfl
theorem l18_8 (N:Nat):z0f (x18 N) (z03 8 (z00 b18)):=
 z0b (G18_8 N) (by kernel_rfl) (by kernel_rfl) (by kernel_rfl) fun R k d=>
  z0a (st:=fun (x:Int×Yd×List Ya×Int×List Int)=>([(28,(.data .ya x.1)),(12,(.bptr 0 [])),(11,(.bptr 4 [])),(10,(.bptr 3 [])),(27,(.data .ya d.1.2.2.2.2.1))],[.cell (.clos 43 (.pr (.bptr 1 []) (.pr (.bptr 2 []) (.pr (.bptr 3 []) (.pr (.bptr 4 []) (.pr (.bptr 0 []) .un)))))),.cell (.data .yf x.2.1),.cell (.data .yc x.2.2.1),.cell (.data .ya x.2.2.2.1),.cell (.ref 5 [] 0),.row .ya x.2.2.2.2 0])) (s18_8 N k d.1.2.2.2.2.1) N (d.1.1,d.2.2.1,d.2.2.2.1,d.2.2.2.2.1,d.2.2.2.2.2.2.1)
theorem e18 (N:Nat) (a0:Yd) (a1:List Ya) (a2:Int):z1g (x18 N) [.ya,.yi,.ya] [.tmp 6,.tmp 7,.tmp 8] b18 (entry (.pr (.val .yf) (.pr (.val .yc) (.pr (.val .ya) .un))) (a0,(a1,(a2,()))))=f18 N a0 a1 a2:=by kernel_rfl
theorem k18 (N:Nat):z04 Go.Proofs.Tryz.prog 18 (c18 N):=
 z1h (fn:=Go.Proofs.Tryz.f18) (body:=b18) (c:=x18 N) Go.Proofs.Tryz.func18 (by kernel_rfl) (by kernel_rfl) ⟨ttL_ok,z0k,z0m,z0n,z0l,z02 (z01 (k37 N)) (z02 (z01 (k43v3 N)) (z09))⟩ mixed (by kernel_rfl) (zL (by kernel_rfl)) (by kernel_rfl) (by decide)
  (z06 (by kernel_rfl:z00 b18=[z03 8 (z00 b18)]) (.cons (l18_8 N) .nil)) fun d=>e18 N d.1 d.2.1 d.2.2.1
def zq4 {R:Type} (N:Nat) (t1:List Int) (t0:List Int) (t12:Int) (kb:Int->Option R) (kret:Bool->Option R) (kx0:Unit->Option R):Int->Option R:=
 fun t13=>
  cond (decide (t13 < t12))
   ((idx t0 t13).bind fun x=>
   (idx t1 t13).bind fun x_1=>
   cond (!(decide (x=x_1)))
    (kret false)
    (kb (z0g (t13+1))))
   (kx0 ())
def f13 (N:Nat) (a0:List Int) (a1:List Int):Option (Bool):=
 cond (!(decide ((len a0)=(len a1))))
  (some false)
  (iter (fun w=>zq4 N a1 a0 (len a0) w
   (fun t4=>
    some t4)
   (fun (_:Unit)=>
    some true)) N 0)
def c13 (N:Nat):Callee:=.pure (.pr (.val .yb) (.pr (.val .yb) .un)) [.bool] fun d=>f13 N d.1 d.2.1
def F13_4:SForm:=⟨[(13,(.val .ya)),(1,(.val .yb)),(0,(.val .yb)),(12,(.val .ya))],[]⟩
def G13_4 (N:Nat):(R:Type)->F13_4.den->(AExit->St->Option R)->Option R:=fun R d k=>iter (fun kb=>zq4 N d.1.2.1 d.1.2.2.1 d.1.2.2.2.1 kb
  (fun y0=>k .ret (St.of [(4,(.data .bool y0))] []))
  (fun _=>k (.exit 0) (St.of [] []))) N d.1.1
def lp13 (N:Nat):Nat->Option z0h:=fun r=>cond (Nat.beq r 4) (some fun R sl os k=>F13_4.take sl os fun d=>G13_4 N R d k) (none)
def x13 (N:Nat):Ctx:=(mkX N 26 [] [(4,⟨[13,1,0,12],[]⟩)] [(4,[(0,⟨[],[]⟩)])] ⟨[4],[]⟩ (fun _=>none) (lp13 N))
noncomputable def b13:Code:=((Go.Proofs.Tryz.f13).body).getD .skip
theorem s13_4 (N:Nat) {R:Type} (k:AExit->St->Option R) (t1:List Int) (t0:List Int) (t12:Int) (kb:List Yo->List Obj->Option R) (x:Int):z0q (x13 N) (z03 4 (z00 b13)) (St.of [(13,(.data .ya x)),(1,(.data .yb t1)),(0,(.data .yb t0)),(12,(.data .ya t12))] []) (z12 (x13 N) 4 ⟨[13,1,0,12],[]⟩ kb k)=zq4 N t1 t0 t12 (fun y=>kb [(13,(.data .ya y)),(1,(.data .yb t1)),(0,(.data .yb t0)),(12,(.data .ya t12))] [])
  (fun y0=>k .ret (St.of [(4,(.data .bool y0))] []))
  (fun _=>k (.exit 0) (St.of [] [])) x:=by kernel_rfl
theorem l13_4 (N:Nat):z0f (x13 N) (z03 4 (z00 b13)):=
 z0b (G13_4 N) (by kernel_rfl) (by kernel_rfl) (by kernel_rfl) fun R k d=>
  z0a (st:=fun (x:Int)=>([(13,(.data .ya x)),(1,(.data .yb d.1.2.1)),(0,(.data .yb d.1.2.2.1)),(12,(.data .ya d.1.2.2.2.1))],[])) (s13_4 N k d.1.2.1 d.1.2.2.1 d.1.2.2.2.1) N d.1.1
theorem e13 (N:Nat) (a0:List Int) (a1:List Int):z1g (x13 N) [.bool] [.tmp 4] b13 (entry (.pr (.val .yb) (.pr (.val .yb) .un)) (a0,(a1,())))=f13 N a0 a1:=by kernel_rfl
theorem k13 (N:Nat):z04 Go.Proofs.Tryz.prog 13 (c13 N):=
 z1h (fn:=Go.Proofs.Tryz.f13) (body:=b13) (c:=x13 N) Go.Proofs.Tryz.func13 (by kernel_rfl) (by kernel_rfl) ⟨ttL_ok,z0k,z0m,z0n,z0l,z09⟩ mixed (by kernel_rfl) (zL (by kernel_rfl)) (by kernel_rfl) (by decide)
  (z06 (by kernel_rfl:z00 b13=[z03 4 (z00 b13)]) (.cons (l13_4 N) .nil)) fun d=>e13 N d.1 d.2.1
def f48 (N:Nat) (a0:Yk) (a1:Yk):Option (Bool):=
 (cond (decide (a0.1=a1.1))
   ((f13 N a0.2.1 a1.2.1).bind fun r=>
   some r)
   (some false)).bind fun b=>
 some b
def c48 (N:Nat):Callee:=.pure (.pr (.val .yk) (.pr (.val .yk) .un)) [.bool] fun d=>f48 N d.1 d.2.1
def lp48 (N:Nat):Nat->Option z0h:=fun r=>none
def x48 (N:Nat):Ctx:=(mkX N 17 [(13,[c13 N])] [] [] ⟨[4],[]⟩ (fun _=>none) (lp48 N))
noncomputable def b48:Code:=((Go.Proofs.Tryz.f48).body).getD .skip
theorem e48 (N:Nat) (a0:Yk) (a1:Yk):z1g (x48 N) [.bool] [.tmp 4] b48 (entry (.pr (.val .yk) (.pr (.val .yk) .un)) (a0,(a1,())))=f48 N a0 a1:=by kernel_rfl
theorem k48 (N:Nat):z04 Go.Proofs.Tryz.prog 48 (c48 N):=
 z1h (fn:=Go.Proofs.Tryz.f48) (body:=b48) (c:=x48 N) Go.Proofs.Tryz.func48 (by kernel_rfl) (by kernel_rfl) ⟨ttL_ok,z0k,z0m,z0n,z0l,z02 (z01 (k13 N)) (z09)⟩ mixed (by kernel_rfl) (zL (by kernel_rfl)) (by kernel_rfl) (by decide)
  (z06 (by kernel_rfl:z00 b48=[]) .nil) fun d=>e48 N d.1 d.2.1
def zum {R:Type} (N:Nat) (t2:Unit) (t1:List Yk) (t15:List Yk) (t16:Int) (kb:Int->Option R) (kret:Bool->Option R) (kx0:Unit->Option R):Int->Option R:=
 fun t17=>
  cond (decide (t17 < t16))
   ((idx t15 t17).bind fun x=>
   (idx t1 t17).bind fun x_1=>
   (f48 N x x_1).bind fun r=>
   cond (!r)
    (kret false)
    (kb (z0g (t17+1))))
   (kx0 ())
def f47 (N:Nat) (a0:List Yk) (a1:List Yk) (a2:Unit):Option (Bool):=
 cond (!(decide ((len a0)=(len a1))))
  (some false)
  (iter (fun w=>zum N a2 a1 a0 (len a0) w
   (fun t6=>
    some t6)
   (fun (_:Unit)=>
    some true)) N 0)
def c47 (N:Nat):Callee:=.pure (.pr (.val .ym) (.pr (.val .ym) (.pr (.val (.fn 48 .unit)) .un))) [.bool] fun d=>f47 N d.1 d.2.1 d.2.2.1
def F47_4:SForm:=⟨[(17,(.val .ya)),(2,(.val (.fn 48 .unit))),(1,(.val .ym)),(15,(.val .ym)),(16,(.val .ya))],[]⟩
def G47_4 (N:Nat):(R:Type)->F47_4.den->(AExit->St->Option R)->Option R:=fun R d k=>iter (fun kb=>zum N d.1.2.1 d.1.2.2.1 d.1.2.2.2.1 d.1.2.2.2.2.1 kb
  (fun y0=>k .ret (St.of [(6,(.data .bool y0))] []))
  (fun _=>k (.exit 0) (St.of [] []))) N d.1.1
def lp47 (N:Nat):Nat->Option z0h:=fun r=>cond (Nat.beq r 4) (some fun R sl os k=>F47_4.take sl os fun d=>G47_4 N R d k) (none)
def x47 (N:Nat):Ctx:=(mkX N 32 [(48,[c48 N])] [(4,⟨[17,2,1,15,16],[]⟩)] [(4,[(0,⟨[],[]⟩)])] ⟨[6],[]⟩ (fun _=>none) (lp47 N))
noncomputable def b47:Code:=((Go.Proofs.Tryz.f47).body).getD .skip
theorem s47_4 (N:Nat) {R:Type} (k:AExit->St->Option R) (t2:Unit) (t1:List Yk) (t15:List Yk) (t16:Int) (kb:List Yo->List Obj->Option R) (x:Int):z0q (x47 N) (z03 4 (z00 b47)) (St.of [(17,(.data .ya x)),(2,(.data (.fn 48 .unit) t2)),(1,(.data .ym t1)),(15,(.data .ym t15)),(16,(.data .ya t16))] []) (z12 (x47 N) 4 ⟨[17,2,1,15,16],[]⟩ kb k)=zum N t2 t1 t15 t16 (fun y=>kb [(17,(.data .ya y)),(2,(.data (.fn 48 .unit) t2)),(1,(.data .ym t1)),(15,(.data .ym t15)),(16,(.data .ya t16))] [])
  (fun y0=>k .ret (St.of [(6,(.data .bool y0))] []))
  (fun _=>k (.exit 0) (St.of [] [])) x:=by kernel_rfl
theorem l47_4 (N:Nat):z0f (x47 N) (z03 4 (z00 b47)):=
 z0b (G47_4 N) (by kernel_rfl) (by kernel_rfl) (by kernel_rfl) fun R k d=>
  z0a (st:=fun (x:Int)=>([(17,(.data .ya x)),(2,(.data (.fn 48 .unit) d.1.2.1)),(1,(.data .ym d.1.2.2.1)),(15,(.data .ym d.1.2.2.2.1)),(16,(.data .ya d.1.2.2.2.2.1))],[])) (s47_4 N k d.1.2.1 d.1.2.2.1 d.1.2.2.2.1 d.1.2.2.2.2.1) N d.1.1
theorem e47 (N:Nat) (a0:List Yk) (a1:List Yk) (a2:Unit):z1g (x47 N) [.bool] [.tmp 6] b47 (entry (.pr (.val .ym) (.pr (.val .ym) (.pr (.val (.fn 48 .unit)) .un))) (a0,(a1,(a2,()))))=f47 N a0 a1 a2:=by kernel_rfl
theorem k47 (N:Nat):z04 Go.Proofs.Tryz.prog 47 (c47 N):=
 z1h (fn:=Go.Proofs.Tryz.f47) (body:=b47) (c:=x47 N) Go.Proofs.Tryz.func47 (by kernel_rfl) (by kernel_rfl) ⟨ttL_ok,z0k,z0m,z0n,z0l,z02 (z01 (k48 N)) (z09)⟩ mixed (by kernel_rfl) (zL (by kernel_rfl)) (by kernel_rfl) (by decide)
  (z06 (by kernel_rfl:z00 b47=[z03 4 (z00 b47)]) (.cons (l47_4 N) .nil)) fun d=>e47 N d.1 d.2.1 d.2.2.1
def f19 (N:Nat) (a0:List Yk) (a1:List Yk):Option (Bool):=
 (f47 N a0 a1 ()).bind fun r=>
 some r
def c19 (N:Nat):Callee:=.pure (.pr (.val .ym) (.pr (.val .ym) .un)) [.bool] fun d=>f19 N d.1 d.2.1
def lp19 (N:Nat):Nat->Option z0h:=fun r=>none
def x19 (N:Nat):Ctx:=(mkX N 8 [(47,[c47 N])] [] [] ⟨[4],[]⟩ (fun _=>none) (lp19 N))
noncomputable def b19:Code:=((Go.Proofs.Tryz.f19).body).getD .skip
theorem e19 (N:Nat) (a0:List Yk) (a1:List Yk):z1g (x19 N) [.bool] [.tmp 4] b19 (entry (.pr (.val .ym) (.pr (.val .ym) .un)) (a0,(a1,())))=f19 N a0 a1:=by kernel_rfl
theorem k19 (N:Nat):z04 Go.Proofs.Tryz.prog 19 (c19 N):=
 z1h (fn:=Go.Proofs.Tryz.f19) (body:=b19) (c:=x19 N) Go.Proofs.Tryz.func19 (by kernel_rfl) (by kernel_rfl) ⟨ttL_ok,z0k,z0m,z0n,z0l,z02 (z01 (k47 N)) (z09)⟩ mixed (by kernel_rfl) (zL (by kernel_rfl)) (by kernel_rfl) (by decide)
  (z06 (by kernel_rfl:z00 b19=[]) .nil) fun d=>e19 N d.1 d.2.1
def zui {R:Type} (N:Nat) (t15_1:List Ya) (t16_1:Int) (t17_1:Int) (t25:Int) (o0_2:List Yi) (o1_1:Yw) (o2:List Int) (kb:Int×Int->Option R) (kret:Bool->Option R) (kx2:Int->Option R):Int×Int->Option R:=
 fun (t26,t9)=>
  cond (decide (t26 < t25))
   (chk (inb o2 t26) <|
   (idx o2 t26).bind fun x_1=>
   cond (decide (x_1=0))
    (kb ((z0g (t26+1)),t9))
    (cond (!(Option.isSome (z80 (eqD .yg) o0_2 (x_1,((z0g (o1_1.2.1-1)),())))))
     (kret false)
     (kb ((z0g (t26+1)),(z0g (t9+(Option.getD (z80 (eqD .yg) o0_2 (x_1,((z0g (o1_1.2.1-1)),()))) 0)))))))
   (kx2 t9)
def zuj {R:Type} (N:Nat) (t15:List Ya) (t16:Int) (o0_1:List Yi) (o1:Yw) (kb:Int->Option R) (kret:Bool->Option R) (kx0:Unit->Option R):Int->Option R:=
 fun t17=>
  cond (decide (t17 < t16))
   ((idx t15 t17).bind fun x=>
   (f55 N x o1.1).bind fun r=>
   iter (fun w=>zui N t15 t16 t17 (len r) o0_1 o1 r w
    (fun t6=>
     kret t6)
    (fun t9_1=>
     cond (decide (o1.2.2.1 < t9_1))
      (kret false)
      (kb (z0g (t17+1))))) N (0,0))
   (kx0 ())
def f51 (N:Nat) (t0:Yd) (t2:Yw) (o0:List Yi):Option ((Yae×Yt)):=
 iter (fun w=>zuj N t0.2.1 (len t0.2.1) o0 t2 w
  (fun t6_1=>
   some (((),(t6_1,())),(o0,())))
  (fun (_:Unit)=>
   some (((),(true,())),(o0,())))) N 0
def fi51:SForm:=⟨[(0,(.val .yf)),(1,(.mref 0)),(2,(.val .yp))],[.map .yg .ya]⟩
def fo51:SForm:=⟨[(1,(.mref 0)),(6,(.val .bool))],[.map .yg .ya]⟩
def c51 (N:Nat):Callee:=.mut fi51 [1] fo51 fun d=>f51 N d.1.1 d.1.2.2.1 d.2.1
def F51_6:SForm:=⟨[(26,(.val .ya)),(1,(.mref 0)),(9,(.val .ya)),(5,(.bptr 1 [])),(24,(.ref 2)),(15,(.val .yc)),(16,(.val .ya)),(17,(.val .ya)),(25,(.val .ya))],[.map .yg .ya,.cell (.val .yp),.row .ya]⟩
def G51_6 (N:Nat):(R:Type)->F51_6.den->(AExit->St->Option R)->Option R:=fun R d k=>iter (fun kb=>zui N d.1.2.2.2.2.2.1 d.1.2.2.2.2.2.2.1 d.1.2.2.2.2.2.2.2.1 d.1.2.2.2.2.2.2.2.2.1 d.2.1 d.2.2.1 d.2.2.2.1 kb
  (fun y0=>k .ret (St.of [(1,(.mref 0)),(6,(.data .bool y0))] [.map .yg .ya d.2.1]))
  (fun y3=>k (.exit 2) (St.of [(1,(.mref 0)),(5,(.bptr 1 [])),(15,(.data .yc d.1.2.2.2.2.2.1)),(16,(.data .ya d.1.2.2.2.2.2.2.1)),(17,(.data .ya d.1.2.2.2.2.2.2.2.1)),(9,(.data .ya y3))] [.map .yg .ya d.2.1,.cell (.data .yp d.2.2.1)]))) N (d.1.1,d.1.2.2.1)
def F51_2:SForm:=⟨[(1,(.mref 0)),(5,(.bptr 1 [])),(17,(.val .ya)),(15,(.val .yc)),(16,(.val .ya))],[.map .yg .ya,.cell (.val .yp)]⟩
def G51_2 (N:Nat):(R:Type)->F51_2.den->(AExit->St->Option R)->Option R:=fun R d k=>iter (fun kb=>zuj N d.1.2.2.2.1 d.1.2.2.2.2.1 d.2.1 d.2.2.1 kb
  (fun y0=>k .ret (St.of [(1,(.mref 0)),(6,(.data .bool y0))] [.map .yg .ya d.2.1]))
  (fun _=>k (.exit 0) (St.of [(1,(.mref 0))] [.map .yg .ya d.2.1]))) N d.1.2.2.1
def lp51 (N:Nat):Nat->Option z0h:=fun r=>cond (Nat.beq r 6) (some fun R sl os k=>F51_6.take sl os fun d=>G51_6 N R d k) (cond (Nat.beq r 2) (some fun R sl os k=>F51_2.take sl os fun d=>G51_2 N R d k) (none))
def x51 (N:Nat):Ctx:=(mkX N 53 [(55,[c55 N])] [(2,⟨[1,5,17,15,16],[]⟩),(6,⟨[26,1,9,5,24,15,16,17,25],[]⟩)] [(2,[(0,⟨[1],[]⟩)]),(6,[(2,⟨[1,5,15,16,17,9],[]⟩)])] ⟨[1,6],[]⟩ (fun _=>none) (lp51 N))
noncomputable def b51:Code:=((Go.Proofs.Tryz.f51).body).getD .skip
theorem s51_6 (N:Nat) {R:Type} (k:AExit->St->Option R) (t15_1:List Ya) (t16_1:Int) (t17_1:Int) (t25:Int) (o0_2:List Yi) (o1_1:Yw) (o2:List Int) (kb:List Yo->List Obj->Option R) (x:Int×Int):z0q (x51 N) (z03 6 (z00 b51)) (St.of [(26,(.data .ya x.1)),(1,(.mref 0)),(9,(.data .ya x.2)),(5,(.bptr 1 [])),(24,(.ref 2 [] 0)),(15,(.data .yc t15_1)),(16,(.data .ya t16_1)),(17,(.data .ya t17_1)),(25,(.data .ya t25))] [.map .yg .ya o0_2,.cell (.data .yp o1_1),.row .ya o2 0]) (z12 (x51 N) 6 ⟨[26,1,9,5,24,15,16,17,25],[]⟩ kb k)=zui N t15_1 t16_1 t17_1 t25 o0_2 o1_1 o2 (fun y=>kb [(26,(.data .ya y.1)),(1,(.mref 0)),(9,(.data .ya y.2)),(5,(.bptr 1 [])),(24,(.ref 2 [] 0)),(15,(.data .yc t15_1)),(16,(.data .ya t16_1)),(17,(.data .ya t17_1)),(25,(.data .ya t25))] [.map .yg .ya o0_2,.cell (.data .yp o1_1),.row .ya o2 0])
  (fun y0=>k .ret (St.of [(1,(.mref 0)),(6,(.data .bool y0))] [.map .yg .ya o0_2]))
  (fun y3=>k (.exit 2) (St.of [(1,(.mref 0)),(5,(.bptr 1 [])),(15,(.data .yc t15_1)),(16,(.data .ya t16_1)),(17,(.data .ya t17_1)),(9,(.data .ya y3))] [.map .yg .ya o0_2,.cell (.data .yp o1_1)])) x:=by kernel_rfl
theorem l51_6 (N:Nat):z0f (x51 N) (z03 6 (z00 b51)):=
 z0b (G51_6 N) (by kernel_rfl) (by kernel_rfl) (by kernel_rfl) fun R k d=>
  z0a (st:=fun (x:Int×Int)=>([(26,(.data .ya x.1)),(1,(.mref 0)),(9,(.data .ya x.2)),(5,(.bptr 1 [])),(24,(.ref 2 [] 0)),(15,(.data .yc d.1.2.2.2.2.2.1)),(16,(.data .ya d.1.2.2.2.2.2.2.1)),(17,(.data .ya d.1.2.2.2.2.2.2.2.1)),(25,(.data .ya d.1.2.2.2.2.2.2.2.2.1))],[.map .yg .ya d.2.1,.cell (.data .yp d.2.2.1),.row .ya d.2.2.2.1 0])) (s51_6 N k d.1.2.2.2.2.2.1 d.1.2.2.2.2.2.2.1 d.1.2.2.2.2.2.2.2.1 d.1.2.2.2.2.2.2.2.2.1 d.2.1 d.2.2.1 d.2.2.2.1) N (d.1.1,d.1.2.2.1)
theorem s51_2 (N:Nat) {R:Type} (k:AExit->St->Option R) (t15:List Ya) (t16:Int) (o0_1:List Yi) (o1:Yw) (kb:List Yo->List Obj->Option R) (x:Int):z0q (x51 N) (z03 2 (z00 b51)) (St.of [(1,(.mref 0)),(5,(.bptr 1 [])),(17,(.data .ya x)),(15,(.data .yc t15)),(16,(.data .ya t16))] [.map .yg .ya o0_1,.cell (.data .yp o1)]) (z12 (x51 N) 2 ⟨[1,5,17,15,16],[]⟩ kb k)=zuj N t15 t16 o0_1 o1 (fun y=>kb [(1,(.mref 0)),(5,(.bptr 1 [])),(17,(.data .ya y)),(15,(.data .yc t15)),(16,(.data .ya t16))] [.map .yg .ya o0_1,.cell (.data .yp o1)])
  (fun y0=>k .ret (St.of [(1,(.mref 0)),(6,(.data .bool y0))] [.map .yg .ya o0_1]))
  (fun _=>k (.exit 0) (St.of [(1,(.mref 0))] [.map .yg .ya o0_1])) x:=by kernel_rfl
theorem l51_2 (N:Nat):z0f (x51 N) (z03 2 (z00 b51)):=
 z0b (G51_2 N) (by kernel_rfl) (by kernel_rfl) (by kernel_rfl) fun R k d=>
  z0a (st:=fun (x:Int)=>([(1,(.mref 0)),(5,(.bptr 1 [])),(17,(.data .ya x)),(15,(.data .yc d.1.2.2.2.1)),(16,(.data .ya d.1.2.2.2.2.1))],[.map .yg .ya d.2.1,.cell (.data .yp d.2.2.1)])) (s51_2 N k d.1.2.2.2.1 d.1.2.2.2.2.1 d.2.1 d.2.2.1) N d.1.2.2.1
theorem e51 (N:Nat) (t0:Yd) (t2:Yw) (o0:List Yi):z9m (x51 N) fo51 b51 (St.of [(0,(.data .yf t0)),(1,(.mref 0)),(2,(.data .yp t2))] [.map .yg .ya o0])=f51 N t0 t2 o0:=by kernel_rfl
theorem k51 (N:Nat):z04 Go.Proofs.Tryz.prog 51 (c51 N):=
 z2a (fn:=Go.Proofs.Tryz.f51) (body:=b51) (c:=x51 N) (rs:=[6]) Go.Proofs.Tryz.func51 (by kernel_rfl) (by kernel_rfl) ⟨ttL_ok,z0k,z0m,z0n,z0l,z02 (z01 (k55 N)) (z09)⟩ mixed (by kernel_rfl) (zL (by kernel_rfl)) (by kernel_rfl) (by kernel_rfl) (by kernel_rfl) (z2o (by kernel_rfl))
  (z06 (by kernel_rfl:z00 b51=[z03 2 (z00 b51),z03 6 (z00 b51)]) (.cons (l51_2 N) (.cons (l51_6 N) .nil))) fun d=>e51 N d.1.1 d.1.2.2.1 d.2.1
def zuu {R:Type} (N:Nat) (t3:List Yw) (t1:List Ya) (t4:Int) (t2:Int) (t31:Int) (o0:Yd) (kb:Int->Option R) (kret:Int->Option R) (kx0:Unit->Option R):Int->Option R:=
 fun t32=>
  cond (decide (t32 < t31))
   ((cond (decide (0 < t32))
     ((idx t3 (z0g (t32-1))).bind fun x=>
     (idx t3 t32).bind fun x_1=>
     (f49 N x x_1).bind fun r_1=>
     some (decide (0≤r_1)))
     (some false)).bind fun b=>
   cond b
    (kret 10)
    (kb (z0g (t32+1))))
   (kx0 ())
def zo7 {R:Type} (N:Nat) (t1_1:List Ya) (t52:List Yw) (t4_1:Int) (t2_1:Int) (t3_1:List Yw) (t53:Int) (o1:Yd) (kb:Int×Yj->Option R) (kret:Int->Option R) (kx2:Yj->Option R):Int×Yj->Option R:=
 fun (t54,o0_1)=>
  cond (decide (t54 < t53))
   ((idx t52 t54).bind fun x_2=>
   (cond (decide (x_2.2.1 < 0))
     (some true)
     (some (decide (x_2.1 < 1)))).bind fun b_1=>
   (cond b_1
     (some true)
     ((f24 N o1).bind fun r_2=>
     some (decide (r_2 < x_2.1)))).bind fun b_2=>
   (cond b_2
     (some true)
     ((f50 N t1_1 x_2.1).bind fun r_3=>
     some (decide (x_2.2.2.1 < r_3)))).bind fun b_3=>
   (cond b_3
     (some true)
     (some (decide (1099511627776 < x_2.2.2.1)))).bind fun b_4=>
   cond b_4
    (kret 13)
    (kb ((z0g (t54+1)),(zb1 (eqD .yg) o0_1 (x_2.1,(x_2.2.1,())) x_2.2.2.1))))
   (kx2 o0_1)
def zo6 {R:Type} (N:Nat) (t96:List Yw) (t4_2:Int) (t2_2:Int) (t97:Int) (o1_1:Yd) (kb:Int×Yj->Option R) (kret:Int->Option R) (kx4:Yj->Option R):Int×Yj->Option R:=
 fun (t98,o0_3)=>
  cond (decide (t98 < t97))
   ((idx t96 t98).bind fun x_3=>
   cond (decide (0 < x_3.2.1))
    ((f51 N o1_1 x_3 o0_3).bind fun r_4=>
    cond (!r_4.1.2.1)
     (kret 13)
     (kb ((z0g (t98+1)),r_4.2.1)))
    (kb ((z0g (t98+1)),o0_3)))
   (kx4 o0_3)
def f20 (N:Nat) (a0:Yd) (a1:List Ya) (a2:Int) (a3:List Yw) (a4:Int):Option (Int):=
 (f37 N a0 a1 a2).bind fun r=>
 cond (!(decide (r=0)))
  (some r)
  (cond (decide (4096 < (len a3)))
   (some 4)
   (iter (fun w=>zuu N a3 a1 a4 a2 (len a3) a0 w
    (fun t10=>
     some t10)
    (fun (_:Unit)=>
     iter (fun w=>zo7 N a1 a3 a4 a2 a3 (len a3) a0 w
      (fun t10_1=>
       some t10_1)
      (fun o0_2=>
       iter (fun w=>zo6 N a3 a4 a2 (len a3) a0 w
        (fun t10_2=>
         some t10_2)
        (fun o1_2=>
         (f24 N a0).bind fun r_5=>
         (cond (!(Option.isSome (z80 (eqD .yg) o1_2 (r_5,(a2,())))))
           (some true)
           (some (decide (a4 < (Option.getD (z80 (eqD .yg) o1_2 (r_5,(a2,()))) 0))))).bind fun b_5=>
         cond b_5
          (some 13)
          (some 0))) N (0,o0_2))) N (0,([]:List Yi)))) N 0))
def c20 (N:Nat):Callee:=.pure (.pr (.val .yf) (.pr (.val .yc) (.pr (.val .ya) (.pr (.val .yq) (.pr (.val .ya) .un))))) [.ya] fun d=>f20 N d.1 d.2.1 d.2.2.1 d.2.2.2.1 d.2.2.2.2.1
def F20_7:SForm:=⟨[(32,(.val .ya)),(3,(.val .yq)),(1,(.val .yc)),(5,(.bptr 0 [])),(4,(.val .ya)),(2,(.val .ya)),(31,(.val .ya))],[.cell (.val .yf)]⟩
def G20_7 (N:Nat):(R:Type)->F20_7.den->(AExit->St->Option R)->Option R:=fun R d k=>iter (fun kb=>zuu N d.1.2.1 d.1.2.2.1 d.1.2.2.2.2.1 d.1.2.2.2.2.2.1 d.1.2.2.2.2.2.2.1 d.2.1 kb
  (fun y0=>k .ret (St.of [(10,(.data .ya y0))] []))
  (fun _=>k (.exit 0) (St.of [(1,(.data .yc d.1.2.2.1)),(5,(.bptr 0 [])),(4,(.data .ya d.1.2.2.2.2.1)),(2,(.data .ya d.1.2.2.2.2.2.1)),(3,(.data .yq d.1.2.1))] [.cell (.data .yf d.2.1)]))) N d.1.1
def F20_14:SForm:=⟨[(54,(.val .ya)),(13,(.mref 0)),(1,(.val .yc)),(5,(.bptr 1 [])),(52,(.val .yq)),(4,(.val .ya)),(2,(.val .ya)),(3,(.val .yq)),(53,(.val .ya))],[.map .yg .ya,.cell (.val .yf)]⟩
def G20_14 (N:Nat):(R:Type)->F20_14.den->(AExit->St->Option R)->Option R:=fun R d k=>iter (fun kb=>zo7 N d.1.2.2.1 d.1.2.2.2.2.1 d.1.2.2.2.2.2.1 d.1.2.2.2.2.2.2.1 d.1.2.2.2.2.2.2.2.1 d.1.2.2.2.2.2.2.2.2.1 d.2.2.1 kb
  (fun y0=>k .ret (St.of [(10,(.data .ya y0))] []))
  (fun y3=>k (.exit 2) (St.of [(13,(.mref 0)),(5,(.bptr 1 [])),(4,(.data .ya d.1.2.2.2.2.2.1)),(2,(.data .ya d.1.2.2.2.2.2.2.1)),(3,(.data .yq d.1.2.2.2.2.2.2.2.1))] [.map .yg .ya y3,.cell (.data .yf d.2.2.1)]))) N (d.1.1,d.2.1)
def F20_21:SForm:=⟨[(98,(.val .ya)),(13,(.mref 0)),(5,(.bptr 1 [])),(96,(.val .yq)),(4,(.val .ya)),(2,(.val .ya)),(97,(.val .ya))],[.map .yg .ya,.cell (.val .yf)]⟩
def G20_21 (N:Nat):(R:Type)->F20_21.den->(AExit->St->Option R)->Option R:=fun R d k=>iter (fun kb=>zo6 N d.1.2.2.2.1 d.1.2.2.2.2.1 d.1.2.2.2.2.2.1 d.1.2.2.2.2.2.2.1 d.2.2.1 kb
  (fun y0=>k .ret (St.of [(10,(.data .ya y0))] []))
  (fun y3=>k (.exit 4) (St.of [(4,(.data .ya d.1.2.2.2.2.1)),(2,(.data .ya d.1.2.2.2.2.2.1)),(5,(.bptr 0 [])),(13,(.mref 1))] [.cell (.data .yf d.2.2.1),.map .yg .ya y3]))) N (d.1.1,d.2.1)
def lp20 (N:Nat):Nat->Option z0h:=fun r=>cond (Nat.beq r 7) (some fun R sl os k=>F20_7.take sl os fun d=>G20_7 N R d k) (cond (Nat.beq r 14) (some fun R sl os k=>F20_14.take sl os fun d=>G20_14 N R d k) (cond (Nat.beq r 21) (some fun R sl os k=>F20_21.take sl os fun d=>G20_21 N R d k) (none)))
def x20 (N:Nat):Ctx:=(mkX N 129 [(37,[c37 N]),(49,[c49 N]),(24,[c24 N]),(50,[c50 N]),(51,[c51 N])] [(7,⟨[32,3,1,5,4,2,31],[]⟩),(14,⟨[54,13,1,5,52,4,2,3,53],[]⟩),(21,⟨[98,13,5,96,4,2,97],[]⟩)] [(7,[(0,⟨[1,5,4,2,3],[]⟩)]),(14,[(2,⟨[13,5,4,2,3],[]⟩)]),(21,[(4,⟨[4,2,5,13],[]⟩)])] ⟨[10],[]⟩ (fun _=>none) (lp20 N))
noncomputable def b20:Code:=((Go.Proofs.Tryz.f20).body).getD .skip
theorem s20_7 (N:Nat) {R:Type} (k:AExit->St->Option R) (t3:List Yw) (t1:List Ya) (t4:Int) (t2:Int) (t31:Int) (o0:Yd) (kb:List Yo->List Obj->Option R) (x:Int):z0q (x20 N) (z03 7 (z00 b20)) (St.of [(32,(.data .ya x)),(3,(.data .yq t3)),(1,(.data .yc t1)),(5,(.bptr 0 [])),(4,(.data .ya t4)),(2,(.data .ya t2)),(31,(.data .ya t31))] [.cell (.data .yf o0)]) (z12 (x20 N) 7 ⟨[32,3,1,5,4,2,31],[]⟩ kb k)=zuu N t3 t1 t4 t2 t31 o0 (fun y=>kb [(32,(.data .ya y)),(3,(.data .yq t3)),(1,(.data .yc t1)),(5,(.bptr 0 [])),(4,(.data .ya t4)),(2,(.data .ya t2)),(31,(.data .ya t31))] [.cell (.data .yf o0)])
  (fun y0=>k .ret (St.of [(10,(.data .ya y0))] []))
  (fun _=>k (.exit 0) (St.of [(1,(.data .yc t1)),(5,(.bptr 0 [])),(4,(.data .ya t4)),(2,(.data .ya t2)),(3,(.data .yq t3))] [.cell (.data .yf o0)])) x:=by kernel_rfl
theorem l20_7 (N:Nat):z0f (x20 N) (z03 7 (z00 b20)):=
 z0b (G20_7 N) (by kernel_rfl) (by kernel_rfl) (by kernel_rfl) fun R k d=>
  z0a (st:=fun (x:Int)=>([(32,(.data .ya x)),(3,(.data .yq d.1.2.1)),(1,(.data .yc d.1.2.2.1)),(5,(.bptr 0 [])),(4,(.data .ya d.1.2.2.2.2.1)),(2,(.data .ya d.1.2.2.2.2.2.1)),(31,(.data .ya d.1.2.2.2.2.2.2.1))],[.cell (.data .yf d.2.1)])) (s20_7 N k d.1.2.1 d.1.2.2.1 d.1.2.2.2.2.1 d.1.2.2.2.2.2.1 d.1.2.2.2.2.2.2.1 d.2.1) N d.1.1
theorem s20_14 (N:Nat) {R:Type} (k:AExit->St->Option R) (t1_1:List Ya) (t52:List Yw) (t4_1:Int) (t2_1:Int) (t3_1:List Yw) (t53:Int) (o1:Yd) (kb:List Yo->List Obj->Option R) (x:Int×Yj):z0q (x20 N) (z03 14 (z00 b20)) (St.of [(54,(.data .ya x.1)),(13,(.mref 0)),(1,(.data .yc t1_1)),(5,(.bptr 1 [])),(52,(.data .yq t52)),(4,(.data .ya t4_1)),(2,(.data .ya t2_1)),(3,(.data .yq t3_1)),(53,(.data .ya t53))] [.map .yg .ya x.2,.cell (.data .yf o1)]) (z12 (x20 N) 14 ⟨[54,13,1,5,52,4,2,3,53],[]⟩ kb k)=zo7 N t1_1 t52 t4_1 t2_1 t3_1 t53 o1 (fun y=>kb [(54,(.data .ya y.1)),(13,(.mref 0)),(1,(.data .yc t1_1)),(5,(.bptr 1 [])),(52,(.data .yq t52)),(4,(.data .ya t4_1)),(2,(.data .ya t2_1)),(3,(.data .yq t3_1)),(53,(.data .ya t53))] [.map .yg .ya y.2,.cell (.data .yf o1)])
  (fun y0=>k .ret (St.of [(10,(.data .ya y0))] []))
  (fun y3=>k (.exit 2) (St.of [(13,(.mref 0)),(5,(.bptr 1 [])),(4,(.data .ya t4_1)),(2,(.data .ya t2_1)),(3,(.data .yq t3_1))] [.map .yg .ya y3,.cell (.data .yf o1)])) x:=by kernel_rfl
theorem l20_14 (N:Nat):z0f (x20 N) (z03 14 (z00 b20)):=
 z0b (G20_14 N) (by kernel_rfl) (by kernel_rfl) (by kernel_rfl) fun R k d=>
  z0a (st:=fun (x:Int×Yj)=>([(54,(.data .ya x.1)),(13,(.mref 0)),(1,(.data .yc d.1.2.2.1)),(5,(.bptr 1 [])),(52,(.data .yq d.1.2.2.2.2.1)),(4,(.data .ya d.1.2.2.2.2.2.1)),(2,(.data .ya d.1.2.2.2.2.2.2.1)),(3,(.data .yq d.1.2.2.2.2.2.2.2.1)),(53,(.data .ya d.1.2.2.2.2.2.2.2.2.1))],[.map .yg .ya x.2,.cell (.data .yf d.2.2.1)])) (s20_14 N k d.1.2.2.1 d.1.2.2.2.2.1 d.1.2.2.2.2.2.1 d.1.2.2.2.2.2.2.1 d.1.2.2.2.2.2.2.2.1 d.1.2.2.2.2.2.2.2.2.1 d.2.2.1) N (d.1.1,d.2.1)
theorem s20_21 (N:Nat) {R:Type} (k:AExit->St->Option R) (t96:List Yw) (t4_2:Int) (t2_2:Int) (t97:Int) (o1_1:Yd) (kb:List Yo->List Obj->Option R) (x:Int×Yj):z0q (x20 N) (z03 21 (z00 b20)) (St.of [(98,(.data .ya x.1)),(13,(.mref 0)),(5,(.bptr 1 [])),(96,(.data .yq t96)),(4,(.data .ya t4_2)),(2,(.data .ya t2_2)),(97,(.data .ya t97))] [.map .yg .ya x.2,.cell (.data .yf o1_1)]) (z12 (x20 N) 21 ⟨[98,13,5,96,4,2,97],[]⟩ kb k)=zo6 N t96 t4_2 t2_2 t97 o1_1 (fun y=>kb [(98,(.data .ya y.1)),(13,(.mref 0)),(5,(.bptr 1 [])),(96,(.data .yq t96)),(4,(.data .ya t4_2)),(2,(.data .ya t2_2)),(97,(.data .ya t97))] [.map .yg .ya y.2,.cell (.data .yf o1_1)])
  (fun y0=>k .ret (St.of [(10,(.data .ya y0))] []))
  (fun y3=>k (.exit 4) (St.of [(4,(.data .ya t4_2)),(2,(.data .ya t2_2)),(5,(.bptr 0 [])),(13,(.mref 1))] [.cell (.data .yf o1_1),.map .yg .ya y3])) x:=by kernel_rfl
theorem l20_21 (N:Nat):z0f (x20 N) (z03 21 (z00 b20)):=
 z0b (G20_21 N) (by kernel_rfl) (by kernel_rfl) (by kernel_rfl) fun R k d=>
  z0a (st:=fun (x:Int×Yj)=>([(98,(.data .ya x.1)),(13,(.mref 0)),(5,(.bptr 1 [])),(96,(.data .yq d.1.2.2.2.1)),(4,(.data .ya d.1.2.2.2.2.1)),(2,(.data .ya d.1.2.2.2.2.2.1)),(97,(.data .ya d.1.2.2.2.2.2.2.1))],[.map .yg .ya x.2,.cell (.data .yf d.2.2.1)])) (s20_21 N k d.1.2.2.2.1 d.1.2.2.2.2.1 d.1.2.2.2.2.2.1 d.1.2.2.2.2.2.2.1 d.2.2.1) N (d.1.1,d.2.1)
theorem e20 (N:Nat) (a0:Yd) (a1:List Ya) (a2:Int) (a3:List Yw) (a4:Int):z1g (x20 N) [.ya] [.tmp 10] b20 (entry (.pr (.val .yf) (.pr (.val .yc) (.pr (.val .ya) (.pr (.val .yq) (.pr (.val .ya) .un))))) (a0,(a1,(a2,(a3,(a4,()))))))=f20 N a0 a1 a2 a3 a4:=by kernel_rfl
theorem k20 (N:Nat):z04 Go.Proofs.Tryz.prog 20 (c20 N):=
 z1h (fn:=Go.Proofs.Tryz.f20) (body:=b20) (c:=x20 N) Go.Proofs.Tryz.func20 (by kernel_rfl) (by kernel_rfl) ⟨ttL_ok,z0k,z0m,z0n,z0l,z02 (z01 (k37 N)) (z02 (z01 (k49 N)) (z02 (z01 (k24 N)) (z02 (z01 (k50 N)) (z02 (z01 (k51 N)) (z09)))))⟩ mixed (by kernel_rfl) (zL (by kernel_rfl)) (by kernel_rfl) (by decide)
  (z06 (by kernel_rfl:z00 b20=[z03 7 (z00 b20),z03 14 (z00 b20),z03 21 (z00 b20)]) (.cons (l20_7 N) (.cons (l20_14 N) (.cons (l20_21 N) .nil)))) fun d=>e20 N d.1 d.2.1 d.2.2.1 d.2.2.2.1 d.2.2.2.2.1
def f4 (N:Nat):Option (Bool):=
 (f16 N).bind fun r=>
 (f17 N 4).bind fun r_1=>
 (f15 N (r.1,r.2) r_1 2).bind fun r_2=>
 (f16 N).bind fun r_3=>
 (f17 N 4).bind fun r_4=>
 (f18 N (r_3.1,r_3.2) r_4 1).bind fun r_5=>
 (cond (decide (r_2.2.2.2=0))
   (some (decide (r_5.2.2=0)))
   (some false)).bind fun b=>
 (cond b
   (some (decide (r_2.1=4)))
   (some false)).bind fun b_1=>
 (cond b_1
   ((f19 N r_2.2.1 ((0,((1 :: (2 :: ([]:List Int))),())) :: ((1,(((-1) :: ((-1) :: ([]:List Int))),())) :: ((1,(((-1) :: ((-1) :: ([]:List Int))),())) :: ([]:List Yk))))).bind fun r_6=>
   some r_6)
   (some false)).bind fun b_2=>
 (cond b_2
   (some (decide (r_5.1=3)))
   (some false)).bind fun b_3=>
 (cond b_3
   ((f13 N r_5.2.1 (2 :: ([]:List Int))).bind fun r_7=>
   some r_7)
   (some false)).bind fun b_4=>
 (cond b_4
   ((f16 N).bind fun r_8=>
   (f17 N 4).bind fun r_9=>
   (f20 N (r_8.1,r_8.2) r_9 0 ((15,(0,(1,()))) :: ([]:List Yw)) 1).bind fun r_10=>
   some (decide (r_10=0)))
   (some false)).bind fun b_5=>
 some b_5
def c4 (N:Nat):Callee:=.pure .un [.bool] fun d=>f4 N
def lp4 (N:Nat):Nat->Option z0h:=fun r=>none
def x4 (N:Nat):Ctx:=(mkX N 61 [(16,[c16 N]),(17,[c17 N]),(15,[c15 N]),(18,[c18 N]),(19,[c19 N]),(13,[c13 N]),(20,[c20 N])] [] [] ⟨[0],[]⟩ (z1k [(35,.yb),(37,.yb),(39,.yb),(41,.ym),(50,.yb),(57,.yq)]) (lp4 N))
noncomputable def b4:Code:=((Go.Proofs.Tryz.f4).body).getD .skip
theorem e4 (N:Nat):z1g (x4 N) [.bool] [.tmp 0] b4 (entry .un ())=f4 N:=by kernel_rfl
theorem k4 (N:Nat):z04 Go.Proofs.Tryz.prog 4 (c4 N):=
 z1h (fn:=Go.Proofs.Tryz.f4) (body:=b4) (c:=x4 N) Go.Proofs.Tryz.func4 (by kernel_rfl) (by kernel_rfl) ⟨ttL_ok,z0k,z0m,z0n,z0l,z02 (z01 (k16 N)) (z02 (z01 (k17 N)) (z02 (z01 (k15 N)) (z02 (z01 (k18 N)) (z02 (z01 (k19 N)) (z02 (z01 (k13 N)) (z02 (z01 (k20 N)) (z09)))))))⟩ mixed (by kernel_rfl) (zL (by kernel_rfl)) (by kernel_rfl) (by decide)
  (z06 (by kernel_rfl:z00 b4=[]) .nil) fun d=>e4 N
def zuf {R:Type} (N:Nat) (t2:Int) (t30:List Ya) (t1:List Ya) (t31:Int) (kb:Int->Option R) (kret:Bool->Option R) (kx0:Unit->Option R):Int->Option R:=
 fun t32=>
  cond (decide (t32 < t31))
   ((idx t30 t32).bind fun x=>
   cond (decide ((z0g (t2+2)) < (len x)))
    (kret false)
    (kb (z0g (t32+1))))
   (kx0 ())
def zle {R:Type} (N:Nat) (t2_1:Int) (t42:List Ya) (t43:Int) (kb:Int->Option R) (kret:Bool->Option R) (kx2:Unit->Option R):Int->Option R:=
 fun t44=>
  cond (decide (t44 < t43))
   ((idx t42 t44).bind fun x_1=>
   cond (decide ((z0g (t2_1+2)) < (len x_1)))
    (kret false)
    (kb (z0g (t44+1))))
   (kx2 ())
def f5 (N:Nat) (a0:Yd) (a1:List Ya) (a2:Int) (a3:Int):Option (Bool):=
 (cond (decide (a2 < a0.1))
   (some true)
   (some (decide (a3 < (len a0.2.1))))).bind fun b=>
 (cond b
   (some true)
   (some (decide (12 < (len a1))))).bind fun b_1=>
 cond b_1
  (some false)
  (iter (fun w=>zuf N a2 a0.2.1 a1 (len a0.2.1) w
   (fun t8=>
    some t8)
   (fun (_:Unit)=>
    iter (fun w=>zle N a2 a1 (len a1) w
     (fun t8_1=>
      some t8_1)
     (fun (_:Unit)=>
      some true)) N 0)) N 0)
def c5 (N:Nat):Callee:=.pure (.pr (.val .yf) (.pr (.val .yc) (.pr (.val .ya) (.pr (.val .ya) .un)))) [.bool] fun d=>f5 N d.1 d.2.1 d.2.2.1 d.2.2.2.1
def F5_4:SForm:=⟨[(32,(.val .ya)),(2,(.val .ya)),(30,(.val .yc)),(1,(.val .yc)),(31,(.val .ya))],[]⟩
def G5_4 (N:Nat):(R:Type)->F5_4.den->(AExit->St->Option R)->Option R:=fun R d k=>iter (fun kb=>zuf N d.1.2.1 d.1.2.2.1 d.1.2.2.2.1 d.1.2.2.2.2.1 kb
  (fun y0=>k .ret (St.of [(8,(.data .bool y0))] []))
  (fun _=>k (.exit 0) (St.of [(2,(.data .ya d.1.2.1)),(1,(.data .yc d.1.2.2.2.1))] []))) N d.1.1
def F5_10:SForm:=⟨[(44,(.val .ya)),(2,(.val .ya)),(42,(.val .yc)),(43,(.val .ya))],[]⟩
def G5_10 (N:Nat):(R:Type)->F5_10.den->(AExit->St->Option R)->Option R:=fun R d k=>iter (fun kb=>zle N d.1.2.1 d.1.2.2.1 d.1.2.2.2.1 kb
  (fun y0=>k .ret (St.of [(8,(.data .bool y0))] []))
  (fun _=>k (.exit 2) (St.of [] []))) N d.1.1
def lp5 (N:Nat):Nat->Option z0h:=fun r=>cond (Nat.beq r 4) (some fun R sl os k=>F5_4.take sl os fun d=>G5_4 N R d k) (cond (Nat.beq r 10) (some fun R sl os k=>F5_10.take sl os fun d=>G5_10 N R d k) (none))
def x5 (N:Nat):Ctx:=(mkX N 54 [] [(4,⟨[32,2,30,1,31],[]⟩),(10,⟨[44,2,42,43],[]⟩)] [(4,[(0,⟨[2,1],[]⟩)]),(10,[(2,⟨[],[]⟩)])] ⟨[8],[]⟩ (fun _=>none) (lp5 N))
noncomputable def b5:Code:=((Go.Proofs.Tryz.f5).body).getD .skip
theorem s5_4 (N:Nat) {R:Type} (k:AExit->St->Option R) (t2:Int) (t30:List Ya) (t1:List Ya) (t31:Int) (kb:List Yo->List Obj->Option R) (x:Int):z0q (x5 N) (z03 4 (z00 b5)) (St.of [(32,(.data .ya x)),(2,(.data .ya t2)),(30,(.data .yc t30)),(1,(.data .yc t1)),(31,(.data .ya t31))] []) (z12 (x5 N) 4 ⟨[32,2,30,1,31],[]⟩ kb k)=zuf N t2 t30 t1 t31 (fun y=>kb [(32,(.data .ya y)),(2,(.data .ya t2)),(30,(.data .yc t30)),(1,(.data .yc t1)),(31,(.data .ya t31))] [])
  (fun y0=>k .ret (St.of [(8,(.data .bool y0))] []))
  (fun _=>k (.exit 0) (St.of [(2,(.data .ya t2)),(1,(.data .yc t1))] [])) x:=by kernel_rfl
theorem l5_4 (N:Nat):z0f (x5 N) (z03 4 (z00 b5)):=
 z0b (G5_4 N) (by kernel_rfl) (by kernel_rfl) (by kernel_rfl) fun R k d=>
  z0a (st:=fun (x:Int)=>([(32,(.data .ya x)),(2,(.data .ya d.1.2.1)),(30,(.data .yc d.1.2.2.1)),(1,(.data .yc d.1.2.2.2.1)),(31,(.data .ya d.1.2.2.2.2.1))],[])) (s5_4 N k d.1.2.1 d.1.2.2.1 d.1.2.2.2.1 d.1.2.2.2.2.1) N d.1.1
theorem s5_10 (N:Nat) {R:Type} (k:AExit->St->Option R) (t2_1:Int) (t42:List Ya) (t43:Int) (kb:List Yo->List Obj->Option R) (x:Int):z0q (x5 N) (z03 10 (z00 b5)) (St.of [(44,(.data .ya x)),(2,(.data .ya t2_1)),(42,(.data .yc t42)),(43,(.data .ya t43))] []) (z12 (x5 N) 10 ⟨[44,2,42,43],[]⟩ kb k)=zle N t2_1 t42 t43 (fun y=>kb [(44,(.data .ya y)),(2,(.data .ya t2_1)),(42,(.data .yc t42)),(43,(.data .ya t43))] [])
  (fun y0=>k .ret (St.of [(8,(.data .bool y0))] []))
  (fun _=>k (.exit 2) (St.of [] [])) x:=by kernel_rfl
theorem l5_10 (N:Nat):z0f (x5 N) (z03 10 (z00 b5)):=
 z0b (G5_10 N) (by kernel_rfl) (by kernel_rfl) (by kernel_rfl) fun R k d=>
  z0a (st:=fun (x:Int)=>([(44,(.data .ya x)),(2,(.data .ya d.1.2.1)),(42,(.data .yc d.1.2.2.1)),(43,(.data .ya d.1.2.2.2.1))],[])) (s5_10 N k d.1.2.1 d.1.2.2.1 d.1.2.2.2.1) N d.1.1
theorem e5 (N:Nat) (a0:Yd) (a1:List Ya) (a2:Int) (a3:Int):z1g (x5 N) [.bool] [.tmp 8] b5 (entry (.pr (.val .yf) (.pr (.val .yc) (.pr (.val .ya) (.pr (.val .ya) .un)))) (a0,(a1,(a2,(a3,())))))=f5 N a0 a1 a2 a3:=by kernel_rfl
theorem k5 (N:Nat):z04 Go.Proofs.Tryz.prog 5 (c5 N):=
 z1h (fn:=Go.Proofs.Tryz.f5) (body:=b5) (c:=x5 N) Go.Proofs.Tryz.func5 (by kernel_rfl) (by kernel_rfl) ⟨ttL_ok,z0k,z0m,z0n,z0l,z09⟩ mixed (by kernel_rfl) (zL (by kernel_rfl)) (by kernel_rfl) (by decide)
  (z06 (by kernel_rfl:z00 b5=[z03 4 (z00 b5),z03 10 (z00 b5)]) (.cons (l5_4 N) (.cons (l5_10 N) .nil))) fun d=>e5 N d.1 d.2.1 d.2.2.1 d.2.2.2.1
def zlr {R:Type} (N:Nat) (t9:Int) (o1:Yd) (kb:Int×List Int->Option R) (kx0:Ya->Option R):Int×List Int->Option R:=
 fun (t10,o0)=>
  cond (decide (t10 < t9))
   (chk (decide ((Nat.succ (List.length o0))≤z31)) <|
   kb ((z0g (t10+1)),(o0++(t10 :: ([]:List Int)))))
   (kx0 o0)
def f22 (N:Nat) (a0:Yd):Option Ya:=
 iter (fun w=>zlr N (len a0.2.1) a0 w
  (fun o0_1=>
   (f44 N a0 o0_1).bind fun r=>
   some r.1)) N (0,([]:List Int))
def c22 (N:Nat):Callee:=.pure (.pr (.val .yf) .un) [.yi] fun d=>f22 N d.1
def F22_3:SForm:=⟨[(10,(.val .ya)),(3,(.ref 0)),(1,(.bptr 1 [])),(9,(.val .ya))],[.row .ya,.cell (.val .yf)]⟩
def G22_3 (N:Nat):(R:Type)->F22_3.den->(AExit->St->Option R)->Option R:=fun R d k=>iter (fun kb=>zlr N d.1.2.2.2.1 d.2.2.1 kb
  (fun y0=>k (.exit 0) (St.of [(3,(.ref 0 [] 0)),(1,(.bptr 1 []))] [.row .ya y0 0,.cell (.data .yf d.2.2.1)]))) N (d.1.1,d.2.1)
def lp22 (N:Nat):Nat->Option z0h:=fun r=>cond (Nat.beq r 3) (some fun R sl os k=>F22_3.take sl os fun d=>G22_3 N R d k) (none)
def x22 (N:Nat):Ctx:=(mkX N 25 [(44,[c44 N])] [(3,⟨[10,3,1,9],[(3,none,.row .ya)]⟩)] [(3,[(0,⟨[3,1],[]⟩)])] ⟨[2],[]⟩ (fun _=>none) (lp22 N))
noncomputable def b22:Code:=((Go.Proofs.Tryz.f22).body).getD .skip
theorem s22_3 (N:Nat) {R:Type} (k:AExit->St->Option R) (t9:Int) (o1:Yd) (kb:List Yo->List Obj->Option R) (x:Int×List Int):z0q (x22 N) (z03 3 (z00 b22)) (St.of [(10,(.data .ya x.1)),(3,(.ref 0 [] 0)),(1,(.bptr 1 [])),(9,(.data .ya t9))] [.row .ya x.2 0,.cell (.data .yf o1)]) (z12 (x22 N) 3 ⟨[10,3,1,9],[(3,none,.row .ya)]⟩ kb k)=zlr N t9 o1 (fun y=>kb [(10,(.data .ya y.1)),(3,(.ref 0 [] 0)),(1,(.bptr 1 [])),(9,(.data .ya t9))] [.row .ya y.2 0,.cell (.data .yf o1)])
  (fun y0=>k (.exit 0) (St.of [(3,(.ref 0 [] 0)),(1,(.bptr 1 []))] [.row .ya y0 0,.cell (.data .yf o1)])) x:=by kernel_rfl
theorem l22_3 (N:Nat):z0f (x22 N) (z03 3 (z00 b22)):=
 z0b (G22_3 N) (by kernel_rfl) (by kernel_rfl) (by kernel_rfl) fun R k d=>
  z0a (st:=fun (x:Int×List Int)=>([(10,(.data .ya x.1)),(3,(.ref 0 [] 0)),(1,(.bptr 1 [])),(9,(.data .ya d.1.2.2.2.1))],[.row .ya x.2 0,.cell (.data .yf d.2.2.1)])) (s22_3 N k d.1.2.2.2.1 d.2.2.1) N (d.1.1,d.2.1)
theorem e22 (N:Nat) (a0:Yd):z1g (x22 N) [.yi] [.tmp 2] b22 (entry (.pr (.val .yf) .un) (a0,()))=f22 N a0:=by kernel_rfl
theorem k22 (N:Nat):z04 Go.Proofs.Tryz.prog 22 (c22 N):=
 z1h (fn:=Go.Proofs.Tryz.f22) (body:=b22) (c:=x22 N) Go.Proofs.Tryz.func22 (by kernel_rfl) (by kernel_rfl) ⟨ttL_ok,z0k,z0m,z0n,z0l,z02 (z01 (k44 N)) (z09)⟩ mixed (by kernel_rfl) (zL (by kernel_rfl)) (by kernel_rfl) (by decide)
  (z06 (by kernel_rfl:z00 b22=[z03 3 (z00 b22)]) (.cons (l22_3 N) .nil)) fun d=>e22 N d.1
def zlg {R:Type} (N:Nat) (t1:Int) (t8:List Int) (t9:Int) (kb:Int×Int->Option R) (kret:Bool->Option R) (kx0:Unit->Option R):Int×Int->Option R:=
 fun (t10,t5)=>
  cond (decide (t10 < t9))
   ((idx t8 t10).bind fun x=>
   cond (decide (t10 < 0))
    (none)
    (cond (decide ((z0g (((((BitVec.ofInt 64 (Int.fdiv t1 (Int.pow 2 (min (Int.toNat t10) 64)))).and (BitVec.ofInt 64 1)).toNat):Nat):Int))=0))
     (kb ((z0g (t10+1)),t5))
     ((cond (decide (0≤t5))
       (some (!(decide (x=t5))))
       (some false)).bind fun b=>
     cond b
      (kret false)
      (kb ((z0g (t10+1)),x)))))
   (kx0 ())
def f53 (N:Nat) (a0:List Int) (a1:Int):Option (Bool):=
 iter (fun w=>zlg N a1 a0 (len a0) w
  (fun t4=>
   some t4)
  (fun (_:Unit)=>
   some true)) N (0,(-1))
def c53 (N:Nat):Callee:=.pure (.pr (.val .yb) (.pr (.val .ya) .un)) [.bool] fun d=>f53 N d.1 d.2.1
def F53_3:SForm:=⟨[(10,(.val .ya)),(5,(.val .ya)),(1,(.val .ya)),(8,(.val .yb)),(9,(.val .ya))],[]⟩
def G53_3 (N:Nat):(R:Type)->F53_3.den->(AExit->St->Option R)->Option R:=fun R d k=>iter (fun kb=>zlg N d.1.2.2.1 d.1.2.2.2.1 d.1.2.2.2.2.1 kb
  (fun y0=>k .ret (St.of [(4,(.data .bool y0))] []))
  (fun _=>k (.exit 0) (St.of [] []))) N (d.1.1,d.1.2.1)
def lp53 (N:Nat):Nat->Option z0h:=fun r=>cond (Nat.beq r 3) (some fun R sl os k=>F53_3.take sl os fun d=>G53_3 N R d k) (none)
def x53 (N:Nat):Ctx:=(mkX N 29 [] [(3,⟨[10,5,1,8,9],[]⟩)] [(3,[(0,⟨[],[]⟩)])] ⟨[4],[]⟩ (fun _=>none) (lp53 N))
noncomputable def b53:Code:=((Go.Proofs.Tryz.f53).body).getD .skip
theorem s53_3 (N:Nat) {R:Type} (k:AExit->St->Option R) (t1:Int) (t8:List Int) (t9:Int) (kb:List Yo->List Obj->Option R) (x:Int×Int):z0q (x53 N) (z03 3 (z00 b53)) (St.of [(10,(.data .ya x.1)),(5,(.data .ya x.2)),(1,(.data .ya t1)),(8,(.data .yb t8)),(9,(.data .ya t9))] []) (z12 (x53 N) 3 ⟨[10,5,1,8,9],[]⟩ kb k)=zlg N t1 t8 t9 (fun y=>kb [(10,(.data .ya y.1)),(5,(.data .ya y.2)),(1,(.data .ya t1)),(8,(.data .yb t8)),(9,(.data .ya t9))] [])
  (fun y0=>k .ret (St.of [(4,(.data .bool y0))] []))
  (fun _=>k (.exit 0) (St.of [] [])) x:=by kernel_rfl
theorem l53_3 (N:Nat):z0f (x53 N) (z03 3 (z00 b53)):=
 z0b (G53_3 N) (by kernel_rfl) (by kernel_rfl) (by kernel_rfl) fun R k d=>
  z0a (st:=fun (x:Int×Int)=>([(10,(.data .ya x.1)),(5,(.data .ya x.2)),(1,(.data .ya d.1.2.2.1)),(8,(.data .yb d.1.2.2.2.1)),(9,(.data .ya d.1.2.2.2.2.1))],[])) (s53_3 N k d.1.2.2.1 d.1.2.2.2.1 d.1.2.2.2.2.1) N (d.1.1,d.1.2.1)
theorem e53 (N:Nat) (a0:List Int) (a1:Int):z1g (x53 N) [.bool] [.tmp 4] b53 (entry (.pr (.val .yb) (.pr (.val .ya) .un)) (a0,(a1,())))=f53 N a0 a1:=by kernel_rfl
theorem k53 (N:Nat):z04 Go.Proofs.Tryz.prog 53 (c53 N):=
 z1h (fn:=Go.Proofs.Tryz.f53) (body:=b53) (c:=x53 N) Go.Proofs.Tryz.func53 (by kernel_rfl) (by kernel_rfl) ⟨ttL_ok,z0k,z0m,z0n,z0l,z09⟩ mixed (by kernel_rfl) (zL (by kernel_rfl)) (by kernel_rfl) (by decide)
  (z06 (by kernel_rfl:z00 b53=[z03 3 (z00 b53)]) (.cons (l53_3 N) .nil)) fun d=>e53 N d.1 d.2.1
def zhk {R:Type} (N:Nat) (r23:Int->Yd->Ya->Yl->Option (Yaj)) (t1_1:Int) (t20:Int) (o3:List Int) (kb:Int×Int×Yd×List Int×Yl->Option R) (kret:Int->Yd->Ya->Yl->Option R) (kx0:Int->Yd->Ya->Yl->Option R):Int×Int×Yd×List Int×Yl->Option R:=
 fun (t21,t7,o0_1,o1_1,o2_1)=>
  cond (decide (t21 < t20))
   (chk (inb o3 t21) <|
   (idx o3 t21).bind fun x_1=>
   cond (decide (x_1=t1_1))
    (kret (-1) o0_1 o1_1 o2_1)
    (cond (!(decide (x_1=0)))
     ((r23 x_1 o0_1 o1_1 o2_1).bind fun r_1=>
     kb ((z0g (t21+1)),(zky t7 r_1.1.2.1),r_1.2.1.1,r_1.2.2.1,r_1.2.2.2.1))
     (kb ((z0g (t21+1)),t7,o0_1,o1_1,o2_1))))
   (kx0 t7 o0_1 o1_1 o2_1)
def f54 (N:Nat) (r23:Int->Yd->Ya->Yl->Option (Yaj)) (t1:Int) (t2:Int) (o0:Yd) (o1:List Int) (o2:List Yh):Option (Yaj):=
 (idx o0.2.1 t2).bind fun x=>
 (f55 N x t1).bind fun r=>
 iter (fun w=>zhk N r23 t1 (len r) r w
  (fun t6 o0_2 o1_2 o2_2=>
   some (((),(t6,())),((o0_2,((),((),()))),(o1_2,(o2_2,())))))
  (fun t7_1 o0_3 o1_3 o2_3=>
   some (((),(t7_1,())),((o0_3,((),((),()))),(o1_3,(o2_3,())))))) N (0,0,o0,o1,o2)
def fi54:SForm:=⟨[(0,(.bptr 0 [])),(1,(.val .ya)),(2,(.val .ya))],[.con (.agg (.pr (.val .yf) (.pr (.ref 1) (.pr (.mref 2) .un)))),.row .ya,.map .ya .ya]⟩
def fo54:SForm:=⟨[(0,(.bptr 0 [])),(6,(.val .ya))],[.con (.agg (.pr (.val .yf) (.pr (.ref 1) (.pr (.mref 2) .un)))),.row .ya,.map .ya .ya]⟩
def c54 (N:Nat) (r23:Int->Yd->Ya->Yl->Option (Yaj)):Callee:=.mut fi54 [0] fo54 fun d=>f54 N r23 d.1.2.1 d.1.2.2.1 d.2.1.1 d.2.2.1 d.2.2.2.1
def F54_3:SForm:=⟨[(0,(.bptr 0 [])),(21,(.val .ya)),(7,(.val .ya)),(1,(.val .ya)),(19,(.ref 3)),(20,(.val .ya))],[.con (.agg (.pr (.val .yf) (.pr (.ref 1) (.pr (.mref 2) .un)))),.row .ya,.map .ya .ya,.row .ya]⟩
def G54_3 (N:Nat) (r23:Int->Yd->Ya->Yl->Option (Yaj)):(R:Type)->F54_3.den->(AExit->St->Option R)->Option R:=fun R d k=>iter (fun kb=>zhk N r23 d.1.2.2.2.1 d.1.2.2.2.2.2.1 d.2.2.2.2.1 kb
  (fun y0 y1 y2 y3=>k .ret (St.of [(0,(.bptr 0 [])),(6,(.data .ya y0))] [.cell (.tup (.agg (.pr (.data .yf y1) (.pr (.ref 1 [] 0) (.pr (.mref 2) .un))))),.row .ya y2 0,.map .ya .ya y3]))
  (fun y0 y1 y2 y3=>k (.exit 0) (St.of [(0,(.bptr 0 [])),(7,(.data .ya y0))] [.cell (.tup (.agg (.pr (.data .yf y1) (.pr (.ref 1 [] 0) (.pr (.mref 2) .un))))),.row .ya y2 0,.map .ya .ya y3]))) N (d.1.2.1,d.1.2.2.1,d.2.1.1,d.2.2.1,d.2.2.2.1)
def lp54 (N:Nat) (r23:Int->Yd->Ya->Yl->Option (Yaj)):Nat->Option z0h:=fun r=>cond (Nat.beq r 3) (some fun R sl os k=>F54_3.take sl os fun d=>G54_3 N r23 R d k) (none)
def x54 (N:Nat) (r23:Int->Yd->Ya->Yl->Option (Yaj)):Ctx:={ fuel:=N,tt:=z1k ttL,mt:=z1k mtL,ntmps:=37,env:=fun f=>(z1k [(55,[c55 N]),(23,[(.mut ⟨[(0,(.bptr 0 [])),(1,(.val .ya))],[.con (.agg (.pr (.val .yf) (.pr (.ref 1) (.pr (.mref 2) .un)))),.row .ya,.map .ya .ya]⟩ [0] ⟨[(0,(.bptr 0 [])),(4,(.val .ya))],[.con (.agg (.pr (.val .yf) (.pr (.ref 1) (.pr (.mref 2) .un)))),.row .ya,.map .ya .ya]⟩ fun d=>r23 d.1.2.1 d.2.1.1 d.2.2.1 d.2.2.2.1)])] f).getD [],cut:=z1k [(3,⟨[0,21,7,1,19,20],[]⟩)],exits:=fun r=>z1k ((z1k [(3,[(0,⟨[0,7],[]⟩)])] r).getD []),res:=⟨[0,6],[]⟩,own:=fun _=>none,lp:=lp54 N r23,eqs:=fun T=>z2e T eqL,ct:=fun T=>z2e T ctL,ms:=z9k msL }
noncomputable def b54:Code:=((Go.Proofs.Tryz.f54).body).getD .skip
theorem s54_3 (N:Nat) (r23:Int->Yd->Ya->Yl->Option (Yaj)) {R:Type} (k:AExit->St->Option R) (t1_1:Int) (t20:Int) (o3:List Int) (kb:List Yo->List Obj->Option R) (x:Int×Int×Yd×List Int×Yl):z0q (x54 N r23) (z03 3 (z00 b54)) (St.of [(0,(.bptr 0 [])),(21,(.data .ya x.1)),(7,(.data .ya x.2.1)),(1,(.data .ya t1_1)),(19,(.ref 3 [] 0)),(20,(.data .ya t20))] [.cell (.tup (.agg (.pr (.data .yf x.2.2.1) (.pr (.ref 1 [] 0) (.pr (.mref 2) .un))))),.row .ya x.2.2.2.1 0,.map .ya .ya x.2.2.2.2,.row .ya o3 0]) (z12 (x54 N r23) 3 ⟨[0,21,7,1,19,20],[]⟩ kb k)=zhk N r23 t1_1 t20 o3 (fun y=>kb [(0,(.bptr 0 [])),(21,(.data .ya y.1)),(7,(.data .ya y.2.1)),(1,(.data .ya t1_1)),(19,(.ref 3 [] 0)),(20,(.data .ya t20))] [.cell (.tup (.agg (.pr (.data .yf y.2.2.1) (.pr (.ref 1 [] 0) (.pr (.mref 2) .un))))),.row .ya y.2.2.2.1 0,.map .ya .ya y.2.2.2.2,.row .ya o3 0])
  (fun y0 y1 y2 y3=>k .ret (St.of [(0,(.bptr 0 [])),(6,(.data .ya y0))] [.cell (.tup (.agg (.pr (.data .yf y1) (.pr (.ref 1 [] 0) (.pr (.mref 2) .un))))),.row .ya y2 0,.map .ya .ya y3]))
  (fun y0 y1 y2 y3=>k (.exit 0) (St.of [(0,(.bptr 0 [])),(7,(.data .ya y0))] [.cell (.tup (.agg (.pr (.data .yf y1) (.pr (.ref 1 [] 0) (.pr (.mref 2) .un))))),.row .ya y2 0,.map .ya .ya y3])) x:=by kernel_rfl
theorem l54_3 (N:Nat) (r23:Int->Yd->Ya->Yl->Option (Yaj)):z0f (x54 N r23) (z03 3 (z00 b54)):=
 z0b (G54_3 N r23) (by kernel_rfl) (by kernel_rfl) (by kernel_rfl) fun R k d=>
  z0a (st:=fun (x:Int×Int×Yd×List Int×Yl)=>([(0,(.bptr 0 [])),(21,(.data .ya x.1)),(7,(.data .ya x.2.1)),(1,(.data .ya d.1.2.2.2.1)),(19,(.ref 3 [] 0)),(20,(.data .ya d.1.2.2.2.2.2.1))],[.cell (.tup (.agg (.pr (.data .yf x.2.2.1) (.pr (.ref 1 [] 0) (.pr (.mref 2) .un))))),.row .ya x.2.2.2.1 0,.map .ya .ya x.2.2.2.2,.row .ya d.2.2.2.2.1 0])) (s54_3 N r23 k d.1.2.2.2.1 d.1.2.2.2.2.2.1 d.2.2.2.2.1) N (d.1.2.1,d.1.2.2.1,d.2.1.1,d.2.2.1,d.2.2.2.1)
theorem e54 (N:Nat) (r23:Int->Yd->Ya->Yl->Option (Yaj)) (t1:Int) (t2:Int) (o0:Yd) (o1:List Int) (o2:List Yh):z9m (x54 N r23) fo54 b54 (St.of [(0,(.bptr 0 [])),(1,(.data .ya t1)),(2,(.data .ya t2))] [.cell (.tup (.agg (.pr (.data .yf o0) (.pr (.ref 1 [] 0) (.pr (.mref 2) .un))))),.row .ya o1 0,.map .ya .ya o2])=f54 N r23 t1 t2 o0 o1 o2:=by kernel_rfl
theorem k54 (N:Nat) (r23:Int->Yd->Ya->Yl->Option (Yaj)) (h23:z04 Go.Proofs.Tryz.prog 23 (.mut ⟨[(0,(.bptr 0 [])),(1,(.val .ya))],[.con (.agg (.pr (.val .yf) (.pr (.ref 1) (.pr (.mref 2) .un)))),.row .ya,.map .ya .ya]⟩ [0] ⟨[(0,(.bptr 0 [])),(4,(.val .ya))],[.con (.agg (.pr (.val .yf) (.pr (.ref 1) (.pr (.mref 2) .un)))),.row .ya,.map .ya .ya]⟩ fun d=>r23 d.1.2.1 d.2.1.1 d.2.2.1 d.2.2.2.1)):z04 Go.Proofs.Tryz.prog 54 (c54 N r23):=
 z2a (fn:=Go.Proofs.Tryz.f54) (body:=b54) (c:=x54 N r23) (rs:=[6]) Go.Proofs.Tryz.func54 (by kernel_rfl) (by kernel_rfl) ⟨ttL_ok,z0k,z0m,z0n,z0l,z02 (z01 (k55 N)) (z02 (z01 (h23)) (z09))⟩ mixed (by kernel_rfl) (zL (by kernel_rfl)) (by kernel_rfl) (by kernel_rfl) (by kernel_rfl) (z2o (by kernel_rfl))
  (z06 (by kernel_rfl:z00 b54=[z03 3 (z00 b54)]) (.cons (l54_3 N r23) .nil)) fun d=>e54 N r23 d.1.2.1 d.1.2.2.1 d.2.1.1 d.2.2.1 d.2.2.2.1
def zfj {R:Type} (N:Nat) (r23:Int->Yd->Ya->Yl->Option (Yaj)) (t1_1:Int) (t38:Int) (kb:Int×Int×Yd×List Int×Yl->Option R) (kx0:Int->Yd->Ya->Yl->Option R):Int×Int×Yd×List Int×Yl->Option R:=
 fun (t39,t7,o0_1,o1_1,o2_1)=>
  cond (decide (t39 < t38))
   ((f54 N r23 t1_1 t39 o0_1 o1_1 o2_1).bind fun r_1=>
   cond (decide (0≤r_1.1.2.1))
    (kb ((z0g (t39+1)),(zxc t7 (z0g (r_1.1.2.1+1))),r_1.2.1.1,r_1.2.2.1,r_1.2.2.2.1))
    (kb ((z0g (t39+1)),t7,r_1.2.1.1,r_1.2.2.1,r_1.2.2.2.1)))
   (kx0 t7 o0_1 o1_1 o2_1)
def f23B (N:Nat) (r23:Int->Yd->Ya->Yl->Option (Yaj)) (t1:Int) (o0:Yd) (o1:List Int) (o2:List Yh):Option (Yaj):=
 cond (Option.isSome (z80 (z2t .ya) o2 t1))
  (some (((),((Option.getD (z80 (z2t .ya) o2 t1) 0),())),((o0,((),((),()))),(o1,(o2,())))))
  ((f53 N o1 t1).bind fun r=>
  cond (!r)
   (iter (fun w=>zfj N r23 t1 (len o0.2.1) w
    (fun t7_1 o0_2 o1_2 o2_2=>
     some (((),(t7_1,())),((o0_2,((),((),()))),(o1_2,((zb1 (z2t .ya) o2_2 t1 t7_1),())))))) N (0,o0.1,o0,o1,o2))
   (some (((),(0,())),((o0,((),((),()))),(o1,((zb1 (z2t .ya) o2 t1 0),()))))))
def fi23B:SForm:=⟨[(0,(.bptr 0 [])),(1,(.val .ya))],[.con (.agg (.pr (.val .yf) (.pr (.ref 1) (.pr (.mref 2) .un)))),.row .ya,.map .ya .ya]⟩
def fo23B:SForm:=⟨[(0,(.bptr 0 [])),(4,(.val .ya))],[.con (.agg (.pr (.val .yf) (.pr (.ref 1) (.pr (.mref 2) .un)))),.row .ya,.map .ya .ya]⟩
def c23B (N:Nat) (r23:Int->Yd->Ya->Yl->Option (Yaj)):Callee:=.mut fi23B [0] fo23B fun d=>f23B N r23 d.1.2.1 d.2.1.1 d.2.2.1 d.2.2.2.1
def F23B_8:SForm:=⟨[(39,(.val .ya)),(7,(.val .ya)),(1,(.val .ya)),(0,(.bptr 0 [])),(38,(.val .ya))],[.con (.agg (.pr (.val .yf) (.pr (.ref 1) (.pr (.mref 2) .un)))),.row .ya,.map .ya .ya]⟩
def G23B_8 (N:Nat) (r23:Int->Yd->Ya->Yl->Option (Yaj)):(R:Type)->F23B_8.den->(AExit->St->Option R)->Option R:=fun R d k=>iter (fun kb=>zfj N r23 d.1.2.2.1 d.1.2.2.2.2.1 kb
  (fun y0 y2 y3 y4=>k (.exit 0) (St.of [(0,(.bptr 0 [])),(7,(.data .ya y0)),(1,(.data .ya d.1.2.2.1))] [.cell (.tup (.agg (.pr (.data .yf y2) (.pr (.ref 1 [] 0) (.pr (.mref 2) .un))))),.row .ya y3 0,.map .ya .ya y4]))) N (d.1.1,d.1.2.1,d.2.1.1,d.2.2.1,d.2.2.2.1)
def lp23B (N:Nat) (r23:Int->Yd->Ya->Yl->Option (Yaj)):Nat->Option z0h:=fun r=>cond (Nat.beq r 8) (some fun R sl os k=>F23B_8.take sl os fun d=>G23B_8 N r23 R d k) (none)
def x23B (N:Nat) (r23:Int->Yd->Ya->Yl->Option (Yaj)):Ctx:={ fuel:=N,tt:=z1k ttL,mt:=z1k mtL,ntmps:=60,env:=fun f=>(z1k [(53,[c53 N]),(54,[c54 N r23])] f).getD [],cut:=z1k [(8,⟨[39,7,1,0,38],[]⟩)],exits:=fun r=>z1k ((z1k [(8,[(0,⟨[0,7,1],[]⟩)])] r).getD []),res:=⟨[0,4],[]⟩,own:=fun _=>none,lp:=lp23B N r23,eqs:=fun T=>z2e T eqL,ct:=fun T=>z2e T ctL,ms:=z9k msL }
noncomputable def b23B:Code:=((Go.Proofs.Tryz.f23).body).getD .skip
theorem s23B_8 (N:Nat) (r23:Int->Yd->Ya->Yl->Option (Yaj)) {R:Type} (k:AExit->St->Option R) (t1_1:Int) (t38:Int) (kb:List Yo->List Obj->Option R) (x:Int×Int×Yd×List Int×Yl):z0q (x23B N r23) (z03 8 (z00 b23B)) (St.of [(39,(.data .ya x.1)),(7,(.data .ya x.2.1)),(1,(.data .ya t1_1)),(0,(.bptr 0 [])),(38,(.data .ya t38))] [.cell (.tup (.agg (.pr (.data .yf x.2.2.1) (.pr (.ref 1 [] 0) (.pr (.mref 2) .un))))),.row .ya x.2.2.2.1 0,.map .ya .ya x.2.2.2.2]) (z12 (x23B N r23) 8 ⟨[39,7,1,0,38],[]⟩ kb k)=zfj N r23 t1_1 t38 (fun y=>kb [(39,(.data .ya y.1)),(7,(.data .ya y.2.1)),(1,(.data .ya t1_1)),(0,(.bptr 0 [])),(38,(.data .ya t38))] [.cell (.tup (.agg (.pr (.data .yf y.2.2.1) (.pr (.ref 1 [] 0) (.pr (.mref 2) .un))))),.row .ya y.2.2.2.1 0,.map .ya .ya y.2.2.2.2])
  (fun y0 y2 y3 y4=>k (.exit 0) (St.of [(0,(.bptr 0 [])),(7,(.data .ya y0)),(1,(.data .ya t1_1))] [.cell (.tup (.agg (.pr (.data .yf y2) (.pr (.ref 1 [] 0) (.pr (.mref 2) .un))))),.row .ya y3 0,.map .ya .ya y4])) x:=by kernel_rfl
theorem l23B_8 (N:Nat) (r23:Int->Yd->Ya->Yl->Option (Yaj)):z0f (x23B N r23) (z03 8 (z00 b23B)):=
 z0b (G23B_8 N r23) (by kernel_rfl) (by kernel_rfl) (by kernel_rfl) fun R k d=>
  z0a (st:=fun (x:Int×Int×Yd×List Int×Yl)=>([(39,(.data .ya x.1)),(7,(.data .ya x.2.1)),(1,(.data .ya d.1.2.2.1)),(0,(.bptr 0 [])),(38,(.data .ya d.1.2.2.2.2.1))],[.cell (.tup (.agg (.pr (.data .yf x.2.2.1) (.pr (.ref 1 [] 0) (.pr (.mref 2) .un))))),.row .ya x.2.2.2.1 0,.map .ya .ya x.2.2.2.2])) (s23B_8 N r23 k d.1.2.2.1 d.1.2.2.2.2.1) N (d.1.1,d.1.2.1,d.2.1.1,d.2.2.1,d.2.2.2.1)
theorem e23B (N:Nat) (r23:Int->Yd->Ya->Yl->Option (Yaj)) (t1:Int) (o0:Yd) (o1:List Int) (o2:List Yh):z9m (x23B N r23) fo23B b23B (St.of [(0,(.bptr 0 [])),(1,(.data .ya t1))] [.cell (.tup (.agg (.pr (.data .yf o0) (.pr (.ref 1 [] 0) (.pr (.mref 2) .un))))),.row .ya o1 0,.map .ya .ya o2])=f23B N r23 t1 o0 o1 o2:=by kernel_rfl
theorem k23B (N:Nat) (r23:Int->Yd->Ya->Yl->Option (Yaj)) (h23:z04 Go.Proofs.Tryz.prog 23 (.mut ⟨[(0,(.bptr 0 [])),(1,(.val .ya))],[.con (.agg (.pr (.val .yf) (.pr (.ref 1) (.pr (.mref 2) .un)))),.row .ya,.map .ya .ya]⟩ [0] ⟨[(0,(.bptr 0 [])),(4,(.val .ya))],[.con (.agg (.pr (.val .yf) (.pr (.ref 1) (.pr (.mref 2) .un)))),.row .ya,.map .ya .ya]⟩ fun d=>r23 d.1.2.1 d.2.1.1 d.2.2.1 d.2.2.2.1)):z04 Go.Proofs.Tryz.prog 23 (c23B N r23):=
 z2a (fn:=Go.Proofs.Tryz.f23) (body:=b23B) (c:=x23B N r23) (rs:=[4]) Go.Proofs.Tryz.func23 (by kernel_rfl) (by kernel_rfl) ⟨ttL_ok,z0k,z0m,z0n,z0l,z02 (z01 (k53 N)) (z02 (z01 (k54 N r23 h23)) (z09))⟩ mixed (by kernel_rfl) (zL (by kernel_rfl)) (by kernel_rfl) (by kernel_rfl) (by kernel_rfl) (z2o (by kernel_rfl))
  (z06 (by kernel_rfl:z00 b23B=[z03 8 (z00 b23B)]) (.cons (l23B_8 N r23) .nil)) fun d=>e23B N r23 d.1.2.1 d.2.1.1 d.2.2.1 d.2.2.2.1
def f23R (N:Nat) (M:Nat):Int->Yd->Ya->Yl->Option (Yaj):=Nat.rec (motive:=fun _=>Int->Yd->Ya->Yl->Option (Yaj)) (fun _ _ _ _=>none) (fun _ r=>f23B N r) M
def f23 (N:Nat) (a0:Int) (a1:Yd) (a2:List Int) (a3:List Yh):Option (Yaj):=f23R N N a0 a1 a2 a3
def c23 (N:Nat):Callee:=(.mut ⟨[(0,(.bptr 0 [])),(1,(.val .ya))],[.con (.agg (.pr (.val .yf) (.pr (.ref 1) (.pr (.mref 2) .un)))),.row .ya,.map .ya .ya]⟩ [0] ⟨[(0,(.bptr 0 [])),(4,(.val .ya))],[.con (.agg (.pr (.val .yf) (.pr (.ref 1) (.pr (.mref 2) .un)))),.row .ya,.map .ya .ya]⟩ fun d=>f23 N d.1.2.1 d.2.1.1 d.2.2.1 d.2.2.2.1)
theorem k23 (N:Nat):z04 Go.Proofs.Tryz.prog 23 (c23 N):=
 have h:∀ M:Nat,z04 Go.Proofs.Tryz.prog 23 (.mut ⟨[(0,(.bptr 0 [])),(1,(.val .ya))],[.con (.agg (.pr (.val .yf) (.pr (.ref 1) (.pr (.mref 2) .un)))),.row .ya,.map .ya .ya]⟩ [0] ⟨[(0,(.bptr 0 [])),(4,(.val .ya))],[.con (.agg (.pr (.val .yf) (.pr (.ref 1) (.pr (.mref 2) .un)))),.row .ya,.map .ya .ya]⟩ fun d=>f23R N M d.1.2.1 d.2.1.1 d.2.2.1 d.2.2.2.1):=fun M=>Nat.rec (motive:=fun M=>z04 Go.Proofs.Tryz.prog 23 (.mut ⟨[(0,(.bptr 0 [])),(1,(.val .ya))],[.con (.agg (.pr (.val .yf) (.pr (.ref 1) (.pr (.mref 2) .un)))),.row .ya,.map .ya .ya]⟩ [0] ⟨[(0,(.bptr 0 [])),(4,(.val .ya))],[.con (.agg (.pr (.val .yf) (.pr (.ref 1) (.pr (.mref 2) .un)))),.row .ya,.map .ya .ya]⟩ fun d=>f23R N M d.1.2.1 d.2.1.1 d.2.2.1 d.2.2.2.1)) (z3m fun _=>rfl) (fun M ih=>k23B N _ ih) M
 h N
end
end Go.Kz
