/-
  The functions of the program as plain functions on lists and numbers, and the proofs that the program computes them. Printed by a program.
-/
import Derived.Test.YtnjfafnflbackaaGreatKzP43Z
set_option linter.unusedSimpArgs false
set_option maxRecDepth 100000
set_option linter.unusedVariables false
namespace Go.Kz
open Go.Proofs
noncomputable section
def f71 (N:Nat) (a0:Int) (a1:Int):Option Yh:=
 (f92 N a0 a1).bind fun r=>
 some (r.1,r.2)
def c71 (N:Nat):Callee:=.pure (.pr (.val .yr) (.pr (.val .yr) .un)) [.yr,.yr] fun d=>f71 N d.1 d.2.1
def lp71 (N:Nat):Nat->Option z0h:=fun r=>none
def x71 (N:Nat):Ctx:=(mkX N 30 [(92,[c92 N])] [] [] ⟨[4,5],[]⟩ (fun _=>none) (lp71 N))
noncomputable def b71:Code:=((Go.Proofs.Tryz.f71).body).getD .skip
theorem e71 (N:Nat) (a0:Int) (a1:Int):z1g (x71 N) [.yr,.yr] [.tmp 4,.tmp 5] b71 (entry (.pr (.val .yr) (.pr (.val .yr) .un)) (a0,(a1,())))=f71 N a0 a1:=by kernel_rfl
theorem k71 (N:Nat):z04 Go.Proofs.Tryz.prog 71 (c71 N):=
 z1h (fn:=Go.Proofs.Tryz.f71) (body:=b71) (c:=x71 N) Go.Proofs.Tryz.func71 (by kernel_rfl) (by kernel_rfl) ⟨ttL_ok,z0k,z0m,z0n,z0l,z02 (z01 (k92 N)) (z09)⟩ mixed (by kernel_rfl) (zL (by kernel_rfl)) (by kernel_rfl) (by decide)
  (z06 (by kernel_rfl:z00 b71=[]) .nil) fun d=>e71 N d.1 d.2.1
def zug {R:Type} (N:Nat) (kb:Int×List Int->Option R) (kx0:Ya->Option R):Int×List Int->Option R:=
 fun (t8,o0)=>
  cond (decide (t8 < (len o0)))
   (chk (((decide (0≤t8)) && (decide (t8≤(len o0)))) && (decide ((len o0)≤(len o0)))) <|
   chk ((decide (0≤t8)) && (decide (t8≤(len o0)))) <|
   kb ((z0g (t8+(zm1 (sub o0 0 t8) t8 (len o0)))),(z7r o0 t8 (len o0) (sub o0 0 t8))))
   (kx0 o0)
def f56 (N:Nat) (a0:List Int) (a1:Int):Option Ya:=
 cond (decide (a1 < 0))
  (none)
  ((f71 N (zmv (len a0)) (zmv a1)).bind fun r=>
  (cond (decide (0 < r.1))
    (some true)
    (some (decide (9223372036854775807 < r.2)))).bind fun b=>
  cond b
   (none)
   (chk (((decide (0≤(z0g r.2))) && (decide ((z0g r.2)≤(z0g r.2)))) && (decide ((z0g r.2)≤((z31:Nat):Int)))) <|
   iter (fun w=>zug N w
    (fun o0_1=>
     some o0_1)) N ((zm1 a0 0 (len (List.replicate (Int.toNat (z0g r.2)) 0:List Int))),(z7r (List.replicate (Int.toNat (z0g r.2)) 0:List Int) 0 (len (List.replicate (Int.toNat (z0g r.2)) 0:List Int)) a0))))
def c56 (N:Nat):Callee:=.pure (.pr (.val .yb) (.pr (.val .ya) .un)) [.yi] fun d=>f56 N d.1 d.2.1
def F56_8:SForm:=⟨[(8,(.val .ya)),(7,(.ref 0))],[.row .ya]⟩
def G56_8 (N:Nat):(R:Type)->F56_8.den->(AExit->St->Option R)->Option R:=fun R d k=>iter (fun kb=>zug N kb
  (fun y0=>k (.exit 0) (St.of [(7,(.ref 0 [] 0))] [.row .ya y0 0]))) N (d.1.1,d.2.1)
def lp56 (N:Nat):Nat->Option z0h:=fun r=>cond (Nat.beq r 8) (some fun R sl os k=>F56_8.take sl os fun d=>G56_8 N R d k) (none)
def x56 (N:Nat):Ctx:=(mkX N 48 [(71,[c71 N])] [(8,⟨[8,7],[]⟩)] [(8,[(0,⟨[7],[]⟩)])] ⟨[4],[]⟩ (fun _=>none) (lp56 N))
noncomputable def b56:Code:=((Go.Proofs.Tryz.f56).body).getD .skip
theorem s56_8 (N:Nat) {R:Type} (k:AExit->St->Option R) (kb:List Yo->List Obj->Option R) (x:Int×List Int):z0q (x56 N) (z03 8 (z00 b56)) (St.of [(8,(.data .ya x.1)),(7,(.ref 0 [] 0))] [.row .ya x.2 0]) (z12 (x56 N) 8 ⟨[8,7],[]⟩ kb k)=zug N (fun y=>kb [(8,(.data .ya y.1)),(7,(.ref 0 [] 0))] [.row .ya y.2 0])
  (fun y0=>k (.exit 0) (St.of [(7,(.ref 0 [] 0))] [.row .ya y0 0])) x:=by kernel_rfl
theorem l56_8 (N:Nat):z0f (x56 N) (z03 8 (z00 b56)):=
 z0b (G56_8 N) (by kernel_rfl) (by kernel_rfl) (by kernel_rfl) fun R k d=>
  z0a (st:=fun (x:Int×List Int)=>([(8,(.data .ya x.1)),(7,(.ref 0 [] 0))],[.row .ya x.2 0])) (s56_8 N k) N (d.1.1,d.2.1)
theorem e56 (N:Nat) (a0:List Int) (a1:Int):z1g (x56 N) [.yi] [.tmp 4] b56 (entry (.pr (.val .yb) (.pr (.val .ya) .un)) (a0,(a1,())))=f56 N a0 a1:=by kernel_rfl
theorem k56 (N:Nat):z04 Go.Proofs.Tryz.prog 56 (c56 N):=
 z1h (fn:=Go.Proofs.Tryz.f56) (body:=b56) (c:=x56 N) Go.Proofs.Tryz.func56 (by kernel_rfl) (by kernel_rfl) ⟨ttL_ok,z0k,z0m,z0n,z0l,z02 (z01 (k71 N)) (z09)⟩ mixed (by kernel_rfl) (zL (by kernel_rfl)) (by kernel_rfl) (by decide)
  (z06 (by kernel_rfl:z00 b56=[z03 8 (z00 b56)]) (.cons (l56_8 N) .nil)) fun d=>e56 N d.1 d.2.1
def zbd {R:Type} (N:Nat) (r41v1:Ye->Yd->Yq->Yj->Yp->Option (Yaq)) (o2_1:Ye) (o3:List Yk) (kb:Int×Yd×List Ya×Yj->Option R) (kx0:Int->Yd->Yq->Yj->Option R):Int×Yd×List Ya×Yj->Option R:=
 fun (t7,o0_1,o0'_1,o1_1)=>
  z17 [(f63 N (f39 N) o2_1 t7 o0_1 o0'_1 o1_1).bind fun r=>
   (f39 N o2_1 r.2.1.1 r.2.1.2.1 r.2.2.1).bind fun r_1=>
   cond (!(decide (r.1.2.1=r_1.1.2.1)))
    (kb ((z0g (t7+1)),r_1.2.1.1,r_1.2.1.2.1,r_1.2.2.1))
    (kx0 t7 r_1.2.1.1 r_1.2.1.2.1 r_1.2.2.1),
   (f63 N (f39 N) o2_1 t7 o0_1 o0'_1 o1_1).bind fun r_2=>
   (f39 N o2_1 r_2.2.1.1 r_2.2.1.2.1 r_2.2.2.1).bind fun r_3=>
   cond (!(decide (r_2.1.2.1=r_3.1.2.1)))
    (kb ((z0g (t7+1)),r_3.2.1.1,r_3.2.1.2.1,r_3.2.2.1))
    (kx0 t7 r_3.2.1.1 r_3.2.1.2.1 r_3.2.2.1)]
def zbc {R:Type} (N:Nat) (r41v1:Ye->Yd->Yq->Yj->Yp->Option (Yaq)) (t8:Int) (t46:Int) (o3_1:Ye) (o4:List Int) (kb:Int×Yp×Yd×List Ya×Yj->Option R) (kx2:Yd->Yq->Yj->Yp->Option R):Int×Yp×Yd×List Ya×Yj->Option R:=
 fun (t47,o0_3,o1_3,o1',o2_2)=>
  cond (decide (t47 < t46))
   (chk (inb o4 t47) <|
   (idx o4 t47).bind fun x_1=>
   cond (decide (x_1=0))
    (kb ((z0g (t47+1)),o0_3,o1_3,o1',o2_2))
    ((f40 N (x_1,((z0g (o3_1.2.1-1)),())) o1_3 o1' o2_2).bind fun r_6=>
    cond r_6.1.2.1
     (kb ((z0g (t47+1)),o0_3,r_6.2.1.1,r_6.2.1.2.1,r_6.2.2.1))
     (chk (inb o0_3 t8) <|
     (idx o0_3 t8).bind fun x_2=>
     (idx o0_3 t8).bind fun x_3=>
     (idx o0_3 t8).bind fun x_4=>
     chk (inb x_4.2.1 t47) <|
     (idx o0_3 t8).bind fun x_5=>
     (idx x_5.2.1 t47).bind fun x_6=>
     (idx x_5.2.1 t47).bind fun x_7=>
     (idx o0_3 t8).bind fun x_8=>
     (r41v1 (x_1,((z0g (o3_1.2.1-1)),())) r_6.2.1.1 r_6.2.1.2.1 r_6.2.2.1 (zar o0_3 t8 (x_8.1,((zar x_5.2.1 t47 (len o0_3)),x_8.2.2)))).bind fun r_7=>
     kb ((z0g (t47+1)),r_7.2.2.2.1,r_7.2.1.1,r_7.2.1.2.1,r_7.2.2.1))))
   (kx2 o1_3 o1' o2_2 o0_3)
def zlj (N:Nat) (r41v1:Ye->Yd->Yq->Yj->Yp->Option (Yaq)) (t1:Ye) (o0:Yd) (o0':List Ya) (o1:List Yi) (o2:List Yk):Option (Yaq):=
 iter (fun w=>zbd N r41v1 t1 o2 w
  (fun t7_1 o0_2 o0'_2 o1_2=>
   (idx o0_2.2.1 t7_1).bind fun x=>
   (f55 N x t1.1).bind fun r_4=>
   (f56 N ((-1) :: ([]:List Int)) (len r_4)).bind fun r_5=>
   chk (decide ((Nat.succ (List.length o2))≤z31)) <|
   iter (fun w=>zbc N r41v1 (len o2) (len r_4) t1 r_4 w
    (fun o0_4 o0'_3 o1_4 o2_3=>
     some (((),((),())),((o0_4,(o0'_3,((),()))),(o1_4,(o2_3,())))))) N (0,(o2++((t7_1,(r_5,())) :: ([]:List Yk))),o0_2,o0'_2,o1_2))) N (0,o0,o0',o1)
def fi41v1B:SForm:=⟨[(0,(.bptr 0 [])),(1,(.val .yg)),(2,(.nv 2))],[.con (.agg (.pr (.val .yf) (.pr (.val .yc) (.pr (.mref 1) .un)))),.map .yg .ya,.nest .yn]⟩
def zu4:SForm:=⟨[(0,(.bptr 0 [])),(6,(.nv 2))],[.con (.agg (.pr (.val .yf) (.pr (.val .yc) (.pr (.mref 1) .un)))),.map .yg .ya,.nest .yn]⟩
def c41v1B (N:Nat) (r41v1:Ye->Yd->Yq->Yj->Yp->Option (Yaq)):Callee:=.mut fi41v1B [0] zu4 fun d=>zlj N r41v1 d.1.2.1 d.2.1.1 d.2.1.2.1 d.2.2.1 d.2.2.2.1
def zqs:SForm:=⟨[(7,(.val .ya)),(0,(.bptr 0 [])),(4,(.bptr 2 [])),(2,(.nv 3))],[.con (.agg (.pr (.val .yf) (.pr (.val .yc) (.pr (.mref 1) .un)))),.map .yg .ya,.cell (.val .yg),.nest .yn]⟩
def zqn (N:Nat) (r41v1:Ye->Yd->Yq->Yj->Yp->Option (Yaq)):(R:Type)->zqs.den->(AExit->St->Option R)->Option R:=fun R d k=>iter (fun kb=>zbd N r41v1 d.2.2.2.1 d.2.2.2.2.1 kb
  (fun y0 y1 y2 y3=>k (.exit 0) (St.of [(0,(.bptr 0 [])),(4,(.bptr 2 [])),(7,(.data .ya y0)),(2,(.nv false 3 [] 0))] [.cell (.tup (.agg (.pr (.data .yf y1) (.pr (.data .yc y2) (.pr (.mref 1) .un))))),.map .yg .ya y3,.cell (.data .yg d.2.2.2.1),.nest .yn d.2.2.2.2.1 0 0 none]))) N (d.1.1,d.2.1.1,d.2.1.2.1,d.2.2.1)
def zqr:SForm:=⟨[(47,(.val .ya)),(2,(.nv 0)),(0,(.bptr 1 [])),(8,(.val .ya)),(4,(.bptr 3 [])),(45,(.ref 4)),(46,(.val .ya))],[.nest .yn,.con (.agg (.pr (.val .yf) (.pr (.val .yc) (.pr (.mref 2) .un)))),.map .yg .ya,.cell (.val .yg),.row .ya]⟩
def zqm (N:Nat) (r41v1:Ye->Yd->Yq->Yj->Yp->Option (Yaq)):(R:Type)->zqr.den->(AExit->St->Option R)->Option R:=fun R d k=>iter (fun kb=>zbc N r41v1 d.1.2.2.2.1 d.1.2.2.2.2.2.2.1 d.2.2.2.2.1 d.2.2.2.2.2.1 kb
  (fun y0 y1 y2 y3=>k (.exit 2) (St.of [(0,(.bptr 0 [])),(2,(.nv false 2 [] 0))] [.cell (.tup (.agg (.pr (.data .yf y0) (.pr (.data .yc y1) (.pr (.mref 1) .un))))),.map .yg .ya y2,.nest .yn y3 0 0 none]))) N (d.1.1,d.2.1,d.2.2.1.1,d.2.2.1.2.1,d.2.2.2.1)
def lp41v1B (N:Nat) (r41v1:Ye->Yd->Yq->Yj->Yp->Option (Yaq)):Nat->Option z0h:=fun r=>cond (Nat.beq r 2) (some fun R sl os k=>zqs.take sl os fun d=>zqn N r41v1 R d k) (cond (Nat.beq r 8) (some fun R sl os k=>zqr.take sl os fun d=>zqm N r41v1 R d k) (none))
def zcq (N:Nat) (r41v1:Ye->Yd->Yq->Yj->Yp->Option (Yaq)):Ctx:={ fuel:=N,tt:=z1k ttL,mt:=z1k mtL,ntmps:=79,env:=fun f=>(z1k [(63,[c63 N (f39 N)]),(39,[c39 N]),(55,[c55 N]),(56,[c56 N]),(40,[c40 N]),(41,[(.mut ⟨[(0,(.bptr 0 [])),(1,(.val .yg)),(2,(.nv 2))],[.con (.agg (.pr (.val .yf) (.pr (.val .yc) (.pr (.mref 1) .un)))),.map .yg .ya,.nest .yn]⟩ [0] ⟨[(0,(.bptr 0 [])),(6,(.nv 2))],[.con (.agg (.pr (.val .yf) (.pr (.val .yc) (.pr (.mref 1) .un)))),.map .yg .ya,.nest .yn]⟩ fun d=>r41v1 d.1.2.1 d.2.1.1 d.2.1.2.1 d.2.2.1 d.2.2.2.1)])] f).getD [],cut:=z1k [(2,⟨[7,0,4,2],[]⟩),(8,⟨[47,2,0,8,4,45,46],[]⟩)],exits:=fun r=>z1k ((z1k [(2,[(0,⟨[0,4,7,2],[]⟩)]),(8,[(2,⟨[0,2],[]⟩)])] r).getD []),res:=⟨[0,6],[]⟩,own:=z1k [(43,(.sl true .yn))],lp:=lp41v1B N r41v1,eqs:=fun T=>z2e T eqL,ct:=fun T=>z2e T ctL,ms:=z9k msL }
noncomputable def zbg:Code:=((Go.Proofs.Tryz.f41).body).getD .skip
theorem zwg (N:Nat) (r41v1:Ye->Yd->Yq->Yj->Yp->Option (Yaq)) {R:Type} (k:AExit->St->Option R) (o2_1:Ye) (o3:List Yk) (kb:List Yo->List Obj->Option R) (x:Int×Yd×List Ya×Yj):z0q (zcq N r41v1) (z03 2 (z00 zbg)) (St.of [(7,(.data .ya x.1)),(0,(.bptr 0 [])),(4,(.bptr 2 [])),(2,(.nv false 3 [] 0))] [.cell (.tup (.agg (.pr (.data .yf x.2.1) (.pr (.data .yc x.2.2.1) (.pr (.mref 1) .un))))),.map .yg .ya x.2.2.2,.cell (.data .yg o2_1),.nest .yn o3 0 0 none]) (z12 (zcq N r41v1) 2 ⟨[7,0,4,2],[]⟩ kb k)=zbd N r41v1 o2_1 o3 (fun y=>kb [(7,(.data .ya y.1)),(0,(.bptr 0 [])),(4,(.bptr 2 [])),(2,(.nv false 3 [] 0))] [.cell (.tup (.agg (.pr (.data .yf y.2.1) (.pr (.data .yc y.2.2.1) (.pr (.mref 1) .un))))),.map .yg .ya y.2.2.2,.cell (.data .yg o2_1),.nest .yn o3 0 0 none])
  (fun y0 y1 y2 y3=>k (.exit 0) (St.of [(0,(.bptr 0 [])),(4,(.bptr 2 [])),(7,(.data .ya y0)),(2,(.nv false 3 [] 0))] [.cell (.tup (.agg (.pr (.data .yf y1) (.pr (.data .yc y2) (.pr (.mref 1) .un))))),.map .yg .ya y3,.cell (.data .yg o2_1),.nest .yn o3 0 0 none])) x:=by kernel_rfl
theorem zxo (N:Nat) (r41v1:Ye->Yd->Yq->Yj->Yp->Option (Yaq)):z0f (zcq N r41v1) (z03 2 (z00 zbg)):=
 z0b (zqn N r41v1) (by kernel_rfl) (by kernel_rfl) (by kernel_rfl) fun R k d=>
  z0a (st:=fun (x:Int×Yd×List Ya×Yj)=>([(7,(.data .ya x.1)),(0,(.bptr 0 [])),(4,(.bptr 2 [])),(2,(.nv false 3 [] 0))],[.cell (.tup (.agg (.pr (.data .yf x.2.1) (.pr (.data .yc x.2.2.1) (.pr (.mref 1) .un))))),.map .yg .ya x.2.2.2,.cell (.data .yg d.2.2.2.1),.nest .yn d.2.2.2.2.1 0 0 none])) (zwg N r41v1 k d.2.2.2.1 d.2.2.2.2.1) N (d.1.1,d.2.1.1,d.2.1.2.1,d.2.2.1)
theorem zwf (N:Nat) (r41v1:Ye->Yd->Yq->Yj->Yp->Option (Yaq)) {R:Type} (k:AExit->St->Option R) (t8:Int) (t46:Int) (o3_1:Ye) (o4:List Int) (kb:List Yo->List Obj->Option R) (x:Int×Yp×Yd×List Ya×Yj):z0q (zcq N r41v1) (z03 8 (z00 zbg)) (St.of [(47,(.data .ya x.1)),(2,(.nv false 0 [] 0)),(0,(.bptr 1 [])),(8,(.data .ya t8)),(4,(.bptr 3 [])),(45,(.ref 4 [] 0)),(46,(.data .ya t46))] [.nest .yn x.2.1 0 0 none,.cell (.tup (.agg (.pr (.data .yf x.2.2.1) (.pr (.data .yc x.2.2.2.1) (.pr (.mref 2) .un))))),.map .yg .ya x.2.2.2.2,.cell (.data .yg o3_1),.row .ya o4 0]) (z12 (zcq N r41v1) 8 ⟨[47,2,0,8,4,45,46],[]⟩ kb k)=zbc N r41v1 t8 t46 o3_1 o4 (fun y=>kb [(47,(.data .ya y.1)),(2,(.nv false 0 [] 0)),(0,(.bptr 1 [])),(8,(.data .ya t8)),(4,(.bptr 3 [])),(45,(.ref 4 [] 0)),(46,(.data .ya t46))] [.nest .yn y.2.1 0 0 none,.cell (.tup (.agg (.pr (.data .yf y.2.2.1) (.pr (.data .yc y.2.2.2.1) (.pr (.mref 2) .un))))),.map .yg .ya y.2.2.2.2,.cell (.data .yg o3_1),.row .ya o4 0])
  (fun y0 y1 y2 y3=>k (.exit 2) (St.of [(0,(.bptr 0 [])),(2,(.nv false 2 [] 0))] [.cell (.tup (.agg (.pr (.data .yf y0) (.pr (.data .yc y1) (.pr (.mref 1) .un))))),.map .yg .ya y2,.nest .yn y3 0 0 none])) x:=by kernel_rfl
theorem zxn (N:Nat) (r41v1:Ye->Yd->Yq->Yj->Yp->Option (Yaq)):z0f (zcq N r41v1) (z03 8 (z00 zbg)):=
 z0b (zqm N r41v1) (by kernel_rfl) (by kernel_rfl) (by kernel_rfl) fun R k d=>
  z0a (st:=fun (x:Int×Yp×Yd×List Ya×Yj)=>([(47,(.data .ya x.1)),(2,(.nv false 0 [] 0)),(0,(.bptr 1 [])),(8,(.data .ya d.1.2.2.2.1)),(4,(.bptr 3 [])),(45,(.ref 4 [] 0)),(46,(.data .ya d.1.2.2.2.2.2.2.1))],[.nest .yn x.2.1 0 0 none,.cell (.tup (.agg (.pr (.data .yf x.2.2.1) (.pr (.data .yc x.2.2.2.1) (.pr (.mref 2) .un))))),.map .yg .ya x.2.2.2.2,.cell (.data .yg d.2.2.2.2.1),.row .ya d.2.2.2.2.2.1 0])) (zwf N r41v1 k d.1.2.2.2.1 d.1.2.2.2.2.2.2.1 d.2.2.2.2.1 d.2.2.2.2.2.1) N (d.1.1,d.2.1,d.2.2.1.1,d.2.2.1.2.1,d.2.2.2.1)
theorem e41v1B (N:Nat) (r41v1:Ye->Yd->Yq->Yj->Yp->Option (Yaq)) (t1:Ye) (o0:Yd) (o0':List Ya) (o1:List Yi) (o2:List Yk):z9m (zcq N r41v1) zu4 zbg (St.of [(0,(.bptr 0 [])),(1,(.data .yg t1)),(2,(.nv false 2 [] 0))] [.cell (.tup (.agg (.pr (.data .yf o0) (.pr (.data .yc o0') (.pr (.mref 1) .un))))),.map .yg .ya o1,.nest .yn o2 0 0 none])=zlj N r41v1 t1 o0 o0' o1 o2:=by kernel_rfl
theorem k41v1B (N:Nat) (r41v1:Ye->Yd->Yq->Yj->Yp->Option (Yaq)) (h41v1:z04 Go.Proofs.Tryz.prog 41 (.mut ⟨[(0,(.bptr 0 [])),(1,(.val .yg)),(2,(.nv 2))],[.con (.agg (.pr (.val .yf) (.pr (.val .yc) (.pr (.mref 1) .un)))),.map .yg .ya,.nest .yn]⟩ [0] ⟨[(0,(.bptr 0 [])),(6,(.nv 2))],[.con (.agg (.pr (.val .yf) (.pr (.val .yc) (.pr (.mref 1) .un)))),.map .yg .ya,.nest .yn]⟩ fun d=>r41v1 d.1.2.1 d.2.1.1 d.2.1.2.1 d.2.2.1 d.2.2.2.1)):z04 Go.Proofs.Tryz.prog 41 (c41v1B N r41v1):=
 z2a (fn:=Go.Proofs.Tryz.f41) (body:=zbg) (c:=zcq N r41v1) (rs:=[6]) Go.Proofs.Tryz.func41 (by kernel_rfl) (by kernel_rfl) ⟨ttL_ok,z0k,z0m,z0n,z0l,z02 (z01 (k63 N (f39 N) (k39 N))) (z02 (z01 (k39 N)) (z02 (z01 (k55 N)) (z02 (z01 (k56 N)) (z02 (z01 (k40 N)) (z02 (z01 (h41v1)) (z09))))))⟩ mixed (by kernel_rfl) (zL (by kernel_rfl)) (by kernel_rfl) (by kernel_rfl) (by kernel_rfl) (z2o (by kernel_rfl))
  (z06 (by kernel_rfl:z00 zbg=[z03 2 (z00 zbg),z03 8 (z00 zbg)]) (.cons (zxo N r41v1) (.cons (zxn N r41v1) .nil))) fun d=>e41v1B N r41v1 d.1.2.1 d.2.1.1 d.2.1.2.1 d.2.2.1 d.2.2.2.1
def zpw (N:Nat) (M:Nat):Ye->Yd->Yq->Yj->Yp->Option (Yaq):=Nat.rec (motive:=fun _=>Ye->Yd->Yq->Yj->Yp->Option (Yaq)) (fun _ _ _ _ _=>none) (fun _ r=>zlj N r) M
def f41v1 (N:Nat) (a0:Ye) (a1:Yd) (a2:List Ya) (a3:List Yi) (a4:List Yk):Option (Yaq):=zpw N N a0 a1 a2 a3 a4
def c41v1 (N:Nat):Callee:=(.mut ⟨[(0,(.bptr 0 [])),(1,(.val .yg)),(2,(.nv 2))],[.con (.agg (.pr (.val .yf) (.pr (.val .yc) (.pr (.mref 1) .un)))),.map .yg .ya,.nest .yn]⟩ [0] ⟨[(0,(.bptr 0 [])),(6,(.nv 2))],[.con (.agg (.pr (.val .yf) (.pr (.val .yc) (.pr (.mref 1) .un)))),.map .yg .ya,.nest .yn]⟩ fun d=>f41v1 N d.1.2.1 d.2.1.1 d.2.1.2.1 d.2.2.1 d.2.2.2.1)
theorem k41v1 (N:Nat):z04 Go.Proofs.Tryz.prog 41 (c41v1 N):=
 have h:∀ M:Nat,z04 Go.Proofs.Tryz.prog 41 (.mut ⟨[(0,(.bptr 0 [])),(1,(.val .yg)),(2,(.nv 2))],[.con (.agg (.pr (.val .yf) (.pr (.val .yc) (.pr (.mref 1) .un)))),.map .yg .ya,.nest .yn]⟩ [0] ⟨[(0,(.bptr 0 [])),(6,(.nv 2))],[.con (.agg (.pr (.val .yf) (.pr (.val .yc) (.pr (.mref 1) .un)))),.map .yg .ya,.nest .yn]⟩ fun d=>zpw N M d.1.2.1 d.2.1.1 d.2.1.2.1 d.2.2.1 d.2.2.2.1):=fun M=>Nat.rec (motive:=fun M=>z04 Go.Proofs.Tryz.prog 41 (.mut ⟨[(0,(.bptr 0 [])),(1,(.val .yg)),(2,(.nv 2))],[.con (.agg (.pr (.val .yf) (.pr (.val .yc) (.pr (.mref 1) .un)))),.map .yg .ya,.nest .yn]⟩ [0] ⟨[(0,(.bptr 0 [])),(6,(.nv 2))],[.con (.agg (.pr (.val .yf) (.pr (.val .yc) (.pr (.mref 1) .un)))),.map .yg .ya,.nest .yn]⟩ fun d=>zpw N M d.1.2.1 d.2.1.1 d.2.1.2.1 d.2.2.1 d.2.2.2.1)) (z3m fun _=>rfl) (fun M ih=>k41v1B N _ ih) M
 h N
def zpy {R:Type} (N:Nat) (o2:Ye) (kb:Int×Yd×List Ya×Yj->Option R) (kx0:Int->Yd->Yq->Yj->Option R):Int×Yd×List Ya×Yj->Option R:=
 fun (t7,o0_1,o0'_1,o1_1)=>
  z17 [(f63 N (f39 N) o2 t7 o0_1 o0'_1 o1_1).bind fun r=>
   (f39 N o2 r.2.1.1 r.2.1.2.1 r.2.2.1).bind fun r_1=>
   cond (!(decide (r.1.2.1=r_1.1.2.1)))
    (kb ((z0g (t7+1)),r_1.2.1.1,r_1.2.1.2.1,r_1.2.2.1))
    (kx0 t7 r_1.2.1.1 r_1.2.1.2.1 r_1.2.2.1),
   (f63 N (f39 N) o2 t7 o0_1 o0'_1 o1_1).bind fun r_2=>
   (f39 N o2 r_2.2.1.1 r_2.2.1.2.1 r_2.2.2.1).bind fun r_3=>
   cond (!(decide (r_2.1.2.1=r_3.1.2.1)))
    (kb ((z0g (t7+1)),r_3.2.1.1,r_3.2.1.2.1,r_3.2.2.1))
    (kx0 t7 r_3.2.1.1 r_3.2.1.2.1 r_3.2.2.1)]
def zpx {R:Type} (N:Nat) (t8:Int) (t46:Int) (o3:Ye) (o4:List Int) (kb:Int×Yp×Yd×List Ya×Yj->Option R) (kx2:Yd->Yq->Yj->Yp->Option R):Int×Yp×Yd×List Ya×Yj->Option R:=
 fun (t47,o0_3,o1_3,o1',o2_1)=>
  cond (decide (t47 < t46))
   (chk (inb o4 t47) <|
   (idx o4 t47).bind fun x_1=>
   cond (decide (x_1=0))
    (kb ((z0g (t47+1)),o0_3,o1_3,o1',o2_1))
    ((f40 N (x_1,((z0g (o3.2.1-1)),())) o1_3 o1' o2_1).bind fun r_6=>
    cond r_6.1.2.1
     (kb ((z0g (t47+1)),o0_3,r_6.2.1.1,r_6.2.1.2.1,r_6.2.2.1))
     (chk (inb o0_3 t8) <|
     (idx o0_3 t8).bind fun x_2=>
     (idx o0_3 t8).bind fun x_3=>
     (idx o0_3 t8).bind fun x_4=>
     chk (inb x_4.2.1 t47) <|
     (idx o0_3 t8).bind fun x_5=>
     (idx x_5.2.1 t47).bind fun x_6=>
     (idx x_5.2.1 t47).bind fun x_7=>
     (idx o0_3 t8).bind fun x_8=>
     (f41v1 N (x_1,((z0g (o3.2.1-1)),())) r_6.2.1.1 r_6.2.1.2.1 r_6.2.2.1 (zar o0_3 t8 (x_8.1,((zar x_5.2.1 t47 (len o0_3)),x_8.2.2)))).bind fun r_7=>
     kb ((z0g (t47+1)),r_7.2.2.2.1,r_7.2.1.1,r_7.2.1.2.1,r_7.2.2.1))))
   (kx2 o1_3 o1' o2_1 o0_3)
def f41 (N:Nat) (t1:Ye) (o0:Yd) (o0':List Ya) (o1:List Yi):Option (Yaq):=
 iter (fun w=>zpy N t1 w
  (fun t7_1 o0_2 o0'_2 o1_2=>
   (idx o0_2.2.1 t7_1).bind fun x=>
   (f55 N x t1.1).bind fun r_4=>
   (f56 N ((-1) :: ([]:List Int)) (len r_4)).bind fun r_5=>
   iter (fun w=>zpx N 0 (len r_4) t1 r_4 w
    (fun o0_4 o0'_3 o1_4 o2_2=>
     some (((),((),())),((o0_4,(o0'_3,((),()))),(o1_4,(o2_2,())))))) N (0,((t7_1,(r_5,())) :: ([]:List Yk)),o0_2,o0'_2,o1_2))) N (0,o0,o0',o1)
def fi41:SForm:=⟨[(0,(.bptr 0 [])),(1,(.val .yg)),(2,.nilS)],[.con (.agg (.pr (.val .yf) (.pr (.val .yc) (.pr (.mref 1) .un)))),.map .yg .ya]⟩
def fo41:SForm:=⟨[(0,(.bptr 0 [])),(6,(.nv 2))],[.con (.agg (.pr (.val .yf) (.pr (.val .yc) (.pr (.mref 1) .un)))),.map .yg .ya,.nest .yn]⟩
def c41 (N:Nat):Callee:=.mut fi41 [0] fo41 fun d=>f41 N d.1.2.1 d.2.1.1 d.2.1.2.1 d.2.2.1
def F41_2:SForm:=⟨[(7,(.val .ya)),(0,(.bptr 0 [])),(4,(.bptr 2 [])),(2,.nilS)],[.con (.agg (.pr (.val .yf) (.pr (.val .yc) (.pr (.mref 1) .un)))),.map .yg .ya,.cell (.val .yg)]⟩
def G41_2 (N:Nat):(R:Type)->F41_2.den->(AExit->St->Option R)->Option R:=fun R d k=>iter (fun kb=>zpy N d.2.2.2.1 kb
  (fun y0 y1 y2 y3=>k (.exit 0) (St.of [(0,(.bptr 0 [])),(4,(.bptr 2 [])),(7,(.data .ya y0)),(2,.nilS)] [.cell (.tup (.agg (.pr (.data .yf y1) (.pr (.data .yc y2) (.pr (.mref 1) .un))))),.map .yg .ya y3,.cell (.data .yg d.2.2.2.1)]))) N (d.1.1,d.2.1.1,d.2.1.2.1,d.2.2.1)
def F41_8:SForm:=⟨[(47,(.val .ya)),(2,(.nv 0)),(0,(.bptr 1 [])),(8,(.val .ya)),(4,(.bptr 3 [])),(45,(.ref 4)),(46,(.val .ya))],[.nest .yn,.con (.agg (.pr (.val .yf) (.pr (.val .yc) (.pr (.mref 2) .un)))),.map .yg .ya,.cell (.val .yg),.row .ya]⟩
def G41_8 (N:Nat):(R:Type)->F41_8.den->(AExit->St->Option R)->Option R:=fun R d k=>iter (fun kb=>zpx N d.1.2.2.2.1 d.1.2.2.2.2.2.2.1 d.2.2.2.2.1 d.2.2.2.2.2.1 kb
  (fun y0 y1 y2 y3=>k (.exit 2) (St.of [(0,(.bptr 0 [])),(2,(.nv false 2 [] 0))] [.cell (.tup (.agg (.pr (.data .yf y0) (.pr (.data .yc y1) (.pr (.mref 1) .un))))),.map .yg .ya y2,.nest .yn y3 0 0 none]))) N (d.1.1,d.2.1,d.2.2.1.1,d.2.2.1.2.1,d.2.2.2.1)
def lp41 (N:Nat):Nat->Option z0h:=fun r=>cond (Nat.beq r 2) (some fun R sl os k=>F41_2.take sl os fun d=>G41_2 N R d k) (cond (Nat.beq r 8) (some fun R sl os k=>F41_8.take sl os fun d=>G41_8 N R d k) (none))
def x41 (N:Nat):Ctx:=(mkX N 79 [(63,[c63 N (f39 N)]),(39,[c39 N]),(55,[c55 N]),(56,[c56 N]),(40,[c40 N]),(41,[c41v1 N])] [(2,⟨[7,0,4,2],[]⟩),(8,⟨[47,2,0,8,4,45,46],[]⟩)] [(2,[(0,⟨[0,4,7,2],[]⟩)]),(8,[(2,⟨[0,2],[]⟩)])] ⟨[0,6],[]⟩ (z1k [(43,(.sl true .yn))]) (lp41 N))
noncomputable def b41:Code:=((Go.Proofs.Tryz.f41).body).getD .skip
theorem s41_2 (N:Nat) {R:Type} (k:AExit->St->Option R) (o2:Ye) (kb:List Yo->List Obj->Option R) (x:Int×Yd×List Ya×Yj):z0q (x41 N) (z03 2 (z00 b41)) (St.of [(7,(.data .ya x.1)),(0,(.bptr 0 [])),(4,(.bptr 2 [])),(2,.nilS)] [.cell (.tup (.agg (.pr (.data .yf x.2.1) (.pr (.data .yc x.2.2.1) (.pr (.mref 1) .un))))),.map .yg .ya x.2.2.2,.cell (.data .yg o2)]) (z12 (x41 N) 2 ⟨[7,0,4,2],[]⟩ kb k)=zpy N o2 (fun y=>kb [(7,(.data .ya y.1)),(0,(.bptr 0 [])),(4,(.bptr 2 [])),(2,.nilS)] [.cell (.tup (.agg (.pr (.data .yf y.2.1) (.pr (.data .yc y.2.2.1) (.pr (.mref 1) .un))))),.map .yg .ya y.2.2.2,.cell (.data .yg o2)])
  (fun y0 y1 y2 y3=>k (.exit 0) (St.of [(0,(.bptr 0 [])),(4,(.bptr 2 [])),(7,(.data .ya y0)),(2,.nilS)] [.cell (.tup (.agg (.pr (.data .yf y1) (.pr (.data .yc y2) (.pr (.mref 1) .un))))),.map .yg .ya y3,.cell (.data .yg o2)])) x:=by kernel_rfl
theorem l41_2 (N:Nat):z0f (x41 N) (z03 2 (z00 b41)):=
 z0b (G41_2 N) (by kernel_rfl) (by kernel_rfl) (by kernel_rfl) fun R k d=>
  z0a (st:=fun (x:Int×Yd×List Ya×Yj)=>([(7,(.data .ya x.1)),(0,(.bptr 0 [])),(4,(.bptr 2 [])),(2,.nilS)],[.cell (.tup (.agg (.pr (.data .yf x.2.1) (.pr (.data .yc x.2.2.1) (.pr (.mref 1) .un))))),.map .yg .ya x.2.2.2,.cell (.data .yg d.2.2.2.1)])) (s41_2 N k d.2.2.2.1) N (d.1.1,d.2.1.1,d.2.1.2.1,d.2.2.1)
theorem s41_8 (N:Nat) {R:Type} (k:AExit->St->Option R) (t8:Int) (t46:Int) (o3:Ye) (o4:List Int) (kb:List Yo->List Obj->Option R) (x:Int×Yp×Yd×List Ya×Yj):z0q (x41 N) (z03 8 (z00 b41)) (St.of [(47,(.data .ya x.1)),(2,(.nv false 0 [] 0)),(0,(.bptr 1 [])),(8,(.data .ya t8)),(4,(.bptr 3 [])),(45,(.ref 4 [] 0)),(46,(.data .ya t46))] [.nest .yn x.2.1 0 0 none,.cell (.tup (.agg (.pr (.data .yf x.2.2.1) (.pr (.data .yc x.2.2.2.1) (.pr (.mref 2) .un))))),.map .yg .ya x.2.2.2.2,.cell (.data .yg o3),.row .ya o4 0]) (z12 (x41 N) 8 ⟨[47,2,0,8,4,45,46],[]⟩ kb k)=zpx N t8 t46 o3 o4 (fun y=>kb [(47,(.data .ya y.1)),(2,(.nv false 0 [] 0)),(0,(.bptr 1 [])),(8,(.data .ya t8)),(4,(.bptr 3 [])),(45,(.ref 4 [] 0)),(46,(.data .ya t46))] [.nest .yn y.2.1 0 0 none,.cell (.tup (.agg (.pr (.data .yf y.2.2.1) (.pr (.data .yc y.2.2.2.1) (.pr (.mref 2) .un))))),.map .yg .ya y.2.2.2.2,.cell (.data .yg o3),.row .ya o4 0])
  (fun y0 y1 y2 y3=>k (.exit 2) (St.of [(0,(.bptr 0 [])),(2,(.nv false 2 [] 0))] [.cell (.tup (.agg (.pr (.data .yf y0) (.pr (.data .yc y1) (.pr (.mref 1) .un))))),.map .yg .ya y2,.nest .yn y3 0 0 none])) x:=by kernel_rfl
theorem l41_8 (N:Nat):z0f (x41 N) (z03 8 (z00 b41)):=
 z0b (G41_8 N) (by kernel_rfl) (by kernel_rfl) (by kernel_rfl) fun R k d=>
  z0a (st:=fun (x:Int×Yp×Yd×List Ya×Yj)=>([(47,(.data .ya x.1)),(2,(.nv false 0 [] 0)),(0,(.bptr 1 [])),(8,(.data .ya d.1.2.2.2.1)),(4,(.bptr 3 [])),(45,(.ref 4 [] 0)),(46,(.data .ya d.1.2.2.2.2.2.2.1))],[.nest .yn x.2.1 0 0 none,.cell (.tup (.agg (.pr (.data .yf x.2.2.1) (.pr (.data .yc x.2.2.2.1) (.pr (.mref 2) .un))))),.map .yg .ya x.2.2.2.2,.cell (.data .yg d.2.2.2.2.1),.row .ya d.2.2.2.2.2.1 0])) (s41_8 N k d.1.2.2.2.1 d.1.2.2.2.2.2.2.1 d.2.2.2.2.1 d.2.2.2.2.2.1) N (d.1.1,d.2.1,d.2.2.1.1,d.2.2.1.2.1,d.2.2.2.1)
theorem e41 (N:Nat) (t1:Ye) (o0:Yd) (o0':List Ya) (o1:List Yi):z9m (x41 N) fo41 b41 (St.of [(0,(.bptr 0 [])),(1,(.data .yg t1)),(2,.nilS)] [.cell (.tup (.agg (.pr (.data .yf o0) (.pr (.data .yc o0') (.pr (.mref 1) .un))))),.map .yg .ya o1])=f41 N t1 o0 o0' o1:=by kernel_rfl
theorem k41 (N:Nat):z04 Go.Proofs.Tryz.prog 41 (c41 N):=
 z2a (fn:=Go.Proofs.Tryz.f41) (body:=b41) (c:=x41 N) (rs:=[6]) Go.Proofs.Tryz.func41 (by kernel_rfl) (by kernel_rfl) ⟨ttL_ok,z0k,z0m,z0n,z0l,z02 (z01 (k63 N (f39 N) (k39 N))) (z02 (z01 (k39 N)) (z02 (z01 (k55 N)) (z02 (z01 (k56 N)) (z02 (z01 (k40 N)) (z02 (z01 (k41v1 N)) (z09))))))⟩ mixed (by kernel_rfl) (zL (by kernel_rfl)) (by kernel_rfl) (by kernel_rfl) (by kernel_rfl) (z2o (by kernel_rfl))
  (z06 (by kernel_rfl:z00 b41=[z03 2 (z00 b41),z03 8 (z00 b41)]) (.cons (l41_2 N) (.cons (l41_8 N) .nil))) fun d=>e41 N d.1.2.1 d.2.1.1 d.2.1.2.1 d.2.2.1
def f90 (N:Nat) (a0:Int):Option (Bool):=
 some (!(decide (a0=a0)))
def c90 (N:Nat):Callee:=.pure (.pr (.val .ya) .un) [.bool] fun d=>f90 N d.1
def lp90 (N:Nat):Nat->Option z0h:=fun r=>none
def x90 (N:Nat):Ctx:=(mkX N 6 [] [] [] ⟨[2],[]⟩ (fun _=>none) (lp90 N))
noncomputable def b90:Code:=((Go.Proofs.Tryz.f90).body).getD .skip
theorem e90 (N:Nat) (a0:Int):z1g (x90 N) [.bool] [.tmp 2] b90 (entry (.pr (.val .ya) .un) (a0,()))=f90 N a0:=by kernel_rfl
theorem k90 (N:Nat):z04 Go.Proofs.Tryz.prog 90 (c90 N):=
 z1h (fn:=Go.Proofs.Tryz.f90) (body:=b90) (c:=x90 N) Go.Proofs.Tryz.func90 (by kernel_rfl) (by kernel_rfl) ⟨ttL_ok,z0k,z0m,z0n,z0l,z09⟩ mixed (by kernel_rfl) (zL (by kernel_rfl)) (by kernel_rfl) (by decide)
  (z06 (by kernel_rfl:z00 b90=[]) .nil) fun d=>e90 N d.1
def f69 (N:Nat) (a0:Int) (a1:Int):Option (Int):=
 (f90 N a0).bind fun r=>
 (f90 N a1).bind fun r_1=>
 cond r
  (cond r_1
   (some 0)
   (some (-1)))
  (cond r_1
   (some 1)
   (cond (decide (a0 < a1))
    (some (-1))
    (cond (decide (a1 < a0))
     (some 1)
     (some 0))))
def c69 (N:Nat):Callee:=.pure (.pr (.val .ya) (.pr (.val .ya) .un)) [.ya] fun d=>f69 N d.1 d.2.1
def lp69 (N:Nat):Nat->Option z0h:=fun r=>none
def x69 (N:Nat):Ctx:=(mkX N 20 [(90,[c90 N])] [] [] ⟨[4],[]⟩ (fun _=>none) (lp69 N))
noncomputable def b69:Code:=((Go.Proofs.Tryz.f69).body).getD .skip
theorem e69 (N:Nat) (a0:Int) (a1:Int):z1g (x69 N) [.ya] [.tmp 4] b69 (entry (.pr (.val .ya) (.pr (.val .ya) .un)) (a0,(a1,())))=f69 N a0 a1:=by kernel_rfl
theorem k69 (N:Nat):z04 Go.Proofs.Tryz.prog 69 (c69 N):=
 z1h (fn:=Go.Proofs.Tryz.f69) (body:=b69) (c:=x69 N) Go.Proofs.Tryz.func69 (by kernel_rfl) (by kernel_rfl) ⟨ttL_ok,z0k,z0m,z0n,z0l,z02 (z01 (k90 N)) (z09)⟩ mixed (by kernel_rfl) (zL (by kernel_rfl)) (by kernel_rfl) (by decide)
  (z06 (by kernel_rfl:z00 b69=[]) .nil) fun d=>e69 N d.1 d.2.1
def zhj {R:Type} (N:Nat) (t3:Int) (t6:List Int) (t7:Int) (kb:Int->Option R) (kret:Int->Option R) (kx0:Unit->Option R):Int->Option R:=
 fun t8=>
  cond (decide (t8 < t7))
   ((idx t6 t8).bind fun x=>
   cond (!(decide (x=t3)))
    (kret x)
    (kb (z0g (t8+1))))
   (kx0 ())
def f68 (N:Nat) (a0:List Int):Option (Int):=
 iter (fun w=>zhj N 0 a0 (len a0) w
  (fun t2=>
   some t2)
  (fun (_:Unit)=>
   some 0)) N 0
def c68 (N:Nat):Callee:=.pure (.pr (.val .yb) .un) [.ya] fun d=>f68 N d.1
def F68_3:SForm:=⟨[(8,(.val .ya)),(3,(.val .ya)),(6,(.val .yb)),(7,(.val .ya))],[]⟩
def G68_3 (N:Nat):(R:Type)->F68_3.den->(AExit->St->Option R)->Option R:=fun R d k=>iter (fun kb=>zhj N d.1.2.1 d.1.2.2.1 d.1.2.2.2.1 kb
  (fun y0=>k .ret (St.of [(2,(.data .ya y0))] []))
  (fun _=>k (.exit 0) (St.of [(3,(.data .ya d.1.2.1))] []))) N d.1.1
def lp68 (N:Nat):Nat->Option z0h:=fun r=>cond (Nat.beq r 3) (some fun R sl os k=>F68_3.take sl os fun d=>G68_3 N R d k) (none)
def x68 (N:Nat):Ctx:=(mkX N 18 [] [(3,⟨[8,3,6,7],[]⟩)] [(3,[(0,⟨[3],[]⟩)])] ⟨[2],[]⟩ (fun _=>none) (lp68 N))
noncomputable def b68:Code:=((Go.Proofs.Tryz.f68).body).getD .skip
theorem s68_3 (N:Nat) {R:Type} (k:AExit->St->Option R) (t3:Int) (t6:List Int) (t7:Int) (kb:List Yo->List Obj->Option R) (x:Int):z0q (x68 N) (z03 3 (z00 b68)) (St.of [(8,(.data .ya x)),(3,(.data .ya t3)),(6,(.data .yb t6)),(7,(.data .ya t7))] []) (z12 (x68 N) 3 ⟨[8,3,6,7],[]⟩ kb k)=zhj N t3 t6 t7 (fun y=>kb [(8,(.data .ya y)),(3,(.data .ya t3)),(6,(.data .yb t6)),(7,(.data .ya t7))] [])
  (fun y0=>k .ret (St.of [(2,(.data .ya y0))] []))
  (fun _=>k (.exit 0) (St.of [(3,(.data .ya t3))] [])) x:=by kernel_rfl
theorem l68_3 (N:Nat):z0f (x68 N) (z03 3 (z00 b68)):=
 z0b (G68_3 N) (by kernel_rfl) (by kernel_rfl) (by kernel_rfl) fun R k d=>
  z0a (st:=fun (x:Int)=>([(8,(.data .ya x)),(3,(.data .ya d.1.2.1)),(6,(.data .yb d.1.2.2.1)),(7,(.data .ya d.1.2.2.2.1))],[])) (s68_3 N k d.1.2.1 d.1.2.2.1 d.1.2.2.2.1) N d.1.1
theorem e68 (N:Nat) (a0:List Int):z1g (x68 N) [.ya] [.tmp 2] b68 (entry (.pr (.val .yb) .un) (a0,()))=f68 N a0:=by kernel_rfl
theorem k68 (N:Nat):z04 Go.Proofs.Tryz.prog 68 (c68 N):=
 z1h (fn:=Go.Proofs.Tryz.f68) (body:=b68) (c:=x68 N) Go.Proofs.Tryz.func68 (by kernel_rfl) (by kernel_rfl) ⟨ttL_ok,z0k,z0m,z0n,z0l,z09⟩ mixed (by kernel_rfl) (zL (by kernel_rfl)) (by kernel_rfl) (by decide)
  (z06 (by kernel_rfl:z00 b68=[z03 3 (z00 b68)]) (.cons (l68_3 N) .nil)) fun d=>e68 N d.1
def f49 (N:Nat) (a0:Yw) (a1:Yw):Option (Int):=
 (f69 N a1.2.1 a0.2.1).bind fun r=>
 (f69 N a0.1 a1.1).bind fun r_1=>
 (f68 N (r :: (r_1 :: ([]:List Int)))).bind fun r_2=>
 some r_2
def c49 (N:Nat):Callee:=.pure (.pr (.val .yp) (.pr (.val .yp) .un)) [.ya] fun d=>f49 N d.1 d.2.1
def lp49 (N:Nat):Nat->Option z0h:=fun r=>none
def x49 (N:Nat):Ctx:=(mkX N 17 [(69,[c69 N]),(68,[c68 N])] [] [] ⟨[4],[]⟩ (fun _=>none) (lp49 N))
noncomputable def b49:Code:=((Go.Proofs.Tryz.f49).body).getD .skip
theorem e49 (N:Nat) (a0:Yw) (a1:Yw):z1g (x49 N) [.ya] [.tmp 4] b49 (entry (.pr (.val .yp) (.pr (.val .yp) .un)) (a0,(a1,())))=f49 N a0 a1:=by kernel_rfl
theorem k49 (N:Nat):z04 Go.Proofs.Tryz.prog 49 (c49 N):=
 z1h (fn:=Go.Proofs.Tryz.f49) (body:=b49) (c:=x49 N) Go.Proofs.Tryz.func49 (by kernel_rfl) (by kernel_rfl) ⟨ttL_ok,z0k,z0m,z0n,z0l,z02 (z01 (k69 N)) (z02 (z01 (k68 N)) (z09))⟩ mixed (by kernel_rfl) (zL (by kernel_rfl)) (by kernel_rfl) (by decide)
  (z06 (by kernel_rfl:z00 b49=[]) .nil) fun d=>e49 N d.1 d.2.1
def f64 (N:Nat) (a1:Unit) (o0:List Yw):Option (Yg×((List Yw)×Unit)):=(zn5 .yp (fun x y=>f49 N x y) o0).map fun l=>(((),()),(l,()))
def c64 (N:Nat):Callee:=.mut ⟨[(0,.ref 0),(1,.val (.fn 49 .unit))],[.row .yp]⟩ [0] ⟨[(0,.ref 0)],[.row .yp]⟩ fun d=>f64 N d.1.2.1 d.2.1
theorem k64 (N:Nat):z04 Go.Proofs.Tryz.prog 64 (c64 N):=
 zcu Go.Proofs.Tryz.sortL64 (t:=.yp) (by kernel_rfl) (by kernel_rfl) (fun w=>Go.Proofs.Tryz.isAgg57 w) (fun w=>Go.Proofs.Tryz.sizeOf57 w) (Go.Proofs.enters_of Go.Proofs.Tryz.func49 (by kernel_rfl) rfl) (k49 N)
def zhl {R:Type} (N:Nat) (o3':Int) (kb:Yd×List Ya×Yj×(List Yw)×List Int×Int->Option R) (kx0:Yd->Yq->Yj->(List Yw)->Option R):Yd×List Ya×Yj×(List Yw)×List Int×Int->Option R:=
 fun (o0_1,o0'_1,o1_1,o2,o3'',o3''')=>
  chk (decide (o3'=(len o1_1))) <|
  z8g o3'' (kx0 o0_1 o0'_1 o1_1 o2) fun j rest=>
  (idx o1_1 j).bind fun x=>
  chk (decide (o3'=(len o1_1))) <|
  (idx o1_1 j).bind fun x_1=>
  z17 [z17 [(f39 N x_1.1 o0_1 o0'_1 o1_1).bind fun r=>
    chk (decide ((Nat.succ (List.length o2))≤z31)) <|
    kb (r.2.1.1,r.2.1.2.1,r.2.2.1,(o2++((x_1.1.1,(x_1.1.2.1,(r.1.2.1,()))) :: ([]:List Yw))),rest,j),
    (f39 N x_1.1 o0_1 o0'_1 o1_1).bind fun r_1=>
    chk (decide ((Nat.succ (List.length o2))≤z31)) <|
    kb (r_1.2.1.1,r_1.2.1.2.1,r_1.2.2.1,(o2++((x_1.1.1,(x_1.1.2.1,(r_1.1.2.1,()))) :: ([]:List Yw))),rest,j)],
   z17 [(f39 N x_1.1 o0_1 o0'_1 o1_1).bind fun r_2=>
    chk (decide ((Nat.succ (List.length o2))≤z31)) <|
    kb (r_2.2.1.1,r_2.2.1.2.1,r_2.2.2.1,(o2++((x_1.1.1,(x_1.1.2.1,(r_2.1.2.1,()))) :: ([]:List Yw))),rest,j),
    (f39 N x_1.1 o0_1 o0'_1 o1_1).bind fun r_3=>
    chk (decide ((Nat.succ (List.length o2))≤z31)) <|
    kb (r_3.2.1.1,r_3.2.1.2.1,r_3.2.2.1,(o2++((x_1.1.1,(x_1.1.2.1,(r_3.1.2.1,()))) :: ([]:List Yw))),rest,j)],
   (f39 N x_1.1 o0_1 o0'_1 o1_1).bind fun r_4=>
   chk (decide ((Nat.succ (List.length o2))≤z31)) <|
   kb (r_4.2.1.1,r_4.2.1.2.1,r_4.2.2.1,(o2++((x_1.1.1,(x_1.1.2.1,(r_4.1.2.1,()))) :: ([]:List Yw))),rest,j)]
def f42 (N:Nat) (o0:Yd) (o0':List Ya) (o1:List Yi):Option ((Ym×(Ys×(Yj×((List Yw)×Unit))))):=
 iter (fun w=>zhl N (len o1) w
  (fun o0_2 o0'_2 o1_2 o2_1=>
   (f64 N () o2_1).bind fun r_5=>
   some (((),((),())),((o0_2,(o0'_2,((),()))),(o1_2,(r_5.2.1,())))))) N (o0,o0',o1,([]:List Yw),(zbl (List.length o1)),(-1))
def fi42:SForm:=⟨[(0,(.bptr 0 []))],[.con (.agg (.pr (.val .yf) (.pr (.val .yc) (.pr (.mref 1) .un)))),.map .yg .ya]⟩
def fo42:SForm:=⟨[(0,(.bptr 0 [])),(2,(.ref 2))],[.con (.agg (.pr (.val .yf) (.pr (.val .yc) (.pr (.mref 1) .un)))),.map .yg .ya,.row .yp]⟩
def c42 (N:Nat):Callee:=.mut fi42 [0] fo42 fun d=>f42 N d.2.1.1 d.2.1.2.1 d.2.2.1
def F42_3:SForm:=⟨[(0,(.bptr 0 [])),(3,(.ref 2)),(9,(.bptr 3 []))],[.con (.agg (.pr (.val .yf) (.pr (.val .yc) (.pr (.mref 1) .un)))),.map .yg .ya,.row .yp,.iter 1]⟩
def G42_3 (N:Nat):(R:Type)->F42_3.den->(AExit->St->Option R)->Option R:=fun R d k=>iter (fun kb=>zhl N d.2.2.2.2.1.1 kb
  (fun y0 y1 y2 y3=>k (.exit 0) (St.of [(0,(.bptr 0 [])),(3,(.ref 2 [] 0))] [.cell (.tup (.agg (.pr (.data .yf y0) (.pr (.data .yc y1) (.pr (.mref 1) .un))))),.map .yg .ya y2,.row .yp y3 0]))) N (d.2.1.1,d.2.1.2.1,d.2.2.1,d.2.2.2.1,d.2.2.2.2.1.2.1,d.2.2.2.2.1.2.2)
def lp42 (N:Nat):Nat->Option z0h:=fun r=>cond (Nat.beq r 3) (some fun R sl os k=>F42_3.take sl os fun d=>G42_3 N R d k) (none)
def x42 (N:Nat):Ctx:=(mkX N 28 [(39,[c39 N]),(64,[c64 N])] [(3,⟨[0,3,9],[(3,none,.row .yp)]⟩)] [(3,[(0,⟨[0,3],[]⟩)])] ⟨[0,2],[]⟩ (fun _=>none) (lp42 N))
noncomputable def b42:Code:=((Go.Proofs.Tryz.f42).body).getD .skip
theorem s42_3 (N:Nat) {R:Type} (k:AExit->St->Option R) (o3':Int) (kb:List Yo->List Obj->Option R) (x:Yd×List Ya×Yj×(List Yw)×List Int×Int):z0q (x42 N) (z03 3 (z00 b42)) (St.of [(0,(.bptr 0 [])),(3,(.ref 2 [] 0)),(9,(.bptr 3 []))] [.cell (.tup (.agg (.pr (.data .yf x.1) (.pr (.data .yc x.2.1) (.pr (.mref 1) .un))))),.map .yg .ya x.2.2.1,.row .yp x.2.2.2.1 0,.cell (.tup (.pr (.mref 1) (.pr (.data .ya o3') (.pr (.data .yb x.2.2.2.2.1) (.pr (.data .ya x.2.2.2.2.2) .un)))))]) (z12 (x42 N) 3 ⟨[0,3,9],[(3,none,.row .yp)]⟩ kb k)=zhl N o3' (fun y=>kb [(0,(.bptr 0 [])),(3,(.ref 2 [] 0)),(9,(.bptr 3 []))] [.cell (.tup (.agg (.pr (.data .yf y.1) (.pr (.data .yc y.2.1) (.pr (.mref 1) .un))))),.map .yg .ya y.2.2.1,.row .yp y.2.2.2.1 0,.cell (.tup (.pr (.mref 1) (.pr (.data .ya o3') (.pr (.data .yb y.2.2.2.2.1) (.pr (.data .ya y.2.2.2.2.2) .un)))))])
  (fun y0 y1 y2 y3=>k (.exit 0) (St.of [(0,(.bptr 0 [])),(3,(.ref 2 [] 0))] [.cell (.tup (.agg (.pr (.data .yf y0) (.pr (.data .yc y1) (.pr (.mref 1) .un))))),.map .yg .ya y2,.row .yp y3 0])) x:=by kernel_rfl
theorem l42_3 (N:Nat):z0f (x42 N) (z03 3 (z00 b42)):=
 z0b (G42_3 N) (by kernel_rfl) (by kernel_rfl) (by kernel_rfl) fun R k d=>
  z0a (st:=fun (x:Yd×List Ya×Yj×(List Yw)×List Int×Int)=>([(0,(.bptr 0 [])),(3,(.ref 2 [] 0)),(9,(.bptr 3 []))],[.cell (.tup (.agg (.pr (.data .yf x.1) (.pr (.data .yc x.2.1) (.pr (.mref 1) .un))))),.map .yg .ya x.2.2.1,.row .yp x.2.2.2.1 0,.cell (.tup (.pr (.mref 1) (.pr (.data .ya d.2.2.2.2.1.1) (.pr (.data .yb x.2.2.2.2.1) (.pr (.data .ya x.2.2.2.2.2) .un)))))])) (s42_3 N k d.2.2.2.2.1.1) N (d.2.1.1,d.2.1.2.1,d.2.2.1,d.2.2.2.1,d.2.2.2.2.1.2.1,d.2.2.2.2.1.2.2)
theorem e42 (N:Nat) (o0:Yd) (o0':List Ya) (o1:List Yi):z9m (x42 N) fo42 b42 (St.of [(0,(.bptr 0 []))] [.cell (.tup (.agg (.pr (.data .yf o0) (.pr (.data .yc o0') (.pr (.mref 1) .un))))),.map .yg .ya o1])=f42 N o0 o0' o1:=by kernel_rfl
theorem k42 (N:Nat):z04 Go.Proofs.Tryz.prog 42 (c42 N):=
 z2a (fn:=Go.Proofs.Tryz.f42) (body:=b42) (c:=x42 N) (rs:=[2]) Go.Proofs.Tryz.func42 (by kernel_rfl) (by kernel_rfl) ⟨ttL_ok,z0k,z0m,z0n,z0l,z02 (z01 (k39 N)) (z02 (z01 (k64 N)) (z09))⟩ mixed (by kernel_rfl) (zL (by kernel_rfl)) (by kernel_rfl) (by kernel_rfl) (by kernel_rfl) (z2o (by kernel_rfl))
  (z06 (by kernel_rfl:z00 b42=[z03 3 (z00 b42)]) (.cons (l42_3 N) .nil)) fun d=>e42 N d.2.1.1 d.2.1.2.1 d.2.2.1
def f15 (N:Nat) (a0:Yd) (a1:List Ya) (a2:Int):Option (Int×Yp×(List Yw)×Int):=
 (f37 N a0 a1 a2).bind fun r=>
 cond (!(decide (r=0)))
  (some (0,(([]:List Yk),(([]:List Yw),r))))
  (cond (decide (12 < a0.1))
   (some (0,(([]:List Yk),(([]:List Yw),4))))
   ((f24 N a0).bind fun r_1=>
   (f38 N (r_1,(a2,())) a0 a1 ([]:List Yi)).bind fun r_2=>
   cond (!r_2.1.2.1)
    (some (0,(([]:List Yk),(([]:List Yw),4))))
    ((f39 N (r_1,(a2,())) r_2.2.1.1 r_2.2.1.2.1 r_2.2.2.1).bind fun r_3=>
    (f40 N (r_1,(a2,())) r_3.2.1.1 r_3.2.1.2.1 r_3.2.2.1).bind fun r_4=>
    cond (!r_4.1.2.1)
     ((f41 N (r_1,(a2,())) r_4.2.1.1 r_4.2.1.2.1 r_4.2.2.1).bind fun r_5=>
     (f42 N r_5.2.1.1 r_5.2.1.2.1 r_5.2.2.1).bind fun r_6=>
     some (r_3.1.2.1,(r_5.2.2.2.1,(r_6.2.2.2.1,0))))
     ((f42 N r_4.2.1.1 r_4.2.1.2.1 r_4.2.2.1).bind fun r_7=>
     some (r_3.1.2.1,(([]:List Yk),(r_7.2.2.2.1,0)))))))
def c15 (N:Nat):Callee:=.pure (.pr (.val .yf) (.pr (.val .yc) (.pr (.val .ya) .un))) [.ya,.ym,(.sl true .yp),.ya] fun d=>f15 N d.1 d.2.1 d.2.2.1
def lp15 (N:Nat):Nat->Option z0h:=fun r=>none
def x15 (N:Nat):Ctx:=(mkX N 52 [(37,[c37 N]),(24,[c24 N]),(38,[c38 N]),(39,[c39 N]),(40,[c40 N]),(41,[c41 N]),(42,[c42 N])] [] [] ⟨[6,7,8,9],[]⟩ (fun _=>none) (lp15 N))
noncomputable def b15:Code:=((Go.Proofs.Tryz.f15).body).getD .skip
theorem e15 (N:Nat) (a0:Yd) (a1:List Ya) (a2:Int):z1g (x15 N) [.ya,.ym,(.sl true .yp),.ya] [.tmp 6,.tmp 7,.tmp 8,.tmp 9] b15 (entry (.pr (.val .yf) (.pr (.val .yc) (.pr (.val .ya) .un))) (a0,(a1,(a2,()))))=f15 N a0 a1 a2:=by kernel_rfl
theorem k15 (N:Nat):z04 Go.Proofs.Tryz.prog 15 (c15 N):=
 z1h (fn:=Go.Proofs.Tryz.f15) (body:=b15) (c:=x15 N) Go.Proofs.Tryz.func15 (by kernel_rfl) (by kernel_rfl) ⟨ttL_ok,z0k,z0m,z0n,z0l,z02 (z01 (k37 N)) (z02 (z01 (k24 N)) (z02 (z01 (k38 N)) (z02 (z01 (k39 N)) (z02 (z01 (k40 N)) (z02 (z01 (k41 N)) (z02 (z01 (k42 N)) (z09)))))))⟩ mixed (by kernel_rfl) (zL (by kernel_rfl)) (by kernel_rfl) (by decide)
  (z06 (by kernel_rfl:z00 b15=[]) .nil) fun d=>e15 N d.1 d.2.1 d.2.2.1
def zpt {R:Type} (N:Nat) (t13:List Int) (t14:Int) (kb:Int×List Int×Yl->Option R) (kx0:Ya->Option R):Int×List Int×Yl->Option R:=
 fun (t15,o0,o1)=>
  cond (decide (t15 < t14))
   ((idx t13 t15).bind fun x=>
   cond (!(Option.isSome (z80 (z2t .ya) o1 x)))
    (chk (decide ((List.length o1)≤z31)) <|
    chk (decide ((Nat.succ (List.length o0))≤z31)) <|
    kb ((z0g (t15+1)),(o0++((len o1) :: ([]:List Int))),(zb1 (z2t .ya) o1 x (len o1))))
    (chk (decide ((Nat.succ (List.length o0))≤z31)) <|
    kb ((z0g (t15+1)),(o0++((Option.getD (z80 (z2t .ya) o1 x) 0) :: ([]:List Int))),o1)))
   (kx0 o0)
def f65 (N:Nat) (a0:List Int):Option Ya:=
 chk ((decide (0≤(len a0))) && (decide ((len a0)≤((z31:Nat):Int)))) <|
 iter (fun w=>zpt N a0 (len a0) w
  (fun o0_1=>
   some o0_1)) N (0,(List.replicate (Int.toNat 0) 0:List Int),([]:List Yh))
def c65 (N:Nat):Callee:=.pure (.pr (.val .yb) .un) [.yi] fun d=>f65 N d.1
def F65_4:SForm:=⟨[(15,(.val .ya)),(4,(.ref 0)),(3,(.mref 1)),(13,(.val .yb)),(14,(.val .ya))],[.row .ya,.map .ya .ya]⟩
def G65_4 (N:Nat):(R:Type)->F65_4.den->(AExit->St->Option R)->Option R:=fun R d k=>iter (fun kb=>zpt N d.1.2.2.2.1 d.1.2.2.2.2.1 kb
  (fun y0=>k (.exit 0) (St.of [(4,(.ref 0 [] 0))] [.row .ya y0 0]))) N (d.1.1,d.2.1,d.2.2.1)
def lp65 (N:Nat):Nat->Option z0h:=fun r=>cond (Nat.beq r 4) (some fun R sl os k=>F65_4.take sl os fun d=>G65_4 N R d k) (none)
def x65 (N:Nat):Ctx:=(mkX N 38 [] [(4,⟨[15,4,3,13,14],[]⟩)] [(4,[(0,⟨[4],[]⟩)])] ⟨[2],[]⟩ (fun _=>none) (lp65 N))
noncomputable def b65:Code:=((Go.Proofs.Tryz.f65).body).getD .skip
theorem s65_4 (N:Nat) {R:Type} (k:AExit->St->Option R) (t13:List Int) (t14:Int) (kb:List Yo->List Obj->Option R) (x:Int×List Int×Yl):z0q (x65 N) (z03 4 (z00 b65)) (St.of [(15,(.data .ya x.1)),(4,(.ref 0 [] 0)),(3,(.mref 1)),(13,(.data .yb t13)),(14,(.data .ya t14))] [.row .ya x.2.1 0,.map .ya .ya x.2.2]) (z12 (x65 N) 4 ⟨[15,4,3,13,14],[]⟩ kb k)=zpt N t13 t14 (fun y=>kb [(15,(.data .ya y.1)),(4,(.ref 0 [] 0)),(3,(.mref 1)),(13,(.data .yb t13)),(14,(.data .ya t14))] [.row .ya y.2.1 0,.map .ya .ya y.2.2])
  (fun y0=>k (.exit 0) (St.of [(4,(.ref 0 [] 0))] [.row .ya y0 0])) x:=by kernel_rfl
theorem l65_4 (N:Nat):z0f (x65 N) (z03 4 (z00 b65)):=
 z0b (G65_4 N) (by kernel_rfl) (by kernel_rfl) (by kernel_rfl) fun R k d=>
  z0a (st:=fun (x:Int×List Int×Yl)=>([(15,(.data .ya x.1)),(4,(.ref 0 [] 0)),(3,(.mref 1)),(13,(.data .yb d.1.2.2.2.1)),(14,(.data .ya d.1.2.2.2.2.1))],[.row .ya x.2.1 0,.map .ya .ya x.2.2])) (s65_4 N k d.1.2.2.2.1 d.1.2.2.2.2.1) N (d.1.1,d.2.1,d.2.2.1)
theorem e65 (N:Nat) (a0:List Int):z1g (x65 N) [.yi] [.tmp 2] b65 (entry (.pr (.val .yb) .un) (a0,()))=f65 N a0:=by kernel_rfl
theorem k65 (N:Nat):z04 Go.Proofs.Tryz.prog 65 (c65 N):=
 z1h (fn:=Go.Proofs.Tryz.f65) (body:=b65) (c:=x65 N) Go.Proofs.Tryz.func65 (by kernel_rfl) (by kernel_rfl) ⟨ttL_ok,z0k,z0m,z0n,z0l,z09⟩ mixed (by kernel_rfl) (zL (by kernel_rfl)) (by kernel_rfl) (by decide)
  (z06 (by kernel_rfl:z00 b65=[z03 4 (z00 b65)]) (.cons (l65_4 N) .nil)) fun d=>e65 N d.1
def zlh {R:Type} (N:Nat) (t19:List Int) (t1:List Int) (t20:Int) (o0:Yd) (kb:Int->Option R) (kret:Int->Option R) (kx0:Unit->Option R):Int->Option R:=
 fun t21=>
  cond (decide (t21 < t20))
   ((idx t19 t21).bind fun x=>
   (cond (decide (x < 0))
     (some true)
     (some (decide ((len o0.2.1)≤x)))).bind fun b=>
   cond b
    (kret 3)
    (kb (z0g (t21+1))))
   (kx0 ())
def zcc {R:Type} (N:Nat) (t48:List Int) (t38_1:List Int) (t39_1:Int) (t40_1:Int) (t49:Int) (o0_2:Yd) (kb:Int×List Int->Option R) (kx4:Ya->Option R):Int×List Int->Option R:=
 fun (t50,o1_1)=>
  cond (decide (t50 < t49))
   ((idx t48 t50).bind fun x_3=>
   chk (inb o1_1 t50) <|
   (idx o1_1 t50).bind fun x_4=>
   chk (inb o1_1 t50) <|
   (idx o1_1 t50).bind fun x_5=>
   (idx o1_1 t50).bind fun x_6=>
   kb ((z0g (t50+1)),(zar o1_1 t50 (z0g ((z0g (x_4*o0_2.1))+x_3)))))
   (kx4 o1_1)
def zff {R:Type} (N:Nat) (t38:List Int) (t39:Int) (o0_1:Yd) (kb:Int×List Int->Option R) (kx2:Ya->Option R):Int×List Int->Option R:=
 fun (t40,o1)=>
  cond (decide (t40 < t39))
   ((idx t38 t40).bind fun x_1=>
   (idx o0_1.2.1 x_1).bind fun x_2=>
   iter (fun w=>zcc N x_2 t38 t39 t40 (len x_2) o0_1 w
    (fun o1_2=>
     (f65 N o1_2).bind fun r_1=>
     kb ((z0g (t40+1)),r_1))) N (0,o1))
   (kx2 o1)
def f44 (N:Nat) (a0:Yd) (a1:List Int):Option (List Int×Int):=
 (f21 N a0).bind fun r=>
 cond (!(decide (r=0)))
  (some (([]:List Int),r))
  (iter (fun w=>zlh N a1 a1 (len a1) a0 w
   (fun t5=>
    some (([]:List Int),t5))
   (fun (_:Unit)=>
    chk (((decide (0≤a0.1)) && (decide (a0.1≤a0.1))) && (decide (a0.1≤((z31:Nat):Int)))) <|
    iter (fun w=>zff N a1 (len a1) a0 w
     (fun o0_3=>
      (f65 N o0_3).bind fun r_2=>
      some (r_2,0))) N (0,(List.replicate (Int.toNat a0.1) 0:List Int)))) N 0)
def c44 (N:Nat):Callee:=.pure (.pr (.val .yf) (.pr (.val .yb) .un)) [.yi,.ya] fun d=>f44 N d.1 d.2.1
def F44_5:SForm:=⟨[(21,(.val .ya)),(2,(.bptr 0 [])),(19,(.val .yb)),(1,(.val .yb)),(20,(.val .ya))],[.cell (.val .yf)]⟩
def G44_5 (N:Nat):(R:Type)->F44_5.den->(AExit->St->Option R)->Option R:=fun R d k=>iter (fun kb=>zlh N d.1.2.2.1 d.1.2.2.2.1 d.1.2.2.2.2.1 d.2.1 kb
  (fun y0=>k .ret (St.of [(4,.nilS),(5,(.data .ya y0))] []))
  (fun _=>k (.exit 0) (St.of [(2,(.bptr 0 [])),(1,(.data .yb d.1.2.2.2.1))] [.cell (.data .yf d.2.1)]))) N d.1.1
def F44_15:SForm:=⟨[(50,(.val .ya)),(2,(.bptr 0 [])),(9,(.ref 1)),(48,(.val .yb)),(38,(.val .yb)),(39,(.val .ya)),(40,(.val .ya)),(49,(.val .ya))],[.cell (.val .yf),.row .ya]⟩
def zzx (N:Nat):(R:Type)->F44_15.den->(AExit->St->Option R)->Option R:=fun R d k=>iter (fun kb=>zcc N d.1.2.2.2.1 d.1.2.2.2.2.1 d.1.2.2.2.2.2.1 d.1.2.2.2.2.2.2.1 d.1.2.2.2.2.2.2.2.1 d.2.1 kb
  (fun y4=>k (.exit 4) (St.of [(2,(.bptr 0 [])),(38,(.data .yb d.1.2.2.2.2.1)),(39,(.data .ya d.1.2.2.2.2.2.1)),(40,(.data .ya d.1.2.2.2.2.2.2.1)),(9,(.ref 1 [] 0))] [.cell (.data .yf d.2.1),.row .ya y4 0]))) N (d.1.1,d.2.2.1)
def F44_12:SForm:=⟨[(2,(.bptr 0 [])),(9,(.ref 1)),(40,(.val .ya)),(38,(.val .yb)),(39,(.val .ya))],[.cell (.val .yf),.row .ya]⟩
def zzy (N:Nat):(R:Type)->F44_12.den->(AExit->St->Option R)->Option R:=fun R d k=>iter (fun kb=>zff N d.1.2.2.2.1 d.1.2.2.2.2.1 d.2.1 kb
  (fun y0=>k (.exit 2) (St.of [(9,(.ref 0 [] 0))] [.row .ya y0 0]))) N (d.1.2.2.1,d.2.2.1)
def lp44 (N:Nat):Nat->Option z0h:=fun r=>cond (Nat.beq r 5) (some fun R sl os k=>F44_5.take sl os fun d=>G44_5 N R d k) (cond (Nat.beq r 15) (some fun R sl os k=>F44_15.take sl os fun d=>zzx N R d k) (cond (Nat.beq r 12) (some fun R sl os k=>F44_12.take sl os fun d=>zzy N R d k) (none)))
def x44 (N:Nat):Ctx:=(mkX N 73 [(21,[c21 N]),(65,[c65 N])] [(5,⟨[21,2,19,1,20],[]⟩),(12,⟨[2,9,40,38,39],[]⟩),(15,⟨[50,2,9,48,38,39,40,49],[]⟩)] [(5,[(0,⟨[2,1],[]⟩)]),(12,[(2,⟨[9],[]⟩)]),(15,[(4,⟨[2,38,39,40,9],[]⟩)])] ⟨[4,5],[]⟩ (fun _=>none) (lp44 N))
noncomputable def b44:Code:=((Go.Proofs.Tryz.f44).body).getD .skip
theorem s44_5 (N:Nat) {R:Type} (k:AExit->St->Option R) (t19:List Int) (t1:List Int) (t20:Int) (o0:Yd) (kb:List Yo->List Obj->Option R) (x:Int):z0q (x44 N) (z03 5 (z00 b44)) (St.of [(21,(.data .ya x)),(2,(.bptr 0 [])),(19,(.data .yb t19)),(1,(.data .yb t1)),(20,(.data .ya t20))] [.cell (.data .yf o0)]) (z12 (x44 N) 5 ⟨[21,2,19,1,20],[]⟩ kb k)=zlh N t19 t1 t20 o0 (fun y=>kb [(21,(.data .ya y)),(2,(.bptr 0 [])),(19,(.data .yb t19)),(1,(.data .yb t1)),(20,(.data .ya t20))] [.cell (.data .yf o0)])
  (fun y0=>k .ret (St.of [(4,.nilS),(5,(.data .ya y0))] []))
  (fun _=>k (.exit 0) (St.of [(2,(.bptr 0 [])),(1,(.data .yb t1))] [.cell (.data .yf o0)])) x:=by kernel_rfl
theorem l44_5 (N:Nat):z0f (x44 N) (z03 5 (z00 b44)):=
 z0b (G44_5 N) (by kernel_rfl) (by kernel_rfl) (by kernel_rfl) fun R k d=>
  z0a (st:=fun (x:Int)=>([(21,(.data .ya x)),(2,(.bptr 0 [])),(19,(.data .yb d.1.2.2.1)),(1,(.data .yb d.1.2.2.2.1)),(20,(.data .ya d.1.2.2.2.2.1))],[.cell (.data .yf d.2.1)])) (s44_5 N k d.1.2.2.1 d.1.2.2.2.1 d.1.2.2.2.2.1 d.2.1) N d.1.1
theorem s44_15 (N:Nat) {R:Type} (k:AExit->St->Option R) (t48:List Int) (t38_1:List Int) (t39_1:Int) (t40_1:Int) (t49:Int) (o0_2:Yd) (kb:List Yo->List Obj->Option R) (x:Int×List Int):z0q (x44 N) (z03 15 (z00 b44)) (St.of [(50,(.data .ya x.1)),(2,(.bptr 0 [])),(9,(.ref 1 [] 0)),(48,(.data .yb t48)),(38,(.data .yb t38_1)),(39,(.data .ya t39_1)),(40,(.data .ya t40_1)),(49,(.data .ya t49))] [.cell (.data .yf o0_2),.row .ya x.2 0]) (z12 (x44 N) 15 ⟨[50,2,9,48,38,39,40,49],[]⟩ kb k)=zcc N t48 t38_1 t39_1 t40_1 t49 o0_2 (fun y=>kb [(50,(.data .ya y.1)),(2,(.bptr 0 [])),(9,(.ref 1 [] 0)),(48,(.data .yb t48)),(38,(.data .yb t38_1)),(39,(.data .ya t39_1)),(40,(.data .ya t40_1)),(49,(.data .ya t49))] [.cell (.data .yf o0_2),.row .ya y.2 0])
  (fun y4=>k (.exit 4) (St.of [(2,(.bptr 0 [])),(38,(.data .yb t38_1)),(39,(.data .ya t39_1)),(40,(.data .ya t40_1)),(9,(.ref 1 [] 0))] [.cell (.data .yf o0_2),.row .ya y4 0])) x:=by kernel_rfl
theorem l44_15 (N:Nat):z0f (x44 N) (z03 15 (z00 b44)):=
 z0b (zzx N) (by kernel_rfl) (by kernel_rfl) (by kernel_rfl) fun R k d=>
  z0a (st:=fun (x:Int×List Int)=>([(50,(.data .ya x.1)),(2,(.bptr 0 [])),(9,(.ref 1 [] 0)),(48,(.data .yb d.1.2.2.2.1)),(38,(.data .yb d.1.2.2.2.2.1)),(39,(.data .ya d.1.2.2.2.2.2.1)),(40,(.data .ya d.1.2.2.2.2.2.2.1)),(49,(.data .ya d.1.2.2.2.2.2.2.2.1))],[.cell (.data .yf d.2.1),.row .ya x.2 0])) (s44_15 N k d.1.2.2.2.1 d.1.2.2.2.2.1 d.1.2.2.2.2.2.1 d.1.2.2.2.2.2.2.1 d.1.2.2.2.2.2.2.2.1 d.2.1) N (d.1.1,d.2.2.1)
theorem s44_12 (N:Nat) {R:Type} (k:AExit->St->Option R) (t38:List Int) (t39:Int) (o0_1:Yd) (kb:List Yo->List Obj->Option R) (x:Int×List Int):z0q (x44 N) (z03 12 (z00 b44)) (St.of [(2,(.bptr 0 [])),(9,(.ref 1 [] 0)),(40,(.data .ya x.1)),(38,(.data .yb t38)),(39,(.data .ya t39))] [.cell (.data .yf o0_1),.row .ya x.2 0]) (z12 (x44 N) 12 ⟨[2,9,40,38,39],[]⟩ kb k)=zff N t38 t39 o0_1 (fun y=>kb [(2,(.bptr 0 [])),(9,(.ref 1 [] 0)),(40,(.data .ya y.1)),(38,(.data .yb t38)),(39,(.data .ya t39))] [.cell (.data .yf o0_1),.row .ya y.2 0])
  (fun y0=>k (.exit 2) (St.of [(9,(.ref 0 [] 0))] [.row .ya y0 0])) x:=by kernel_rfl
theorem l44_12 (N:Nat):z0f (x44 N) (z03 12 (z00 b44)):=
 z0b (zzy N) (by kernel_rfl) (by kernel_rfl) (by kernel_rfl) fun R k d=>
  z0a (st:=fun (x:Int×List Int)=>([(2,(.bptr 0 [])),(9,(.ref 1 [] 0)),(40,(.data .ya x.1)),(38,(.data .yb d.1.2.2.2.1)),(39,(.data .ya d.1.2.2.2.2.1))],[.cell (.data .yf d.2.1),.row .ya x.2 0])) (s44_12 N k d.1.2.2.2.1 d.1.2.2.2.2.1 d.2.1) N (d.1.2.2.1,d.2.2.1)
theorem e44 (N:Nat) (a0:Yd) (a1:List Int):z1g (x44 N) [.yi,.ya] [.tmp 4,.tmp 5] b44 (entry (.pr (.val .yf) (.pr (.val .yb) .un)) (a0,(a1,())))=f44 N a0 a1:=by kernel_rfl
theorem k44 (N:Nat):z04 Go.Proofs.Tryz.prog 44 (c44 N):=
 z1h (fn:=Go.Proofs.Tryz.f44) (body:=b44) (c:=x44 N) Go.Proofs.Tryz.func44 (by kernel_rfl) (by kernel_rfl) ⟨ttL_ok,z0k,z0m,z0n,z0l,z02 (z01 (k21 N)) (z02 (z01 (k65 N)) (z09))⟩ mixed (by kernel_rfl) (zL (by kernel_rfl)) (by kernel_rfl) (by decide)
  (z06 (by kernel_rfl:z00 b44=[z03 5 (z00 b44),z03 12 (z00 b44),z03 15 (z00 b44)]) (.cons (l44_5 N) (.cons (l44_12 N) (.cons (l44_15 N) .nil)))) fun d=>e44 N d.1 d.2.1
def f46 (N:Nat) (a0:List Int):Option Ya:=chk (decide (0+List.length a0≤z31)) (some a0)
def c46 (N:Nat):Callee:=.pure (.pr (.val .yb) .un) [.yi] fun d=>f46 N d.1
def x46 (N:Nat):Ctx:={ fuel:=N,tt:=z1k ttL,mt:=z1k mtL,ntmps:=8,env:=fun f=>(z1k [] f).getD [],cut:=fun _=>none,exits:=fun _ _=>none,res:=⟨[2],[]⟩,own:=fun _=>none,lp:=fun _=>none,eqs:=fun T=>z2e T eqL,ct:=fun T=>z2e T ctL,ms:=z9k msL }
theorem k46 (N:Nat):z04 Go.Proofs.Tryz.prog 46 (c46 N):=
 zu6 (fn:=Go.Proofs.Tryz.f46) (c:=x46 N) (p:=.pr (.val .yb) .un) (ts:=[.yi]) (t:=.ya) (σ0:=fun d=>⟨(entry (.pr (.val .yb) .un) d |>.set 2 .nilS).slots,fun _=>none,8⟩) Go.Proofs.Tryz.func46 (by kernel_rfl) rfl ⟨ttL_ok,z0k,z0m,z0n,z0l,z09⟩ mixed (by kernel_rfl) (zL (by kernel_rfl)) (by kernel_rfl)
  (AllL.mem .nil) (AllL.mem .nil) (AllL.mem .nil) (fun d=>by kernel_rfl) rfl rfl rfl rfl rfl rfl (zL (by kernel_rfl)) (zL (by kernel_rfl)) (by kernel_rfl:(x46 N).tt 35=some .yb) (fun d=>d.1) (fun d=>by kernel_rfl)
  (fun d b hb=>match d,b,hb with
   | (a0,u),false,_=>by kernel_rfl
   | ([],u),true,_=>by kernel_rfl
   | (_ :: _,u),true,hb=>nomatch hb rfl)
def zfg {R:Type} (N:Nat) (r43v2:Int->Int->Ya->Yd->Yq->Int->Ya->Option (Ybb)) (t0_1:Int) (o0_1:List Int) (kb:Int×Yd×List Ya×Int×List Int->Option R) (kx0:Yd->Yq->Int->Ya->Option R):Int×Yd×List Ya×Int×List Int->Option R:=
 fun (t15,o2_1,o3_1,o4,o6)=>
  cond (decide (t15 < (len o2_1.2.1)))
   (z17 [z17 [(f46 N o0_1).bind fun r_3=>
     chk (decide ((Nat.succ (List.length r_3))≤z31)) <|
     (r43v2 (z0g (t0_1-1)) (z0g (t15+1)) (r_3++(t15 :: ([]:List Int))) o2_1 o3_1 o4 o6).bind fun r_4=>
     kb ((z0g (t15+1)),r_4.2.2.1,r_4.2.2.2.1,r_4.2.2.2.2.1,r_4.2.2.2.2.2.2.1),
     (f46 N o0_1).bind fun r_5=>
     chk (decide ((Nat.succ (List.length r_5))≤z31)) <|
     (r43v2 (z0g (t0_1-1)) (z0g (t15+1)) (r_5++(t15 :: ([]:List Int))) o2_1 o3_1 o4 o6).bind fun r_6=>
     kb ((z0g (t15+1)),r_6.2.2.1,r_6.2.2.2.1,r_6.2.2.2.2.1,r_6.2.2.2.2.2.2.1)],
    (f46 N o0_1).bind fun r_7=>
    z17 [chk (decide ((Nat.succ (List.length r_7))≤z31)) <|
     (r43v2 (z0g (t0_1-1)) (z0g (t15+1)) (r_7++(t15 :: ([]:List Int))) o2_1 o3_1 o4 o6).bind fun r_8=>
     kb ((z0g (t15+1)),r_8.2.2.1,r_8.2.2.2.1,r_8.2.2.2.2.1,r_8.2.2.2.2.2.2.1),
     z17 [chk (decide ((Nat.succ (List.length r_7))≤z31)) <|
      (r43v2 (z0g (t0_1-1)) (z0g (t15+1)) (r_7++(t15 :: ([]:List Int))) o2_1 o3_1 o4 o6).bind fun r_9=>
      kb ((z0g (t15+1)),r_9.2.2.1,r_9.2.2.2.1,r_9.2.2.2.2.1,r_9.2.2.2.2.2.2.1),
      chk (decide ((Nat.succ (List.length r_7))≤z31)) <|
      (r43v2 (z0g (t0_1-1)) (z0g (t15+1)) (r_7++(t15 :: ([]:List Int))) o2_1 o3_1 o4 o6).bind fun r_10=>
      kb ((z0g (t15+1)),r_10.2.2.1,r_10.2.2.2.1,r_10.2.2.2.2.1,r_10.2.2.2.2.2.2.1)]],
    z17 [(f46 N o0_1).bind fun r_11=>
     chk (decide ((Nat.succ (List.length r_11))≤z31)) <|
     (r43v2 (z0g (t0_1-1)) (z0g (t15+1)) (r_11++(t15 :: ([]:List Int))) o2_1 o3_1 o4 o6).bind fun r_12=>
     kb ((z0g (t15+1)),r_12.2.2.1,r_12.2.2.2.1,r_12.2.2.2.2.1,r_12.2.2.2.2.2.2.1),
     (f46 N o0_1).bind fun r_13=>
     z17 [chk (decide ((Nat.succ (List.length r_13))≤z31)) <|
      (r43v2 (z0g (t0_1-1)) (z0g (t15+1)) (r_13++(t15 :: ([]:List Int))) o2_1 o3_1 o4 o6).bind fun r_14=>
      kb ((z0g (t15+1)),r_14.2.2.1,r_14.2.2.2.1,r_14.2.2.2.2.1,r_14.2.2.2.2.2.2.1),
      chk (decide ((Nat.succ (List.length r_13))≤z31)) <|
      (r43v2 (z0g (t0_1-1)) (z0g (t15+1)) (r_13++(t15 :: ([]:List Int))) o2_1 o3_1 o4 o6).bind fun r_15=>
      kb ((z0g (t15+1)),r_15.2.2.1,r_15.2.2.2.1,r_15.2.2.2.2.1,r_15.2.2.2.2.2.2.1)]]])
   (kx0 o2_1 o3_1 o4 o6)
def zup (N:Nat) (r43v2:Int->Int->Ya->Yd->Yq->Int->Ya->Option (Ybb)) (t0:Int) (t1:Int) (o0:List Int) (o1:Yd) (o2:List Ya) (o3:Int) (o5:List Int):Option (Ybb):=
 cond (decide (t0=0))
  ((f44 N o1 o0).bind fun r=>
  (f45 N o1 o2 r.1).bind fun r_1=>
  cond (decide (o3 < r_1.1))
   ((f46 N o0).bind fun r_2=>
   some (((),((),((),((),((),((),())))))),(o0,(o1,(o2,(r_1.1,((),(r_2,(((),((),((),((),((),()))))),())))))))))
   (some (((),((),((),((),((),((),())))))),(o0,(o1,(o2,(o3,((),(o5,(((),((),((),((),((),()))))),()))))))))))
  (iter (fun w=>zfg N r43v2 t0 o0 w
   (fun o1_1 o2_2 o3_2 o5_1=>
    some (((),((),((),((),((),((),())))))),(o0,(o1_1,(o2_2,(o3_2,((),(o5_1,(((),((),((),((),((),()))))),())))))))))) N (t1,o1,o2,o3,o5))
def fi43v2B:SForm:=⟨[(0,(.val .ya)),(1,(.val .ya)),(2,(.ref 0)),(3,(.bptr 1 [])),(4,(.bptr 2 [])),(5,(.bptr 3 [])),(6,(.bptr 4 [])),(7,(.bptr 6 []))],[.row .ya,.cell (.val .yf),.cell (.val .yc),.cell (.val .ya),.cell (.ref 5),.row .ya,.cell (.clos 43 (.pr (.bptr 1 []) (.pr (.bptr 2 []) (.pr (.bptr 3 []) (.pr (.bptr 4 []) (.pr (.bptr 6 []) .un))))))]⟩
def zu3:SForm:=⟨[(2,(.ref 0)),(3,(.bptr 1 [])),(4,(.bptr 2 [])),(5,(.bptr 3 [])),(6,(.bptr 4 [])),(7,(.bptr 6 []))],[.row .ya,.cell (.val .yf),.cell (.val .yc),.cell (.val .ya),.cell (.ref 5),.row .ya,.cell (.clos 43 (.pr (.bptr 1 []) (.pr (.bptr 2 []) (.pr (.bptr 3 []) (.pr (.bptr 4 []) (.pr (.bptr 6 []) .un))))))]⟩
def c43v2B (N:Nat) (r43v2:Int->Int->Ya->Yd->Yq->Int->Ya->Option (Ybb)):Callee:=.mut fi43v2B [2,3,4,5,6,7] zu3 fun d=>zup N r43v2 d.1.1 d.1.2.1 d.2.1 d.2.2.1 d.2.2.2.1 d.2.2.2.2.1 d.2.2.2.2.2.2.1
def zqq:SForm:=⟨[(15,(.val .ya)),(2,(.ref 0)),(0,(.val .ya)),(7,(.bptr 1 [])),(3,(.bptr 2 [])),(4,(.bptr 3 [])),(5,(.bptr 4 [])),(6,(.bptr 5 []))],[.row .ya,.cell (.clos 43 (.pr (.bptr 2 []) (.pr (.bptr 3 []) (.pr (.bptr 4 []) (.pr (.bptr 5 []) (.pr (.bptr 1 []) .un)))))),.cell (.val .yf),.cell (.val .yc),.cell (.val .ya),.cell (.ref 6),.row .ya]⟩
def zql (N:Nat) (r43v2:Int->Int->Ya->Yd->Yq->Int->Ya->Option (Ybb)):(R:Type)->zqq.den->(AExit->St->Option R)->Option R:=fun R d k=>iter (fun kb=>zfg N r43v2 d.1.2.2.1 d.2.1 kb
  (fun y1 y2 y3 y4=>k (.exit 0) (St.of [(2,(.ref 0 [] 0)),(3,(.bptr 1 [])),(4,(.bptr 2 [])),(5,(.bptr 3 [])),(6,(.bptr 4 [])),(7,(.bptr 6 []))] [.row .ya d.2.1 0,.cell (.data .yf y1),.cell (.data .yc y2),.cell (.data .ya y3),.cell (.ref 5 [] 0),.row .ya y4 0,.cell (.clos 43 (.pr (.bptr 1 []) (.pr (.bptr 2 []) (.pr (.bptr 3 []) (.pr (.bptr 4 []) (.pr (.bptr 6 []) .un))))))]))) N (d.1.1,d.2.2.2.1,d.2.2.2.2.1,d.2.2.2.2.2.1,d.2.2.2.2.2.2.2.1)
def lp43v2B (N:Nat) (r43v2:Int->Int->Ya->Yd->Yq->Int->Ya->Option (Ybb)):Nat->Option z0h:=fun r=>cond (Nat.beq r 6) (some fun R sl os k=>zqq.take sl os fun d=>zql N r43v2 R d k) (none)
def zjv (N:Nat) (r43v2:Int->Int->Ya->Yd->Yq->Int->Ya->Option (Ybb)):Ctx:={ fuel:=N,tt:=z1k ttL,mt:=z1k mtL,ntmps:=56,env:=fun f=>(z1k [(44,[c44 N]),(45,[c45 N]),(46,[c46 N]),(43,[(.mut ⟨[(0,(.val .ya)),(1,(.val .ya)),(2,(.ref 0)),(3,(.bptr 1 [])),(4,(.bptr 2 [])),(5,(.bptr 3 [])),(6,(.bptr 4 [])),(7,(.bptr 6 []))],[.row .ya,.cell (.val .yf),.cell (.val .yc),.cell (.val .ya),.cell (.ref 5),.row .ya,.cell (.clos 43 (.pr (.bptr 1 []) (.pr (.bptr 2 []) (.pr (.bptr 3 []) (.pr (.bptr 4 []) (.pr (.bptr 6 []) .un))))))]⟩ [2,3,4,5,6,7] ⟨[(2,(.ref 0)),(3,(.bptr 1 [])),(4,(.bptr 2 [])),(5,(.bptr 3 [])),(6,(.bptr 4 [])),(7,(.bptr 6 []))],[.row .ya,.cell (.val .yf),.cell (.val .yc),.cell (.val .ya),.cell (.ref 5),.row .ya,.cell (.clos 43 (.pr (.bptr 1 []) (.pr (.bptr 2 []) (.pr (.bptr 3 []) (.pr (.bptr 4 []) (.pr (.bptr 6 []) .un))))))]⟩ fun d=>r43v2 d.1.1 d.1.2.1 d.2.1 d.2.2.1 d.2.2.2.1 d.2.2.2.2.1 d.2.2.2.2.2.2.1)])] f).getD [],cut:=z1k [(6,⟨[15,2,0,7,3,4,5,6],[]⟩)],exits:=fun r=>z1k ((z1k [(6,[(0,⟨[2,3,4,5,6,7],[]⟩)])] r).getD []),res:=⟨[2,3,4,5,6,7],[]⟩,own:=fun _=>none,lp:=lp43v2B N r43v2,eqs:=fun T=>z2e T eqL,ct:=fun T=>z2e T ctL,ms:=z9k msL }
noncomputable def zi0:Code:=((Go.Proofs.Tryz.f43).body).getD .skip
theorem zwe (N:Nat) (r43v2:Int->Int->Ya->Yd->Yq->Int->Ya->Option (Ybb)) {R:Type} (k:AExit->St->Option R) (t0_1:Int) (o0_1:List Int) (kb:List Yo->List Obj->Option R) (x:Int×Yd×List Ya×Int×List Int):z0q (zjv N r43v2) (z03 6 (z00 zi0)) (St.of [(15,(.data .ya x.1)),(2,(.ref 0 [] 0)),(0,(.data .ya t0_1)),(7,(.bptr 1 [])),(3,(.bptr 2 [])),(4,(.bptr 3 [])),(5,(.bptr 4 [])),(6,(.bptr 5 []))] [.row .ya o0_1 0,.cell (.clos 43 (.pr (.bptr 2 []) (.pr (.bptr 3 []) (.pr (.bptr 4 []) (.pr (.bptr 5 []) (.pr (.bptr 1 []) .un)))))),.cell (.data .yf x.2.1),.cell (.data .yc x.2.2.1),.cell (.data .ya x.2.2.2.1),.cell (.ref 6 [] 0),.row .ya x.2.2.2.2 0]) (z12 (zjv N r43v2) 6 ⟨[15,2,0,7,3,4,5,6],[]⟩ kb k)=zfg N r43v2 t0_1 o0_1 (fun y=>kb [(15,(.data .ya y.1)),(2,(.ref 0 [] 0)),(0,(.data .ya t0_1)),(7,(.bptr 1 [])),(3,(.bptr 2 [])),(4,(.bptr 3 [])),(5,(.bptr 4 [])),(6,(.bptr 5 []))] [.row .ya o0_1 0,.cell (.clos 43 (.pr (.bptr 2 []) (.pr (.bptr 3 []) (.pr (.bptr 4 []) (.pr (.bptr 5 []) (.pr (.bptr 1 []) .un)))))),.cell (.data .yf y.2.1),.cell (.data .yc y.2.2.1),.cell (.data .ya y.2.2.2.1),.cell (.ref 6 [] 0),.row .ya y.2.2.2.2 0])
  (fun y1 y2 y3 y4=>k (.exit 0) (St.of [(2,(.ref 0 [] 0)),(3,(.bptr 1 [])),(4,(.bptr 2 [])),(5,(.bptr 3 [])),(6,(.bptr 4 [])),(7,(.bptr 6 []))] [.row .ya o0_1 0,.cell (.data .yf y1),.cell (.data .yc y2),.cell (.data .ya y3),.cell (.ref 5 [] 0),.row .ya y4 0,.cell (.clos 43 (.pr (.bptr 1 []) (.pr (.bptr 2 []) (.pr (.bptr 3 []) (.pr (.bptr 4 []) (.pr (.bptr 6 []) .un))))))])) x:=by kernel_rfl
theorem zxm (N:Nat) (r43v2:Int->Int->Ya->Yd->Yq->Int->Ya->Option (Ybb)):z0f (zjv N r43v2) (z03 6 (z00 zi0)):=
 z0b (zql N r43v2) (by kernel_rfl) (by kernel_rfl) (by kernel_rfl) fun R k d=>
  z0a (st:=fun (x:Int×Yd×List Ya×Int×List Int)=>([(15,(.data .ya x.1)),(2,(.ref 0 [] 0)),(0,(.data .ya d.1.2.2.1)),(7,(.bptr 1 [])),(3,(.bptr 2 [])),(4,(.bptr 3 [])),(5,(.bptr 4 [])),(6,(.bptr 5 []))],[.row .ya d.2.1 0,.cell (.clos 43 (.pr (.bptr 2 []) (.pr (.bptr 3 []) (.pr (.bptr 4 []) (.pr (.bptr 5 []) (.pr (.bptr 1 []) .un)))))),.cell (.data .yf x.2.1),.cell (.data .yc x.2.2.1),.cell (.data .ya x.2.2.2.1),.cell (.ref 6 [] 0),.row .ya x.2.2.2.2 0])) (zwe N r43v2 k d.1.2.2.1 d.2.1) N (d.1.1,d.2.2.2.1,d.2.2.2.2.1,d.2.2.2.2.2.1,d.2.2.2.2.2.2.2.1)
theorem e43v2B (N:Nat) (r43v2:Int->Int->Ya->Yd->Yq->Int->Ya->Option (Ybb)) (t0:Int) (t1:Int) (o0:List Int) (o1:Yd) (o2:List Ya) (o3:Int) (o5:List Int):z9m (zjv N r43v2) zu3 zi0 (St.of [(0,(.data .ya t0)),(1,(.data .ya t1)),(2,(.ref 0 [] 0)),(3,(.bptr 1 [])),(4,(.bptr 2 [])),(5,(.bptr 3 [])),(6,(.bptr 4 [])),(7,(.bptr 6 []))] [.row .ya o0 0,.cell (.data .yf o1),.cell (.data .yc o2),.cell (.data .ya o3),.cell (.ref 5 [] 0),.row .ya o5 0,.cell (.clos 43 (.pr (.bptr 1 []) (.pr (.bptr 2 []) (.pr (.bptr 3 []) (.pr (.bptr 4 []) (.pr (.bptr 6 []) .un))))))])=zup N r43v2 t0 t1 o0 o1 o2 o3 o5:=by kernel_rfl
theorem k43v2B (N:Nat) (r43v2:Int->Int->Ya->Yd->Yq->Int->Ya->Option (Ybb)) (h43v2:z04 Go.Proofs.Tryz.prog 43 (.mut ⟨[(0,(.val .ya)),(1,(.val .ya)),(2,(.ref 0)),(3,(.bptr 1 [])),(4,(.bptr 2 [])),(5,(.bptr 3 [])),(6,(.bptr 4 [])),(7,(.bptr 6 []))],[.row .ya,.cell (.val .yf),.cell (.val .yc),.cell (.val .ya),.cell (.ref 5),.row .ya,.cell (.clos 43 (.pr (.bptr 1 []) (.pr (.bptr 2 []) (.pr (.bptr 3 []) (.pr (.bptr 4 []) (.pr (.bptr 6 []) .un))))))]⟩ [2,3,4,5,6,7] ⟨[(2,(.ref 0)),(3,(.bptr 1 [])),(4,(.bptr 2 [])),(5,(.bptr 3 [])),(6,(.bptr 4 [])),(7,(.bptr 6 []))],[.row .ya,.cell (.val .yf),.cell (.val .yc),.cell (.val .ya),.cell (.ref 5),.row .ya,.cell (.clos 43 (.pr (.bptr 1 []) (.pr (.bptr 2 []) (.pr (.bptr 3 []) (.pr (.bptr 4 []) (.pr (.bptr 6 []) .un))))))]⟩ fun d=>r43v2 d.1.1 d.1.2.1 d.2.1 d.2.2.1 d.2.2.2.1 d.2.2.2.2.1 d.2.2.2.2.2.2.1)):z04 Go.Proofs.Tryz.prog 43 (c43v2B N r43v2):=
 z2a (fn:=Go.Proofs.Tryz.f43) (body:=zi0) (c:=zjv N r43v2) (rs:=[]) Go.Proofs.Tryz.func43 (by kernel_rfl) (by kernel_rfl) ⟨ttL_ok,z0k,z0m,z0n,z0l,z02 (z01 (k44 N)) (z02 (z01 (k45 N)) (z02 (z01 (k46 N)) (z02 (z01 (h43v2)) (z09))))⟩ mixed (by kernel_rfl) (zL (by kernel_rfl)) (by kernel_rfl) (by kernel_rfl) (by kernel_rfl) (z2o (by kernel_rfl))
  (z06 (by kernel_rfl:z00 zi0=[z03 6 (z00 zi0)]) (.cons (zxm N r43v2) .nil)) fun d=>e43v2B N r43v2 d.1.1 d.1.2.1 d.2.1 d.2.2.1 d.2.2.2.1 d.2.2.2.2.1 d.2.2.2.2.2.2.1
def zuo (N:Nat) (M:Nat):Int->Int->Ya->Yd->Yq->Int->Ya->Option (Ybb):=Nat.rec (motive:=fun _=>Int->Int->Ya->Yd->Yq->Int->Ya->Option (Ybb)) (fun _ _ _ _ _ _ _=>none) (fun _ r=>zup N r) M
def zje (N:Nat) (a0:Int) (a1:Int) (a2:List Int) (a3:Yd) (a4:List Ya) (a5:Int) (a6:List Int):Option (Ybb):=zuo N N a0 a1 a2 a3 a4 a5 a6
def c43v2 (N:Nat):Callee:=(.mut ⟨[(0,(.val .ya)),(1,(.val .ya)),(2,(.ref 0)),(3,(.bptr 1 [])),(4,(.bptr 2 [])),(5,(.bptr 3 [])),(6,(.bptr 4 [])),(7,(.bptr 6 []))],[.row .ya,.cell (.val .yf),.cell (.val .yc),.cell (.val .ya),.cell (.ref 5),.row .ya,.cell (.clos 43 (.pr (.bptr 1 []) (.pr (.bptr 2 []) (.pr (.bptr 3 []) (.pr (.bptr 4 []) (.pr (.bptr 6 []) .un))))))]⟩ [2,3,4,5,6,7] ⟨[(2,(.ref 0)),(3,(.bptr 1 [])),(4,(.bptr 2 [])),(5,(.bptr 3 [])),(6,(.bptr 4 [])),(7,(.bptr 6 []))],[.row .ya,.cell (.val .yf),.cell (.val .yc),.cell (.val .ya),.cell (.ref 5),.row .ya,.cell (.clos 43 (.pr (.bptr 1 []) (.pr (.bptr 2 []) (.pr (.bptr 3 []) (.pr (.bptr 4 []) (.pr (.bptr 6 []) .un))))))]⟩ fun d=>zje N d.1.1 d.1.2.1 d.2.1 d.2.2.1 d.2.2.2.1 d.2.2.2.2.1 d.2.2.2.2.2.2.1)
theorem k43v2 (N:Nat):z04 Go.Proofs.Tryz.prog 43 (c43v2 N):=
 have h:∀ M:Nat,z04 Go.Proofs.Tryz.prog 43 (.mut ⟨[(0,(.val .ya)),(1,(.val .ya)),(2,(.ref 0)),(3,(.bptr 1 [])),(4,(.bptr 2 [])),(5,(.bptr 3 [])),(6,(.bptr 4 [])),(7,(.bptr 6 []))],[.row .ya,.cell (.val .yf),.cell (.val .yc),.cell (.val .ya),.cell (.ref 5),.row .ya,.cell (.clos 43 (.pr (.bptr 1 []) (.pr (.bptr 2 []) (.pr (.bptr 3 []) (.pr (.bptr 4 []) (.pr (.bptr 6 []) .un))))))]⟩ [2,3,4,5,6,7] ⟨[(2,(.ref 0)),(3,(.bptr 1 [])),(4,(.bptr 2 [])),(5,(.bptr 3 [])),(6,(.bptr 4 [])),(7,(.bptr 6 []))],[.row .ya,.cell (.val .yf),.cell (.val .yc),.cell (.val .ya),.cell (.ref 5),.row .ya,.cell (.clos 43 (.pr (.bptr 1 []) (.pr (.bptr 2 []) (.pr (.bptr 3 []) (.pr (.bptr 4 []) (.pr (.bptr 6 []) .un))))))]⟩ fun d=>zuo N M d.1.1 d.1.2.1 d.2.1 d.2.2.1 d.2.2.2.1 d.2.2.2.2.1 d.2.2.2.2.2.2.1):=fun M=>Nat.rec (motive:=fun M=>z04 Go.Proofs.Tryz.prog 43 (.mut ⟨[(0,(.val .ya)),(1,(.val .ya)),(2,(.ref 0)),(3,(.bptr 1 [])),(4,(.bptr 2 [])),(5,(.bptr 3 [])),(6,(.bptr 4 [])),(7,(.bptr 6 []))],[.row .ya,.cell (.val .yf),.cell (.val .yc),.cell (.val .ya),.cell (.ref 5),.row .ya,.cell (.clos 43 (.pr (.bptr 1 []) (.pr (.bptr 2 []) (.pr (.bptr 3 []) (.pr (.bptr 4 []) (.pr (.bptr 6 []) .un))))))]⟩ [2,3,4,5,6,7] ⟨[(2,(.ref 0)),(3,(.bptr 1 [])),(4,(.bptr 2 [])),(5,(.bptr 3 [])),(6,(.bptr 4 [])),(7,(.bptr 6 []))],[.row .ya,.cell (.val .yf),.cell (.val .yc),.cell (.val .ya),.cell (.ref 5),.row .ya,.cell (.clos 43 (.pr (.bptr 1 []) (.pr (.bptr 2 []) (.pr (.bptr 3 []) (.pr (.bptr 4 []) (.pr (.bptr 6 []) .un))))))]⟩ fun d=>zuo N M d.1.1 d.1.2.1 d.2.1 d.2.2.1 d.2.2.2.1 d.2.2.2.2.1 d.2.2.2.2.2.2.1)) (z3m fun _=>rfl) (fun M ih=>k43v2B N _ ih) M
 h N
end
end Go.Kz
