/-
  The functions of the program as plain functions on lists and numbers, and the proofs that the program computes them. Printed by a program.
-/
import Derived.Test.YtnjfafnflbackaaKzP43d
set_option linter.unusedSimpArgs false
set_option maxRecDepth 100000
set_option linter.unusedVariables false
namespace Go.Kz
open Go.Proofs
noncomputable section
def zgp {R:Type} (N:Nat) (r58:Int->Int->Ye->Yl->Yg->Option (Yv)) (t2_1:Int) (t1_1:Int) (t39:Int) (kb:Int×Int×Ye×List Ya×Yg->Option R) (kx0:Int->Ye->Yl->Yg->Option R):Int×Int×Ye×List Ya×Yg->Option R:=
 fun (t40,t9,o0_1,o0'_1,o1_1)=>
  cond (decide (t40 < t39))
   (cond (decide (0 < t2_1))
    ((f85 N r58 t1_1 t2_1 t40 o0_1 o0'_1 o1_1).bind fun r_1=>
    kb ((z0l (t40+1)),(zsa t9 r_1.1.2.1),r_1.2.1.1,r_1.2.1.2.1,r_1.2.2.1))
    (kb ((z0l (t40+1)),t9,o0_1,o0'_1,o1_1)))
   (kx0 t9 o0_1 o0'_1 o1_1)
def f58B (N:Nat) (r58:Int->Int->Ye->Yl->Yg->Option (Yv)) (t1:Int) (t2:Int) (o0:Ye) (o0':List Ya) (o1:List Yf):Option (Yv):=
 cond (Option.isSome (z9a (eqD .ye) o1 (t1,(t2,()))))
  (some (((),((Option.getD (z9a (eqD .ye) o1 (t1,(t2,()))) 0),())),((o0,(o0',((),()))),(o1,()))))
  ((f40 N o0 o0' t1).bind fun r=>
  iter (fun w=>zgp N r58 t2 t1 (len o0.2.1) w
   (fun t9_1 o0_2 o0'_2 o1_2=>
    some (((),(t9_1,())),((o0_2,(o0'_2,((),()))),((zcp (eqD .ye) o1_2 (t1,(t2,())) t9_1),()))))) N (0,r,o0,o0',o1))
def fi58B:SForm:=⟨[(0,(.bptr 0 [])),(1,(.val .ya)),(2,(.val .ya))],[.con (.agg (.pr (.val .yg) (.pr (.val .yc) (.pr (.mref 1) .un)))),.map .ye .ya]⟩
def fo58B:SForm:=⟨[(0,(.bptr 0 [])),(6,(.val .ya))],[.con (.agg (.pr (.val .yg) (.pr (.val .yc) (.pr (.mref 1) .un)))),.map .ye .ya]⟩
def c58B (N:Nat) (r58:Int->Int->Ye->Yl->Yg->Option (Yv)):Callee:=.mut fi58B [0] fo58B fun d=>f58B N r58 d.1.2.1 d.1.2.2.1 d.2.1.1 d.2.1.2.1 d.2.2.1
def F58B_6:SForm:=⟨[(40,(.val .ya)),(2,(.val .ya)),(1,(.val .ya)),(0,(.bptr 0 [])),(9,(.val .ya)),(39,(.val .ya))],[.con (.agg (.pr (.val .yg) (.pr (.val .yc) (.pr (.mref 1) .un)))),.map .ye .ya]⟩
def G58B_6 (N:Nat) (r58:Int->Int->Ye->Yl->Yg->Option (Yv)):(R:Type)->F58B_6.den->(AExit->St->Option R)->Option R:=fun R d k=>iter (fun kb=>zgp N r58 d.1.2.1 d.1.2.2.1 d.1.2.2.2.2.2.1 kb
  (fun y0 y3 y4 y5=>k (.exit 0) (St.of [(0,(.bptr 0 [])),(9,(.data .ya y0)),(2,(.data .ya d.1.2.1)),(1,(.data .ya d.1.2.2.1))] [.cell (.tup (.agg (.pr (.data .yg y3) (.pr (.data .yc y4) (.pr (.mref 1) .un))))),.map .ye .ya y5]))) N (d.1.1,d.1.2.2.2.2.1,d.2.1.1,d.2.1.2.1,d.2.2.1)
def lp58B (N:Nat) (r58:Int->Int->Ye->Yl->Yg->Option (Yv)):Nat->Option z0m:=fun r=>cond (Nat.beq r 6) (some fun R sl os k=>F58B_6.take sl os fun d=>G58B_6 N r58 R d k) (none)
def x58B (N:Nat) (r58:Int->Int->Ye->Yl->Yg->Option (Yv)):Ctx:={ fuel:=N,tt:=z1v ttL,mt:=z1v mtL,ntmps:=62,env:=fun f=>(z1v [(40,[c40 N]),(85,[c85 N r58])] f).getD [],cut:=z1v [(6,⟨[40,2,1,0,9,39],[]⟩)],exits:=fun r=>z1v ((z1v [(6,[(0,⟨[0,9,2,1],[]⟩)])] r).getD []),res:=⟨[0,6],[]⟩,own:=fun _=>none,lp:=lp58B N r58,eqs:=fun T=>z2q T eqL,ct:=fun T=>z2q T ctL,ms:=zb6 msL }
noncomputable def b58B:Code:=((Go.Proofs.Try.f58).body).getD .skip
theorem s58B_6 (N:Nat) (r58:Int->Int->Ye->Yl->Yg->Option (Yv)) {R:Type} (k:AExit->St->Option R) (t2_1:Int) (t1_1:Int) (t39:Int) (kb:List Yp->List Obj->Option R) (x:Int×Int×Ye×List Ya×Yg):z0z (x58B N r58) (z04 6 (z00 b58B)) (St.of [(40,(.data .ya x.1)),(2,(.data .ya t2_1)),(1,(.data .ya t1_1)),(0,(.bptr 0 [])),(9,(.data .ya x.2.1)),(39,(.data .ya t39))] [.cell (.tup (.agg (.pr (.data .yg x.2.2.1) (.pr (.data .yc x.2.2.2.1) (.pr (.mref 1) .un))))),.map .ye .ya x.2.2.2.2]) (z1q (x58B N r58) 6 ⟨[40,2,1,0,9,39],[]⟩ kb k)=zgp N r58 t2_1 t1_1 t39 (fun y=>kb [(40,(.data .ya y.1)),(2,(.data .ya t2_1)),(1,(.data .ya t1_1)),(0,(.bptr 0 [])),(9,(.data .ya y.2.1)),(39,(.data .ya t39))] [.cell (.tup (.agg (.pr (.data .yg y.2.2.1) (.pr (.data .yc y.2.2.2.1) (.pr (.mref 1) .un))))),.map .ye .ya y.2.2.2.2])
  (fun y0 y3 y4 y5=>k (.exit 0) (St.of [(0,(.bptr 0 [])),(9,(.data .ya y0)),(2,(.data .ya t2_1)),(1,(.data .ya t1_1))] [.cell (.tup (.agg (.pr (.data .yg y3) (.pr (.data .yc y4) (.pr (.mref 1) .un))))),.map .ye .ya y5])) x:=by kernel_rfl
theorem l58B_6 (N:Nat) (r58:Int->Int->Ye->Yl->Yg->Option (Yv)):z0r (x58B N r58) (z04 6 (z00 b58B)):=
 z0i (G58B_6 N r58) (by kernel_rfl) (by kernel_rfl) (by kernel_rfl) fun R k d=>
  z0g (st:=fun (x:Int×Int×Ye×List Ya×Yg)=>([(40,(.data .ya x.1)),(2,(.data .ya d.1.2.1)),(1,(.data .ya d.1.2.2.1)),(0,(.bptr 0 [])),(9,(.data .ya x.2.1)),(39,(.data .ya d.1.2.2.2.2.2.1))],[.cell (.tup (.agg (.pr (.data .yg x.2.2.1) (.pr (.data .yc x.2.2.2.1) (.pr (.mref 1) .un))))),.map .ye .ya x.2.2.2.2])) (s58B_6 N r58 k d.1.2.1 d.1.2.2.1 d.1.2.2.2.2.2.1) N (d.1.1,d.1.2.2.2.2.1,d.2.1.1,d.2.1.2.1,d.2.2.1)
theorem e58B (N:Nat) (r58:Int->Int->Ye->Yl->Yg->Option (Yv)) (t1:Int) (t2:Int) (o0:Ye) (o0':List Ya) (o1:List Yf):zch (x58B N r58) fo58B b58B (St.of [(0,(.bptr 0 [])),(1,(.data .ya t1)),(2,(.data .ya t2))] [.cell (.tup (.agg (.pr (.data .yg o0) (.pr (.data .yc o0') (.pr (.mref 1) .un))))),.map .ye .ya o1])=f58B N r58 t1 t2 o0 o0' o1:=by kernel_rfl
theorem k58B (N:Nat) (r58:Int->Int->Ye->Yl->Yg->Option (Yv)) (h58:z03 Go.Proofs.Try.prog 58 (.mut ⟨[(0,(.bptr 0 [])),(1,(.val .ya)),(2,(.val .ya))],[.con (.agg (.pr (.val .yg) (.pr (.val .yc) (.pr (.mref 1) .un)))),.map .ye .ya]⟩ [0] ⟨[(0,(.bptr 0 [])),(6,(.val .ya))],[.con (.agg (.pr (.val .yg) (.pr (.val .yc) (.pr (.mref 1) .un)))),.map .ye .ya]⟩ fun d=>r58 d.1.2.1 d.1.2.2.1 d.2.1.1 d.2.1.2.1 d.2.2.1)):z03 Go.Proofs.Try.prog 58 (c58B N r58):=
 z35 (fn:=Go.Proofs.Try.f58) (body:=b58B) (c:=x58B N r58) (rs:=[6]) Go.Proofs.Try.func58 (by kernel_rfl) (by kernel_rfl) ⟨ttL_ok,z0n,z0p,z0q,z0o,z02 (z01 (k40 N)) (z02 (z01 (k85 N r58 h58)) (z0e))⟩ mixed (by kernel_rfl) (zL (by kernel_rfl)) (by kernel_rfl) (by kernel_rfl) (by kernel_rfl) (z3q (by kernel_rfl))
  (z0b (by kernel_rfl:z00 b58B=[z04 6 (z00 b58B)]) (.cons (l58B_6 N r58) .nil)) fun d=>e58B N r58 d.1.2.1 d.1.2.2.1 d.2.1.1 d.2.1.2.1 d.2.2.1
def f58R (N:Nat) (M:Nat):Int->Int->Ye->Yl->Yg->Option (Yv):=Nat.rec (motive:=fun _=>Int->Int->Ye->Yl->Yg->Option (Yv)) (fun _ _ _ _ _=>none) (fun _ r=>f58B N r) M
def f58 (N:Nat) (a0:Int) (a1:Int) (a2:Ye) (a3:List Ya) (a4:List Yf):Option (Yv):=f58R N N a0 a1 a2 a3 a4
def c58 (N:Nat):Callee:=(.mut ⟨[(0,(.bptr 0 [])),(1,(.val .ya)),(2,(.val .ya))],[.con (.agg (.pr (.val .yg) (.pr (.val .yc) (.pr (.mref 1) .un)))),.map .ye .ya]⟩ [0] ⟨[(0,(.bptr 0 [])),(6,(.val .ya))],[.con (.agg (.pr (.val .yg) (.pr (.val .yc) (.pr (.mref 1) .un)))),.map .ye .ya]⟩ fun d=>f58 N d.1.2.1 d.1.2.2.1 d.2.1.1 d.2.1.2.1 d.2.2.1)
theorem k58 (N:Nat):z03 Go.Proofs.Try.prog 58 (c58 N):=
 have h:∀ M:Nat,z03 Go.Proofs.Try.prog 58 (.mut ⟨[(0,(.bptr 0 [])),(1,(.val .ya)),(2,(.val .ya))],[.con (.agg (.pr (.val .yg) (.pr (.val .yc) (.pr (.mref 1) .un)))),.map .ye .ya]⟩ [0] ⟨[(0,(.bptr 0 [])),(6,(.val .ya))],[.con (.agg (.pr (.val .yg) (.pr (.val .yc) (.pr (.mref 1) .un)))),.map .ye .ya]⟩ fun d=>f58R N M d.1.2.1 d.1.2.2.1 d.2.1.1 d.2.1.2.1 d.2.2.1):=fun M=>Nat.rec (motive:=fun M=>z03 Go.Proofs.Try.prog 58 (.mut ⟨[(0,(.bptr 0 [])),(1,(.val .ya)),(2,(.val .ya))],[.con (.agg (.pr (.val .yg) (.pr (.val .yc) (.pr (.mref 1) .un)))),.map .ye .ya]⟩ [0] ⟨[(0,(.bptr 0 [])),(6,(.val .ya))],[.con (.agg (.pr (.val .yg) (.pr (.val .yc) (.pr (.mref 1) .un)))),.map .ye .ya]⟩ fun d=>f58R N M d.1.2.1 d.1.2.2.1 d.2.1.1 d.2.1.2.1 d.2.2.1)) (z4i fun _=>rfl) (fun M ih=>k58B N _ ih) M
 h N
def zlh {R:Type} (N:Nat) (r59:Int->Int->Ye->Yl->Yg->Yn->Option (Yab)) (t2_1:Int) (t1_1:Int) (o2_1:List Yk) (kb:Int×Ye×List Ya×Yg->Option R) (kx0:Int->Ye->Yl->Yg->Option R):Int×Ye×List Ya×Yg->Option R:=
 fun (t9,o0_1,o0'_1,o1_1)=>
  (f85 N (f58 N) t1_1 t2_1 t9 o0_1 o0'_1 o1_1).bind fun r=>
  (f58 N t1_1 t2_1 r.2.1.1 r.2.1.2.1 r.2.2.1).bind fun r_1=>
  cond (!(decide (r.1.2.1=r_1.1.2.1)))
   (kb ((z0l (t9+1)),r_1.2.1.1,r_1.2.1.2.1,r_1.2.2.1))
   (kx0 t9 r_1.2.1.1 r_1.2.1.2.1 r_1.2.2.1)
def zgo {R:Type} (N:Nat) (r59:Int->Int->Ye->Yl->Yg->Yn->Option (Yab)) (t10:Int) (t2_2:Int) (t9_2:Int) (t1_2:Int) (t41:Int) (kb:Int×Yn×Ye×List Ya×Yg->Option R) (kx2:Ye->Yl->Yg->Yn->Option R):Int×Yn×Ye×List Ya×Yg->Option R:=
 fun (t42,o0_3,o1_3,o1',o2_2)=>
  cond (decide (t42 < t41))
   ((f77 N o1_3 t1_2 t9_2 t42).bind fun r_3=>
   cond (!(decide (r_3=0)))
    ((f40 N o1_3 o1' r_3).bind fun r_4=>
    (f58 N r_3 (z0l (t2_2-1)) o1_3 o1' o2_2).bind fun r_5=>
    cond (!(decide (r_4=r_5.1.2.1)))
     ((r59 r_3 (z0l (t2_2-1)) r_5.2.1.1 r_5.2.1.2.1 r_5.2.2.1 o0_3).bind fun r_6=>
     chk (inb r_6.2.2.2.1 t10) <|
     (idx r_6.2.2.2.1 t10).bind fun x_1=>
     (idx r_6.2.2.2.1 t10).bind fun x_2=>
     (idx r_6.2.2.2.1 t10).bind fun x_3=>
     chk (decide ((Nat.succ (List.length x_3.2.1))≤z3e)) <|
     chk (inb r_6.2.2.2.1 t10) <|
     chk (z5w [.idx t10,.snd,.fst] [.idx t10,.snd,.fst]) <|
     (idx r_6.2.2.2.1 t10).bind fun x_4=>
     kb ((z0l (t42+1)),(zcx r_6.2.2.2.1 t10 (x_4.1,((x_3.2.1++((len o0_3) :: ([]:List Int))),x_4.2.2))),r_6.2.1.1,r_6.2.1.2.1,r_6.2.2.1))
     (chk (inb o0_3 t10) <|
     (idx o0_3 t10).bind fun x_5=>
     (idx o0_3 t10).bind fun x_6=>
     (idx o0_3 t10).bind fun x_7=>
     chk (decide ((Nat.succ (List.length x_7.2.1))≤z3e)) <|
     chk (inb o0_3 t10) <|
     chk (z5w [.idx t10,.snd,.fst] [.idx t10,.snd,.fst]) <|
     (idx o0_3 t10).bind fun x_8=>
     kb ((z0l (t42+1)),(zcx o0_3 t10 (x_8.1,((x_7.2.1++((-1) :: ([]:List Int))),x_8.2.2))),r_5.2.1.1,r_5.2.1.2.1,r_5.2.2.1)))
    (chk (inb o0_3 t10) <|
    (idx o0_3 t10).bind fun x_9=>
    (idx o0_3 t10).bind fun x_10=>
    (idx o0_3 t10).bind fun x_11=>
    chk (decide ((Nat.succ (List.length x_11.2.1))≤z3e)) <|
    chk (inb o0_3 t10) <|
    chk (z5w [.idx t10,.snd,.fst] [.idx t10,.snd,.fst]) <|
    (idx o0_3 t10).bind fun x_12=>
    kb ((z0l (t42+1)),(zcx o0_3 t10 (x_12.1,((x_11.2.1++((-1) :: ([]:List Int))),x_12.2.2))),o1_3,o1',o2_2)))
   (kx2 o1_3 o1' o2_2 o0_3)
def f59B (N:Nat) (r59:Int->Int->Ye->Yl->Yg->Yn->Option (Yab)) (t1:Int) (t2:Int) (o0:Ye) (o0':List Ya) (o1:List Yf) (o2:List Yk):Option (Yab):=
 iter (fun w=>zlh N r59 t2 t1 o2 w
  (fun t9_1 o0_2 o0'_2 o1_2=>
   chk (decide ((Nat.succ (List.length o2))≤z3e)) <|
   (idx o0_2.2.1 t9_1).bind fun x=>
   (f44 N x).bind fun r_2=>
   iter (fun w=>zgo N r59 (len o2) t2 t9_1 t1 r_2 w
    (fun o0_4 o0'_3 o1_4 o2_3=>
     some (((),((),())),((o0_4,(o0'_3,((),()))),(o1_4,(o2_3,())))))) N (0,(o2++((t9_1,(([]:List Int),())) :: ([]:List Yk))),o0_2,o0'_2,o1_2))) N (0,o0,o0',o1)
def fi59B:SForm:=⟨[(0,(.bptr 0 [])),(1,(.val .ya)),(2,(.val .ya)),(3,(.nv 2))],[.con (.agg (.pr (.val .yg) (.pr (.val .yc) (.pr (.mref 1) .un)))),.map .ye .ya,.nest .yl]⟩
def fo59B:SForm:=⟨[(0,(.bptr 0 [])),(8,(.nv 2))],[.con (.agg (.pr (.val .yg) (.pr (.val .yc) (.pr (.mref 1) .un)))),.map .ye .ya,.nest .yl]⟩
def c59B (N:Nat) (r59:Int->Int->Ye->Yl->Yg->Yn->Option (Yab)):Callee:=.mut fi59B [0] fo59B fun d=>f59B N r59 d.1.2.1 d.1.2.2.1 d.2.1.1 d.2.1.2.1 d.2.2.1 d.2.2.2.1
def F59B_2:SForm:=⟨[(9,(.val .ya)),(2,(.val .ya)),(0,(.bptr 0 [])),(1,(.val .ya)),(3,(.nv 2))],[.con (.agg (.pr (.val .yg) (.pr (.val .yc) (.pr (.mref 1) .un)))),.map .ye .ya,.nest .yl]⟩
def G59B_2 (N:Nat) (r59:Int->Int->Ye->Yl->Yg->Yn->Option (Yab)):(R:Type)->F59B_2.den->(AExit->St->Option R)->Option R:=fun R d k=>iter (fun kb=>zlh N r59 d.1.2.1 d.1.2.2.2.1 d.2.2.2.1 kb
  (fun y1 y3 y4 y5=>k (.exit 0) (St.of [(2,(.data .ya d.1.2.1)),(0,(.bptr 0 [])),(9,(.data .ya y1)),(1,(.data .ya d.1.2.2.2.1)),(3,(.nv false 2 [] 0))] [.cell (.tup (.agg (.pr (.data .yg y3) (.pr (.data .yc y4) (.pr (.mref 1) .un))))),.map .ye .ya y5,.nest .yl d.2.2.2.1 0 0 none]))) N (d.1.1,d.2.1.1,d.2.1.2.1,d.2.2.1)
def F59B_7:SForm:=⟨[(42,(.val .ya)),(10,(.val .ya)),(3,(.nv 0)),(2,(.val .ya)),(0,(.bptr 1 [])),(9,(.val .ya)),(1,(.val .ya)),(41,(.val .ya))],[.nest .yl,.con (.agg (.pr (.val .yg) (.pr (.val .yc) (.pr (.mref 2) .un)))),.map .ye .ya]⟩
def G59B_7 (N:Nat) (r59:Int->Int->Ye->Yl->Yg->Yn->Option (Yab)):(R:Type)->F59B_7.den->(AExit->St->Option R)->Option R:=fun R d k=>iter (fun kb=>zgo N r59 d.1.2.1 d.1.2.2.2.1 d.1.2.2.2.2.2.1 d.1.2.2.2.2.2.2.1 d.1.2.2.2.2.2.2.2.1 kb
  (fun y0 y1 y2 y3=>k (.exit 2) (St.of [(0,(.bptr 0 [])),(3,(.nv false 2 [] 0))] [.cell (.tup (.agg (.pr (.data .yg y0) (.pr (.data .yc y1) (.pr (.mref 1) .un))))),.map .ye .ya y2,.nest .yl y3 0 0 none]))) N (d.1.1,d.2.1,d.2.2.1.1,d.2.2.1.2.1,d.2.2.2.1)
def lp59B (N:Nat) (r59:Int->Int->Ye->Yl->Yg->Yn->Option (Yab)):Nat->Option z0m:=fun r=>cond (Nat.beq r 2) (some fun R sl os k=>F59B_2.take sl os fun d=>G59B_2 N r59 R d k) (cond (Nat.beq r 7) (some fun R sl os k=>F59B_7.take sl os fun d=>G59B_7 N r59 R d k) (none))
def x59B (N:Nat) (r59:Int->Int->Ye->Yl->Yg->Yn->Option (Yab)):Ctx:={ fuel:=N,tt:=z1v ttL,mt:=z1v mtL,ntmps:=95,env:=fun f=>(z1v [(85,[c85 N (f58 N)]),(58,[c58 N]),(44,[c44 N]),(77,[c77 N]),(40,[c40 N]),(59,[(.mut ⟨[(0,(.bptr 0 [])),(1,(.val .ya)),(2,(.val .ya)),(3,(.nv 2))],[.con (.agg (.pr (.val .yg) (.pr (.val .yc) (.pr (.mref 1) .un)))),.map .ye .ya,.nest .yl]⟩ [0] ⟨[(0,(.bptr 0 [])),(8,(.nv 2))],[.con (.agg (.pr (.val .yg) (.pr (.val .yc) (.pr (.mref 1) .un)))),.map .ye .ya,.nest .yl]⟩ fun d=>r59 d.1.2.1 d.1.2.2.1 d.2.1.1 d.2.1.2.1 d.2.2.1 d.2.2.2.1)])] f).getD [],cut:=z1v [(2,⟨[9,2,0,1,3],[]⟩),(7,⟨[42,10,3,2,0,9,1,41],[]⟩)],exits:=fun r=>z1v ((z1v [(2,[(0,⟨[2,0,9,1,3],[]⟩)]),(7,[(2,⟨[0,3],[]⟩)])] r).getD []),res:=⟨[0,8],[]⟩,own:=z1v [(31,(.sl true .yl))],lp:=lp59B N r59,eqs:=fun T=>z2q T eqL,ct:=fun T=>z2q T ctL,ms:=zb6 msL }
noncomputable def b59B:Code:=((Go.Proofs.Try.f59).body).getD .skip
theorem s59B_2 (N:Nat) (r59:Int->Int->Ye->Yl->Yg->Yn->Option (Yab)) {R:Type} (k:AExit->St->Option R) (t2_1:Int) (t1_1:Int) (o2_1:List Yk) (kb:List Yp->List Obj->Option R) (x:Int×Ye×List Ya×Yg):z0z (x59B N r59) (z04 2 (z00 b59B)) (St.of [(9,(.data .ya x.1)),(2,(.data .ya t2_1)),(0,(.bptr 0 [])),(1,(.data .ya t1_1)),(3,(.nv false 2 [] 0))] [.cell (.tup (.agg (.pr (.data .yg x.2.1) (.pr (.data .yc x.2.2.1) (.pr (.mref 1) .un))))),.map .ye .ya x.2.2.2,.nest .yl o2_1 0 0 none]) (z1q (x59B N r59) 2 ⟨[9,2,0,1,3],[]⟩ kb k)=zlh N r59 t2_1 t1_1 o2_1 (fun y=>kb [(9,(.data .ya y.1)),(2,(.data .ya t2_1)),(0,(.bptr 0 [])),(1,(.data .ya t1_1)),(3,(.nv false 2 [] 0))] [.cell (.tup (.agg (.pr (.data .yg y.2.1) (.pr (.data .yc y.2.2.1) (.pr (.mref 1) .un))))),.map .ye .ya y.2.2.2,.nest .yl o2_1 0 0 none])
  (fun y1 y3 y4 y5=>k (.exit 0) (St.of [(2,(.data .ya t2_1)),(0,(.bptr 0 [])),(9,(.data .ya y1)),(1,(.data .ya t1_1)),(3,(.nv false 2 [] 0))] [.cell (.tup (.agg (.pr (.data .yg y3) (.pr (.data .yc y4) (.pr (.mref 1) .un))))),.map .ye .ya y5,.nest .yl o2_1 0 0 none])) x:=by kernel_rfl
theorem l59B_2 (N:Nat) (r59:Int->Int->Ye->Yl->Yg->Yn->Option (Yab)):z0r (x59B N r59) (z04 2 (z00 b59B)):=
 z0i (G59B_2 N r59) (by kernel_rfl) (by kernel_rfl) (by kernel_rfl) fun R k d=>
  z0g (st:=fun (x:Int×Ye×List Ya×Yg)=>([(9,(.data .ya x.1)),(2,(.data .ya d.1.2.1)),(0,(.bptr 0 [])),(1,(.data .ya d.1.2.2.2.1)),(3,(.nv false 2 [] 0))],[.cell (.tup (.agg (.pr (.data .yg x.2.1) (.pr (.data .yc x.2.2.1) (.pr (.mref 1) .un))))),.map .ye .ya x.2.2.2,.nest .yl d.2.2.2.1 0 0 none])) (s59B_2 N r59 k d.1.2.1 d.1.2.2.2.1 d.2.2.2.1) N (d.1.1,d.2.1.1,d.2.1.2.1,d.2.2.1)
theorem s59B_7 (N:Nat) (r59:Int->Int->Ye->Yl->Yg->Yn->Option (Yab)) {R:Type} (k:AExit->St->Option R) (t10:Int) (t2_2:Int) (t9_2:Int) (t1_2:Int) (t41:Int) (kb:List Yp->List Obj->Option R) (x:Int×Yn×Ye×List Ya×Yg):z0z (x59B N r59) (z04 7 (z00 b59B)) (St.of [(42,(.data .ya x.1)),(10,(.data .ya t10)),(3,(.nv false 0 [] 0)),(2,(.data .ya t2_2)),(0,(.bptr 1 [])),(9,(.data .ya t9_2)),(1,(.data .ya t1_2)),(41,(.data .ya t41))] [.nest .yl x.2.1 0 0 none,.cell (.tup (.agg (.pr (.data .yg x.2.2.1) (.pr (.data .yc x.2.2.2.1) (.pr (.mref 2) .un))))),.map .ye .ya x.2.2.2.2]) (z1q (x59B N r59) 7 ⟨[42,10,3,2,0,9,1,41],[]⟩ kb k)=zgo N r59 t10 t2_2 t9_2 t1_2 t41 (fun y=>kb [(42,(.data .ya y.1)),(10,(.data .ya t10)),(3,(.nv false 0 [] 0)),(2,(.data .ya t2_2)),(0,(.bptr 1 [])),(9,(.data .ya t9_2)),(1,(.data .ya t1_2)),(41,(.data .ya t41))] [.nest .yl y.2.1 0 0 none,.cell (.tup (.agg (.pr (.data .yg y.2.2.1) (.pr (.data .yc y.2.2.2.1) (.pr (.mref 2) .un))))),.map .ye .ya y.2.2.2.2])
  (fun y0 y1 y2 y3=>k (.exit 2) (St.of [(0,(.bptr 0 [])),(3,(.nv false 2 [] 0))] [.cell (.tup (.agg (.pr (.data .yg y0) (.pr (.data .yc y1) (.pr (.mref 1) .un))))),.map .ye .ya y2,.nest .yl y3 0 0 none])) x:=by kernel_rfl
theorem l59B_7 (N:Nat) (r59:Int->Int->Ye->Yl->Yg->Yn->Option (Yab)):z0r (x59B N r59) (z04 7 (z00 b59B)):=
 z0i (G59B_7 N r59) (by kernel_rfl) (by kernel_rfl) (by kernel_rfl) fun R k d=>
  z0g (st:=fun (x:Int×Yn×Ye×List Ya×Yg)=>([(42,(.data .ya x.1)),(10,(.data .ya d.1.2.1)),(3,(.nv false 0 [] 0)),(2,(.data .ya d.1.2.2.2.1)),(0,(.bptr 1 [])),(9,(.data .ya d.1.2.2.2.2.2.1)),(1,(.data .ya d.1.2.2.2.2.2.2.1)),(41,(.data .ya d.1.2.2.2.2.2.2.2.1))],[.nest .yl x.2.1 0 0 none,.cell (.tup (.agg (.pr (.data .yg x.2.2.1) (.pr (.data .yc x.2.2.2.1) (.pr (.mref 2) .un))))),.map .ye .ya x.2.2.2.2])) (s59B_7 N r59 k d.1.2.1 d.1.2.2.2.1 d.1.2.2.2.2.2.1 d.1.2.2.2.2.2.2.1 d.1.2.2.2.2.2.2.2.1) N (d.1.1,d.2.1,d.2.2.1.1,d.2.2.1.2.1,d.2.2.2.1)
theorem e59B (N:Nat) (r59:Int->Int->Ye->Yl->Yg->Yn->Option (Yab)) (t1:Int) (t2:Int) (o0:Ye) (o0':List Ya) (o1:List Yf) (o2:List Yk):zch (x59B N r59) fo59B b59B (St.of [(0,(.bptr 0 [])),(1,(.data .ya t1)),(2,(.data .ya t2)),(3,(.nv false 2 [] 0))] [.cell (.tup (.agg (.pr (.data .yg o0) (.pr (.data .yc o0') (.pr (.mref 1) .un))))),.map .ye .ya o1,.nest .yl o2 0 0 none])=f59B N r59 t1 t2 o0 o0' o1 o2:=by kernel_rfl
theorem k59B (N:Nat) (r59:Int->Int->Ye->Yl->Yg->Yn->Option (Yab)) (h59:z03 Go.Proofs.Try.prog 59 (.mut ⟨[(0,(.bptr 0 [])),(1,(.val .ya)),(2,(.val .ya)),(3,(.nv 2))],[.con (.agg (.pr (.val .yg) (.pr (.val .yc) (.pr (.mref 1) .un)))),.map .ye .ya,.nest .yl]⟩ [0] ⟨[(0,(.bptr 0 [])),(8,(.nv 2))],[.con (.agg (.pr (.val .yg) (.pr (.val .yc) (.pr (.mref 1) .un)))),.map .ye .ya,.nest .yl]⟩ fun d=>r59 d.1.2.1 d.1.2.2.1 d.2.1.1 d.2.1.2.1 d.2.2.1 d.2.2.2.1)):z03 Go.Proofs.Try.prog 59 (c59B N r59):=
 z35 (fn:=Go.Proofs.Try.f59) (body:=b59B) (c:=x59B N r59) (rs:=[8]) Go.Proofs.Try.func59 (by kernel_rfl) (by kernel_rfl) ⟨ttL_ok,z0n,z0p,z0q,z0o,z02 (z01 (k85 N (f58 N) (k58 N))) (z02 (z01 (k58 N)) (z02 (z01 (k44 N)) (z02 (z01 (k77 N)) (z02 (z01 (k40 N)) (z02 (z01 (h59)) (z0e))))))⟩ mixed (by kernel_rfl) (zL (by kernel_rfl)) (by kernel_rfl) (by kernel_rfl) (by kernel_rfl) (z3q (by kernel_rfl))
  (z0b (by kernel_rfl:z00 b59B=[z04 2 (z00 b59B),z04 7 (z00 b59B)]) (.cons (l59B_2 N r59) (.cons (l59B_7 N r59) .nil))) fun d=>e59B N r59 d.1.2.1 d.1.2.2.1 d.2.1.1 d.2.1.2.1 d.2.2.1 d.2.2.2.1
def f59R (N:Nat) (M:Nat):Int->Int->Ye->Yl->Yg->Yn->Option (Yab):=Nat.rec (motive:=fun _=>Int->Int->Ye->Yl->Yg->Yn->Option (Yab)) (fun _ _ _ _ _ _=>none) (fun _ r=>f59B N r) M
def f59 (N:Nat) (a0:Int) (a1:Int) (a2:Ye) (a3:List Ya) (a4:List Yf) (a5:List Yk):Option (Yab):=f59R N N a0 a1 a2 a3 a4 a5
def c59 (N:Nat):Callee:=(.mut ⟨[(0,(.bptr 0 [])),(1,(.val .ya)),(2,(.val .ya)),(3,(.nv 2))],[.con (.agg (.pr (.val .yg) (.pr (.val .yc) (.pr (.mref 1) .un)))),.map .ye .ya,.nest .yl]⟩ [0] ⟨[(0,(.bptr 0 [])),(8,(.nv 2))],[.con (.agg (.pr (.val .yg) (.pr (.val .yc) (.pr (.mref 1) .un)))),.map .ye .ya,.nest .yl]⟩ fun d=>f59 N d.1.2.1 d.1.2.2.1 d.2.1.1 d.2.1.2.1 d.2.2.1 d.2.2.2.1)
theorem k59 (N:Nat):z03 Go.Proofs.Try.prog 59 (c59 N):=
 have h:∀ M:Nat,z03 Go.Proofs.Try.prog 59 (.mut ⟨[(0,(.bptr 0 [])),(1,(.val .ya)),(2,(.val .ya)),(3,(.nv 2))],[.con (.agg (.pr (.val .yg) (.pr (.val .yc) (.pr (.mref 1) .un)))),.map .ye .ya,.nest .yl]⟩ [0] ⟨[(0,(.bptr 0 [])),(8,(.nv 2))],[.con (.agg (.pr (.val .yg) (.pr (.val .yc) (.pr (.mref 1) .un)))),.map .ye .ya,.nest .yl]⟩ fun d=>f59R N M d.1.2.1 d.1.2.2.1 d.2.1.1 d.2.1.2.1 d.2.2.1 d.2.2.2.1):=fun M=>Nat.rec (motive:=fun M=>z03 Go.Proofs.Try.prog 59 (.mut ⟨[(0,(.bptr 0 [])),(1,(.val .ya)),(2,(.val .ya)),(3,(.nv 2))],[.con (.agg (.pr (.val .yg) (.pr (.val .yc) (.pr (.mref 1) .un)))),.map .ye .ya,.nest .yl]⟩ [0] ⟨[(0,(.bptr 0 [])),(8,(.nv 2))],[.con (.agg (.pr (.val .yg) (.pr (.val .yc) (.pr (.mref 1) .un)))),.map .ye .ya,.nest .yl]⟩ fun d=>f59R N M d.1.2.1 d.1.2.2.1 d.2.1.1 d.2.1.2.1 d.2.2.1 d.2.2.2.1)) (z4i fun _=>rfl) (fun M ih=>k59B N _ ih) M
 h N
def zjg {R:Type} (N:Nat) (t0:List Yd) (t7:Int) (o0:Yd) (kb:Int->Option R) (kret:Int->Option R) (kx0:Unit->Option R):Int->Option R:=
 fun t8=>
  cond (decide (t8 < t7))
   ((idx t0 t8).bind fun x=>
   cond (eqD .ye o0 x)
    (kret t8)
    (kb (z0l (t8+1))))
   (kx0 ())
def f88 (N:Nat) (a0:List Yd) (a1:Yd):Option (Int):=
 iter (fun w=>zjg N a0 (len a0) a1 w
  (fun t4=>
   some t4)
  (fun (_:Unit)=>
   some (-1))) N 0
def c88 (N:Nat):Callee:=.pure (.pr (.val .yr) (.pr (.val .ye) .un)) [.ya] fun d=>f88 N d.1 d.2.1
def F88_2:SForm:=⟨[(8,(.val .ya)),(0,(.val .yr)),(3,(.bptr 0 [])),(7,(.val .ya))],[.cell (.val .ye)]⟩
def G88_2 (N:Nat):(R:Type)->F88_2.den->(AExit->St->Option R)->Option R:=fun R d k=>iter (fun kb=>zjg N d.1.2.1 d.1.2.2.2.1 d.2.1 kb
  (fun y0=>k .ret (St.of [(4,(.data .ya y0))] []))
  (fun _=>k (.exit 0) (St.of [] []))) N d.1.1
def lp88 (N:Nat):Nat->Option z0m:=fun r=>cond (Nat.beq r 2) (some fun R sl os k=>F88_2.take sl os fun d=>G88_2 N R d k) (none)
def x88 (N:Nat):Ctx:=(mkX N 19 [] [(2,⟨[8,0,3,7],[]⟩)] [(2,[(0,⟨[],[]⟩)])] ⟨[4],[]⟩ (fun _=>none) (lp88 N))
noncomputable def b88:Code:=((Go.Proofs.Try.f88).body).getD .skip
theorem s88_2 (N:Nat) {R:Type} (k:AExit->St->Option R) (t0:List Yd) (t7:Int) (o0:Yd) (kb:List Yp->List Obj->Option R) (x:Int):z0z (x88 N) (z04 2 (z00 b88)) (St.of [(8,(.data .ya x)),(0,(.data .yr t0)),(3,(.bptr 0 [])),(7,(.data .ya t7))] [.cell (.data .ye o0)]) (z1q (x88 N) 2 ⟨[8,0,3,7],[]⟩ kb k)=zjg N t0 t7 o0 (fun y=>kb [(8,(.data .ya y)),(0,(.data .yr t0)),(3,(.bptr 0 [])),(7,(.data .ya t7))] [.cell (.data .ye o0)])
  (fun y0=>k .ret (St.of [(4,(.data .ya y0))] []))
  (fun _=>k (.exit 0) (St.of [] [])) x:=by kernel_rfl
theorem l88_2 (N:Nat):z0r (x88 N) (z04 2 (z00 b88)):=
 z0i (G88_2 N) (by kernel_rfl) (by kernel_rfl) (by kernel_rfl) fun R k d=>
  z0g (st:=fun (x:Int)=>([(8,(.data .ya x)),(0,(.data .yr d.1.2.1)),(3,(.bptr 0 [])),(7,(.data .ya d.1.2.2.2.1))],[.cell (.data .ye d.2.1)])) (s88_2 N k d.1.2.1 d.1.2.2.2.1 d.2.1) N d.1.1
theorem e88 (N:Nat) (a0:List Yd) (a1:Yd):z1y (x88 N) [.ya] [.tmp 4] b88 (entry (.pr (.val .yr) (.pr (.val .ye) .un)) (a0,(a1,())))=f88 N a0 a1:=by kernel_rfl
theorem k88 (N:Nat):z03 Go.Proofs.Try.prog 88 (c88 N):=
 z23 (fn:=Go.Proofs.Try.f88) (body:=b88) (c:=x88 N) Go.Proofs.Try.func88 (by kernel_rfl) (by kernel_rfl) ⟨ttL_ok,z0n,z0p,z0q,z0o,z0e⟩ mixed (by kernel_rfl) (zL (by kernel_rfl)) (by kernel_rfl) (by decide)
  (z0b (by kernel_rfl:z00 b88=[z04 2 (z00 b88)]) (.cons (l88_2 N) .nil)) fun d=>e88 N d.1 d.2.1
def f64 (N:Nat) (a0:List Yd) (a1:Yd):Option (Bool):=
 (f88 N a0 a1).bind fun r=>
 some (decide (0≤r))
def c64 (N:Nat):Callee:=.pure (.pr (.val .yr) (.pr (.val .ye) .un)) [.bool] fun d=>f64 N d.1 d.2.1
def lp64 (N:Nat):Nat->Option z0m:=fun r=>none
def x64 (N:Nat):Ctx:=(mkX N 9 [(88,[c88 N])] [] [] ⟨[4],[]⟩ (fun _=>none) (lp64 N))
noncomputable def b64:Code:=((Go.Proofs.Try.f64).body).getD .skip
theorem e64 (N:Nat) (a0:List Yd) (a1:Yd):z1y (x64 N) [.bool] [.tmp 4] b64 (entry (.pr (.val .yr) (.pr (.val .ye) .un)) (a0,(a1,())))=f64 N a0 a1:=by kernel_rfl
theorem k64 (N:Nat):z03 Go.Proofs.Try.prog 64 (c64 N):=
 z23 (fn:=Go.Proofs.Try.f64) (body:=b64) (c:=x64 N) Go.Proofs.Try.func64 (by kernel_rfl) (by kernel_rfl) ⟨ttL_ok,z0n,z0p,z0q,z0o,z02 (z01 (k88 N)) (z0e)⟩ mixed (by kernel_rfl) (zL (by kernel_rfl)) (by kernel_rfl) (by decide)
  (z0b (by kernel_rfl:z00 b64=[]) .nil) fun d=>e64 N d.1 d.2.1
def zgw {R:Type} (N:Nat) (t6_2:Int) (t24_1:Int) (t25_1:Int) (t42:Int) (o1_2:List Int) (o2:Ye) (kb:Int×Yah->Option R) (kx4:Yah->Option R):Int×Yah->Option R:=
 fun (t43,o0_2)=>
  cond (decide (t43 < t42))
   (chk (inb o1_2 t43) <|
   (idx o1_2 t43).bind fun x_4=>
   chk (inb o0_2 t6_2) <|
   (idx o0_2 t6_2).bind fun x_5=>
   (idx o0_2 t6_2).bind fun x_6=>
   (f64 N o0_2 (x_4,((z0l (x_6.2.1-1)),()))).bind fun r_2=>
   cond (!r_2)
    (chk (decide ((Nat.succ (List.length o0_2))≤z3e)) <|
    kb ((z0l (t43+1)),(o0_2++((x_4,((z0l (x_6.2.1-1)),())) :: ([]:List Yd)))))
    (kb ((z0l (t43+1)),o0_2)))
   (kx4 o0_2)
def zoj {R:Type} (N:Nat) (t6_1:Int) (t24:Int) (o1_1:Ye) (kb:Int×Yah->Option R) (kx2:Yah->Option R):Int×Yah->Option R:=
 fun (t25,o0_1)=>
  cond (decide (t25 < t24))
   (chk (inb o0_1 t6_1) <|
   (idx o0_1 t6_1).bind fun x=>
   (idx o0_1 t6_1).bind fun x_1=>
   cond (decide (x_1.2.1=0))
    (kb ((z0l (t25+1)),o0_1))
    (chk (inb o0_1 t6_1) <|
    (idx o0_1 t6_1).bind fun x_2=>
    (idx o0_1 t6_1).bind fun x_3=>
    (f41 N o1_1 x_3.1 t25).bind fun r_1=>
    iter (fun w=>zgw N t6_1 t24 t25 (len r_1) r_1 o1_1 w
     (fun o0_3=>
      kb ((z0l (t25+1)),o0_3))) N (0,o0_1)))
   (kx2 o0_1)
def zsz {R:Type} (N:Nat) (o1:Ye) (kb:Int×Yah->Option R) (kx0:Yah->Option R):Int×Yah->Option R:=
 fun (t6,o0)=>
  cond (decide (t6 < (len o0)))
   (iter (fun w=>zoj N t6 (len o1.2.1) o1 w
    (fun o0_4=>
     kb ((z0l (t6+1)),o0_4))) N (0,o0))
   (kx0 o0)
def f25 (N:Nat) (a0:Ye) (a1:Int):Option Yah:=
 (f39 N a0).bind fun r=>
 iter (fun w=>zsz N a0 w
  (fun o0_5=>
   some o0_5)) N (0,((r,(a1,())) :: ([]:List Yd)))
def c25 (N:Nat):Callee:=.pure (.pr (.val .yg) (.pr (.val .ya) .un)) [(.sl true .ye)] fun d=>f25 N d.1 d.2.1
def F25_10:SForm:=⟨[(43,(.val .ya)),(5,(.ref 0)),(6,(.val .ya)),(41,(.ref 1)),(2,(.bptr 2 [])),(24,(.val .ya)),(25,(.val .ya)),(42,(.val .ya))],[.row .ye,.row .ya,.cell (.val .yg)]⟩
def G25_10 (N:Nat):(R:Type)->F25_10.den->(AExit->St->Option R)->Option R:=fun R d k=>iter (fun kb=>zgw N d.1.2.2.1 d.1.2.2.2.2.2.1 d.1.2.2.2.2.2.2.1 d.1.2.2.2.2.2.2.2.1 d.2.2.1 d.2.2.2.1 kb
  (fun y3=>k (.exit 4) (St.of [(5,(.ref 0 [] 0)),(6,(.data .ya d.1.2.2.1)),(2,(.bptr 1 [])),(24,(.data .ya d.1.2.2.2.2.2.1)),(25,(.data .ya d.1.2.2.2.2.2.2.1))] [.row .ye y3 0,.cell (.data .yg d.2.2.2.1)]))) N (d.1.1,d.2.1)
def F25_6:SForm:=⟨[(25,(.val .ya)),(5,(.ref 0)),(6,(.val .ya)),(2,(.bptr 1 [])),(24,(.val .ya))],[.row .ye,.cell (.val .yg)]⟩
def G25_6 (N:Nat):(R:Type)->F25_6.den->(AExit->St->Option R)->Option R:=fun R d k=>iter (fun kb=>zoj N d.1.2.2.1 d.1.2.2.2.2.1 d.2.2.1 kb
  (fun y1=>k (.exit 2) (St.of [(5,(.ref 0 [] 0)),(2,(.bptr 1 [])),(6,(.data .ya d.1.2.2.1))] [.row .ye y1 0,.cell (.data .yg d.2.2.1)]))) N (d.1.1,d.2.1)
def F25_3:SForm:=⟨[(5,(.ref 0)),(6,(.val .ya)),(2,(.bptr 1 []))],[.row .ye,.cell (.val .yg)]⟩
def G25_3 (N:Nat):(R:Type)->F25_3.den->(AExit->St->Option R)->Option R:=fun R d k=>iter (fun kb=>zsz N d.2.2.1 kb
  (fun y0=>k (.exit 0) (St.of [(5,(.ref 0 [] 0))] [.row .ye y0 0]))) N (d.1.2.1,d.2.1)
def lp25 (N:Nat):Nat->Option z0m:=fun r=>cond (Nat.beq r 10) (some fun R sl os k=>F25_10.take sl os fun d=>G25_10 N R d k) (cond (Nat.beq r 6) (some fun R sl os k=>F25_6.take sl os fun d=>G25_6 N R d k) (cond (Nat.beq r 3) (some fun R sl os k=>F25_3.take sl os fun d=>G25_3 N R d k) (none)))
def x25 (N:Nat):Ctx:=(mkX N 66 [(39,[c39 N]),(41,[c41 N]),(64,[c64 N])] [(3,⟨[5,6,2],[]⟩),(6,⟨[25,5,6,2,24],[]⟩),(10,⟨[43,5,6,41,2,24,25,42],[]⟩)] [(3,[(0,⟨[5],[]⟩)]),(6,[(2,⟨[5,2,6],[]⟩)]),(10,[(4,⟨[5,6,2,24,25],[]⟩)])] ⟨[4],[]⟩ (fun _=>none) (lp25 N))
noncomputable def b25:Code:=((Go.Proofs.Try.f25).body).getD .skip
theorem s25_10 (N:Nat) {R:Type} (k:AExit->St->Option R) (t6_2:Int) (t24_1:Int) (t25_1:Int) (t42:Int) (o1_2:List Int) (o2:Ye) (kb:List Yp->List Obj->Option R) (x:Int×Yah):z0z (x25 N) (z04 10 (z00 b25)) (St.of [(43,(.data .ya x.1)),(5,(.ref 0 [] 0)),(6,(.data .ya t6_2)),(41,(.ref 1 [] 0)),(2,(.bptr 2 [])),(24,(.data .ya t24_1)),(25,(.data .ya t25_1)),(42,(.data .ya t42))] [.row .ye x.2 0,.row .ya o1_2 0,.cell (.data .yg o2)]) (z1q (x25 N) 10 ⟨[43,5,6,41,2,24,25,42],[]⟩ kb k)=zgw N t6_2 t24_1 t25_1 t42 o1_2 o2 (fun y=>kb [(43,(.data .ya y.1)),(5,(.ref 0 [] 0)),(6,(.data .ya t6_2)),(41,(.ref 1 [] 0)),(2,(.bptr 2 [])),(24,(.data .ya t24_1)),(25,(.data .ya t25_1)),(42,(.data .ya t42))] [.row .ye y.2 0,.row .ya o1_2 0,.cell (.data .yg o2)])
  (fun y3=>k (.exit 4) (St.of [(5,(.ref 0 [] 0)),(6,(.data .ya t6_2)),(2,(.bptr 1 [])),(24,(.data .ya t24_1)),(25,(.data .ya t25_1))] [.row .ye y3 0,.cell (.data .yg o2)])) x:=by kernel_rfl
theorem l25_10 (N:Nat):z0r (x25 N) (z04 10 (z00 b25)):=
 z0i (G25_10 N) (by kernel_rfl) (by kernel_rfl) (by kernel_rfl) fun R k d=>
  z0g (st:=fun (x:Int×Yah)=>([(43,(.data .ya x.1)),(5,(.ref 0 [] 0)),(6,(.data .ya d.1.2.2.1)),(41,(.ref 1 [] 0)),(2,(.bptr 2 [])),(24,(.data .ya d.1.2.2.2.2.2.1)),(25,(.data .ya d.1.2.2.2.2.2.2.1)),(42,(.data .ya d.1.2.2.2.2.2.2.2.1))],[.row .ye x.2 0,.row .ya d.2.2.1 0,.cell (.data .yg d.2.2.2.1)])) (s25_10 N k d.1.2.2.1 d.1.2.2.2.2.2.1 d.1.2.2.2.2.2.2.1 d.1.2.2.2.2.2.2.2.1 d.2.2.1 d.2.2.2.1) N (d.1.1,d.2.1)
theorem s25_6 (N:Nat) {R:Type} (k:AExit->St->Option R) (t6_1:Int) (t24:Int) (o1_1:Ye) (kb:List Yp->List Obj->Option R) (x:Int×Yah):z0z (x25 N) (z04 6 (z00 b25)) (St.of [(25,(.data .ya x.1)),(5,(.ref 0 [] 0)),(6,(.data .ya t6_1)),(2,(.bptr 1 [])),(24,(.data .ya t24))] [.row .ye x.2 0,.cell (.data .yg o1_1)]) (z1q (x25 N) 6 ⟨[25,5,6,2,24],[]⟩ kb k)=zoj N t6_1 t24 o1_1 (fun y=>kb [(25,(.data .ya y.1)),(5,(.ref 0 [] 0)),(6,(.data .ya t6_1)),(2,(.bptr 1 [])),(24,(.data .ya t24))] [.row .ye y.2 0,.cell (.data .yg o1_1)])
  (fun y1=>k (.exit 2) (St.of [(5,(.ref 0 [] 0)),(2,(.bptr 1 [])),(6,(.data .ya t6_1))] [.row .ye y1 0,.cell (.data .yg o1_1)])) x:=by kernel_rfl
theorem l25_6 (N:Nat):z0r (x25 N) (z04 6 (z00 b25)):=
 z0i (G25_6 N) (by kernel_rfl) (by kernel_rfl) (by kernel_rfl) fun R k d=>
  z0g (st:=fun (x:Int×Yah)=>([(25,(.data .ya x.1)),(5,(.ref 0 [] 0)),(6,(.data .ya d.1.2.2.1)),(2,(.bptr 1 [])),(24,(.data .ya d.1.2.2.2.2.1))],[.row .ye x.2 0,.cell (.data .yg d.2.2.1)])) (s25_6 N k d.1.2.2.1 d.1.2.2.2.2.1 d.2.2.1) N (d.1.1,d.2.1)
theorem s25_3 (N:Nat) {R:Type} (k:AExit->St->Option R) (o1:Ye) (kb:List Yp->List Obj->Option R) (x:Int×Yah):z0z (x25 N) (z04 3 (z00 b25)) (St.of [(5,(.ref 0 [] 0)),(6,(.data .ya x.1)),(2,(.bptr 1 []))] [.row .ye x.2 0,.cell (.data .yg o1)]) (z1q (x25 N) 3 ⟨[5,6,2],[]⟩ kb k)=zsz N o1 (fun y=>kb [(5,(.ref 0 [] 0)),(6,(.data .ya y.1)),(2,(.bptr 1 []))] [.row .ye y.2 0,.cell (.data .yg o1)])
  (fun y0=>k (.exit 0) (St.of [(5,(.ref 0 [] 0))] [.row .ye y0 0])) x:=by kernel_rfl
theorem l25_3 (N:Nat):z0r (x25 N) (z04 3 (z00 b25)):=
 z0i (G25_3 N) (by kernel_rfl) (by kernel_rfl) (by kernel_rfl) fun R k d=>
  z0g (st:=fun (x:Int×Yah)=>([(5,(.ref 0 [] 0)),(6,(.data .ya x.1)),(2,(.bptr 1 []))],[.row .ye x.2 0,.cell (.data .yg d.2.2.1)])) (s25_3 N k d.2.2.1) N (d.1.2.1,d.2.1)
theorem e25 (N:Nat) (a0:Ye) (a1:Int):z1y (x25 N) [(.sl true .ye)] [.tmp 4] b25 (entry (.pr (.val .yg) (.pr (.val .ya) .un)) (a0,(a1,())))=f25 N a0 a1:=by kernel_rfl
theorem k25 (N:Nat):z03 Go.Proofs.Try.prog 25 (c25 N):=
 z23 (fn:=Go.Proofs.Try.f25) (body:=b25) (c:=x25 N) Go.Proofs.Try.func25 (by kernel_rfl) (by kernel_rfl) ⟨ttL_ok,z0n,z0p,z0q,z0o,z02 (z01 (k39 N)) (z02 (z01 (k41 N)) (z02 (z01 (k64 N)) (z0e)))⟩ mixed (by kernel_rfl) (zL (by kernel_rfl)) (by kernel_rfl) (by decide)
  (z0b (by kernel_rfl:z00 b25=[z04 3 (z00 b25),z04 6 (z00 b25),z04 10 (z00 b25)]) (.cons (l25_3 N) (.cons (l25_6 N) (.cons (l25_10 N) .nil)))) fun d=>e25 N d.1 d.2.1
def f61 (N:Nat) (a0:Yr) (a1:Yr):Option (Int):=
 (f38 N a0 a1).bind fun r=>
 cond r
  (some (-1))
  (some 1)
def c61 (N:Nat):Callee:=.pure (.pr (.val .yh) (.pr (.val .yh) .un)) [.ya] fun d=>f61 N d.1 d.2.1
def lp61 (N:Nat):Nat->Option z0m:=fun r=>none
def x61 (N:Nat):Ctx:=(mkX N 8 [(38,[c38 N])] [] [] ⟨[4],[]⟩ (fun _=>none) (lp61 N))
noncomputable def b61:Code:=((Go.Proofs.Try.f61).body).getD .skip
theorem e61 (N:Nat) (a0:Yr) (a1:Yr):z1y (x61 N) [.ya] [.tmp 4] b61 (entry (.pr (.val .yh) (.pr (.val .yh) .un)) (a0,(a1,())))=f61 N a0 a1:=by kernel_rfl
theorem k61 (N:Nat):z03 Go.Proofs.Try.prog 61 (c61 N):=
 z23 (fn:=Go.Proofs.Try.f61) (body:=b61) (c:=x61 N) Go.Proofs.Try.func61 (by kernel_rfl) (by kernel_rfl) ⟨ttL_ok,z0n,z0p,z0q,z0o,z02 (z01 (k38 N)) (z0e)⟩ mixed (by kernel_rfl) (zL (by kernel_rfl)) (by kernel_rfl) (by decide)
  (z0b (by kernel_rfl:z00 b61=[]) .nil) fun d=>e61 N d.1 d.2.1
def zul (N:Nat) (a1:Unit) (o0:List Yr):Option (Yi×(Yai×Unit)):=(zpz .yh (fun x y=>f61 N x y) o0).map fun l=>(((),()),(l,()))
def c60v1 (N:Nat):Callee:=.mut ⟨[(0,.ref 0),(1,.val (.fn 61 .unit))],[.row .yh]⟩ [0] ⟨[(0,.ref 0)],[.row .yh]⟩ fun d=>zul N d.1.2.1 d.2.1
theorem k60v1 (N:Nat):z03 Go.Proofs.Try.prog 60 (c60v1 N):=
 zds Go.Proofs.Try.sortL60 (t:=.yh) (by kernel_rfl) (by kernel_rfl) (fun w=>Go.Proofs.Try.isAgg55 w) (fun w=>Go.Proofs.Try.sizeOf55 w) (Go.Proofs.enters_of Go.Proofs.Try.func61 (by kernel_rfl) rfl) (k61 N)
def zjn {R:Type} (N:Nat) (t10:Int) (t43:Int) (o3:List Yd) (o4:List Yk) (kb:Int×Ye×List Ya×Yg×Yai->Option R) (kx0:Yai->Option R):Int×Ye×List Ya×Yg×Yai->Option R:=
 fun (t44,o0,o0',o1,o2)=>
  cond (decide (t44 < t43))
   (chk (inb o3 t44) <|
   (idx o3 t44).bind fun x=>
   z4z [z4z [(f58 N x.1 x.2.1 o0 o0' o1).bind fun r_7=>
     chk (decide ((Nat.succ (List.length o2))≤z3e)) <|
     kb ((z0l (t44+1)),r_7.2.1.1,r_7.2.1.2.1,r_7.2.2.1,(o2++((x.1,(x.2.1,(r_7.1.2.1,()))) :: ([]:List Yr)))),
     (f58 N x.1 x.2.1 o0 o0' o1).bind fun r_8=>
     chk (decide ((Nat.succ (List.length o2))≤z3e)) <|
     kb ((z0l (t44+1)),r_8.2.1.1,r_8.2.1.2.1,r_8.2.2.1,(o2++((x.1,(x.2.1,(r_8.1.2.1,()))) :: ([]:List Yr))))],
    z4z [(f58 N x.1 x.2.1 o0 o0' o1).bind fun r_9=>
     chk (decide ((Nat.succ (List.length o2))≤z3e)) <|
     kb ((z0l (t44+1)),r_9.2.1.1,r_9.2.1.2.1,r_9.2.2.1,(o2++((x.1,(x.2.1,(r_9.1.2.1,()))) :: ([]:List Yr)))),
     (f58 N x.1 x.2.1 o0 o0' o1).bind fun r_10=>
     chk (decide ((Nat.succ (List.length o2))≤z3e)) <|
     kb ((z0l (t44+1)),r_10.2.1.1,r_10.2.1.2.1,r_10.2.2.1,(o2++((x.1,(x.2.1,(r_10.1.2.1,()))) :: ([]:List Yr))))],
    (f58 N x.1 x.2.1 o0 o0' o1).bind fun r_11=>
    chk (decide ((Nat.succ (List.length o2))≤z3e)) <|
    kb ((z0l (t44+1)),r_11.2.1.1,r_11.2.1.2.1,r_11.2.2.1,(o2++((x.1,(x.2.1,(r_11.1.2.1,()))) :: ([]:List Yr))))])
   (kx0 o2)
def f22 (N:Nat) (a0:Ye) (a1:List Ya) (a2:Int):Option (Int×Yn×Yai):=
 (f39 N a0).bind fun r=>
 (f58 N r a2 a0 a1 ([]:List Yf)).bind fun r_1=>
 (f39 N a0).bind fun r_2=>
 (f40 N a0 a1 r_2).bind fun r_3=>
 cond (!(decide (r_3=r_1.1.2.1)))
  ((f39 N a0).bind fun r_4=>
  (f59 N r_4 a2 r_1.2.1.1 r_1.2.1.2.1 r_1.2.2.1 ([]:List Yk)).bind fun r_5=>
  (f25 N a0 a2).bind fun r_6=>
  iter (fun w=>zjn N r_1.1.2.1 (len r_6) r_6 r_5.2.2.2.1 w
   (fun o0_1=>
    (zul N () o0_1).bind fun r_12=>
    some (r_1.1.2.1,(r_5.2.2.2.1,r_12.2.1)))) N (0,r_5.2.1.1,r_5.2.1.2.1,r_5.2.2.1,([]:List Yr)))
  ((f25 N a0 a2).bind fun r_13=>
  iter (fun w=>zjn N r_1.1.2.1 (len r_13) r_13 ([]:List Yk) w
   (fun o0_2=>
    (zul N () o0_2).bind fun r_14=>
    some (r_1.1.2.1,(([]:List Yk),r_14.2.1)))) N (0,r_1.2.1.1,r_1.2.1.2.1,r_1.2.2.1,([]:List Yr)))
def c22 (N:Nat):Callee:=.pure (.pr (.val .yg) (.pr (.val .yc) (.pr (.val .ya) .un))) [.ya,.yp,(.sl true .yh)] fun d=>f22 N d.1 d.2.1 d.2.2.1
def F22_8:SForm:=⟨[(44,(.val .ya)),(9,(.bptr 0 [])),(12,(.ref 2)),(42,(.ref 3)),(11,(.nv 4)),(10,(.val .ya)),(43,(.val .ya))],[.con (.agg (.pr (.val .yg) (.pr (.val .yc) (.pr (.mref 1) .un)))),.map .ye .ya,.row .yh,.row .ye,.nest .yl]⟩
def G22_8 (N:Nat):(R:Type)->F22_8.den->(AExit->St->Option R)->Option R:=fun R d k=>iter (fun kb=>zjn N d.1.2.2.2.2.2.1 d.1.2.2.2.2.2.2.1 d.2.2.2.2.1 d.2.2.2.2.2.1 kb
  (fun y1=>k (.exit 0) (St.of [(12,(.ref 0 [] 0)),(11,(.nv false 1 [] 0)),(10,(.data .ya d.1.2.2.2.2.2.1))] [.row .yh y1 0,.nest .yl d.2.2.2.2.2.1 0 0 none]))) N (d.1.1,d.2.1.1,d.2.1.2.1,d.2.2.1,d.2.2.2.1)
def lp22 (N:Nat):Nat->Option z0m:=fun r=>cond (Nat.beq r 8) (some fun R sl os k=>F22_8.take sl os fun d=>G22_8 N R d k) (none)
def x22 (N:Nat):Ctx:=(mkX N 68 [(39,[c39 N]),(58,[c58 N]),(40,[c40 N]),(59,[c59 N]),(25,[c25 N]),(60,[c60v1 N])] [(8,⟨[44,9,12,42,11,10,43],[]⟩)] [(8,[(0,⟨[12,11,10],[]⟩)])] ⟨[6,7,8],[]⟩ (z1v [(25,(.sl true .yl))]) (lp22 N))
noncomputable def b22:Code:=((Go.Proofs.Try.f22).body).getD .skip
theorem s22_8 (N:Nat) {R:Type} (k:AExit->St->Option R) (t10:Int) (t43:Int) (o3:List Yd) (o4:List Yk) (kb:List Yp->List Obj->Option R) (x:Int×Ye×List Ya×Yg×Yai):z0z (x22 N) (z04 8 (z00 b22)) (St.of [(44,(.data .ya x.1)),(9,(.bptr 0 [])),(12,(.ref 2 [] 0)),(42,(.ref 3 [] 0)),(11,(.nv false 4 [] 0)),(10,(.data .ya t10)),(43,(.data .ya t43))] [.cell (.tup (.agg (.pr (.data .yg x.2.1) (.pr (.data .yc x.2.2.1) (.pr (.mref 1) .un))))),.map .ye .ya x.2.2.2.1,.row .yh x.2.2.2.2 0,.row .ye o3 0,.nest .yl o4 0 0 none]) (z1q (x22 N) 8 ⟨[44,9,12,42,11,10,43],[]⟩ kb k)=zjn N t10 t43 o3 o4 (fun y=>kb [(44,(.data .ya y.1)),(9,(.bptr 0 [])),(12,(.ref 2 [] 0)),(42,(.ref 3 [] 0)),(11,(.nv false 4 [] 0)),(10,(.data .ya t10)),(43,(.data .ya t43))] [.cell (.tup (.agg (.pr (.data .yg y.2.1) (.pr (.data .yc y.2.2.1) (.pr (.mref 1) .un))))),.map .ye .ya y.2.2.2.1,.row .yh y.2.2.2.2 0,.row .ye o3 0,.nest .yl o4 0 0 none])
  (fun y1=>k (.exit 0) (St.of [(12,(.ref 0 [] 0)),(11,(.nv false 1 [] 0)),(10,(.data .ya t10))] [.row .yh y1 0,.nest .yl o4 0 0 none])) x:=by kernel_rfl
theorem l22_8 (N:Nat):z0r (x22 N) (z04 8 (z00 b22)):=
 z0i (G22_8 N) (by kernel_rfl) (by kernel_rfl) (by kernel_rfl) fun R k d=>
  z0g (st:=fun (x:Int×Ye×List Ya×Yg×Yai)=>([(44,(.data .ya x.1)),(9,(.bptr 0 [])),(12,(.ref 2 [] 0)),(42,(.ref 3 [] 0)),(11,(.nv false 4 [] 0)),(10,(.data .ya d.1.2.2.2.2.2.1)),(43,(.data .ya d.1.2.2.2.2.2.2.1))],[.cell (.tup (.agg (.pr (.data .yg x.2.1) (.pr (.data .yc x.2.2.1) (.pr (.mref 1) .un))))),.map .ye .ya x.2.2.2.1,.row .yh x.2.2.2.2 0,.row .ye d.2.2.2.2.1 0,.nest .yl d.2.2.2.2.2.1 0 0 none])) (s22_8 N k d.1.2.2.2.2.2.1 d.1.2.2.2.2.2.2.1 d.2.2.2.2.1 d.2.2.2.2.2.1) N (d.1.1,d.2.1.1,d.2.1.2.1,d.2.2.1,d.2.2.2.1)
theorem e22 (N:Nat) (a0:Ye) (a1:List Ya) (a2:Int):z1y (x22 N) [.ya,.yp,(.sl true .yh)] [.tmp 6,.tmp 7,.tmp 8] b22 (entry (.pr (.val .yg) (.pr (.val .yc) (.pr (.val .ya) .un))) (a0,(a1,(a2,()))))=f22 N a0 a1 a2:=by kernel_rfl
theorem k22 (N:Nat):z03 Go.Proofs.Try.prog 22 (c22 N):=
 z23 (fn:=Go.Proofs.Try.f22) (body:=b22) (c:=x22 N) Go.Proofs.Try.func22 (by kernel_rfl) (by kernel_rfl) ⟨ttL_ok,z0n,z0p,z0q,z0o,z02 (z01 (k39 N)) (z02 (z01 (k58 N)) (z02 (z01 (k40 N)) (z02 (z01 (k59 N)) (z02 (z01 (k25 N)) (z02 (z01 (k60v1 N)) (z0e))))))⟩ mixed (by kernel_rfl) (zL (by kernel_rfl)) (by kernel_rfl) (by decide)
  (z0b (by kernel_rfl:z00 b22=[z04 8 (z00 b22)]) (.cons (l22_8 N) .nil)) fun d=>e22 N d.1 d.2.1 d.2.2.1
def zok {R:Type} (N:Nat) (t1:List Yr) (t0:List Yr) (t12:Int) (kb:Int->Option R) (kret:Bool->Option R) (kx0:Unit->Option R):Int->Option R:=
 fun t13=>
  cond (decide (t13 < t12))
   ((idx t0 t13).bind fun x=>
   (idx t1 t13).bind fun x_1=>
   cond (!(eqD .yh x x_1))
    (kret false)
    (kb (z0l (t13+1))))
   (kx0 ())
def f24 (N:Nat) (a0:List Yr) (a1:List Yr):Option (Bool):=
 cond (!(decide ((len a0)=(len a1))))
  (some false)
  (iter (fun w=>zok N a1 a0 (len a0) w
   (fun t4=>
    some t4)
   (fun (_:Unit)=>
    some true)) N 0)
def c24 (N:Nat):Callee:=.pure (.pr (.val .ym) (.pr (.val .ym) .un)) [.bool] fun d=>f24 N d.1 d.2.1
def F24_4:SForm:=⟨[(13,(.val .ya)),(1,(.val .ym)),(0,(.val .ym)),(12,(.val .ya))],[]⟩
def G24_4 (N:Nat):(R:Type)->F24_4.den->(AExit->St->Option R)->Option R:=fun R d k=>iter (fun kb=>zok N d.1.2.1 d.1.2.2.1 d.1.2.2.2.1 kb
  (fun y0=>k .ret (St.of [(4,(.data .bool y0))] []))
  (fun _=>k (.exit 0) (St.of [] []))) N d.1.1
def lp24 (N:Nat):Nat->Option z0m:=fun r=>cond (Nat.beq r 4) (some fun R sl os k=>F24_4.take sl os fun d=>G24_4 N R d k) (none)
def x24 (N:Nat):Ctx:=(mkX N 26 [] [(4,⟨[13,1,0,12],[]⟩)] [(4,[(0,⟨[],[]⟩)])] ⟨[4],[]⟩ (fun _=>none) (lp24 N))
noncomputable def b24:Code:=((Go.Proofs.Try.f24).body).getD .skip
theorem s24_4 (N:Nat) {R:Type} (k:AExit->St->Option R) (t1:List Yr) (t0:List Yr) (t12:Int) (kb:List Yp->List Obj->Option R) (x:Int):z0z (x24 N) (z04 4 (z00 b24)) (St.of [(13,(.data .ya x)),(1,(.data .ym t1)),(0,(.data .ym t0)),(12,(.data .ya t12))] []) (z1q (x24 N) 4 ⟨[13,1,0,12],[]⟩ kb k)=zok N t1 t0 t12 (fun y=>kb [(13,(.data .ya y)),(1,(.data .ym t1)),(0,(.data .ym t0)),(12,(.data .ya t12))] [])
  (fun y0=>k .ret (St.of [(4,(.data .bool y0))] []))
  (fun _=>k (.exit 0) (St.of [] [])) x:=by kernel_rfl
theorem l24_4 (N:Nat):z0r (x24 N) (z04 4 (z00 b24)):=
 z0i (G24_4 N) (by kernel_rfl) (by kernel_rfl) (by kernel_rfl) fun R k d=>
  z0g (st:=fun (x:Int)=>([(13,(.data .ya x)),(1,(.data .ym d.1.2.1)),(0,(.data .ym d.1.2.2.1)),(12,(.data .ya d.1.2.2.2.1))],[])) (s24_4 N k d.1.2.1 d.1.2.2.1 d.1.2.2.2.1) N d.1.1
theorem e24 (N:Nat) (a0:List Yr) (a1:List Yr):z1y (x24 N) [.bool] [.tmp 4] b24 (entry (.pr (.val .ym) (.pr (.val .ym) .un)) (a0,(a1,())))=f24 N a0 a1:=by kernel_rfl
theorem k24 (N:Nat):z03 Go.Proofs.Try.prog 24 (c24 N):=
 z23 (fn:=Go.Proofs.Try.f24) (body:=b24) (c:=x24 N) Go.Proofs.Try.func24 (by kernel_rfl) (by kernel_rfl) ⟨ttL_ok,z0n,z0p,z0q,z0o,z0e⟩ mixed (by kernel_rfl) (zL (by kernel_rfl)) (by kernel_rfl) (by decide)
  (z0b (by kernel_rfl:z00 b24=[z04 4 (z00 b24)]) (.cons (l24_4 N) .nil)) fun d=>e24 N d.1 d.2.1
def f6 (N:Nat) (a0:Ye) (a1:List Ya) (a2:Int):Option (Bool):=
 (f11 N).bind fun r=>
 cond (!r)
  (some false)
  ((f12 N a0 a1 6 4).bind fun r_1=>
  cond (!r_1)
   (some true)
   ((f20 N a0 a1 a2).bind fun r_2=>
   (f15 N a0 a1 a2).bind fun r_3=>
   cond (!r_3)
    ((cond (decide (r_2.2.2.2=1))
      (some (decide (r_2.1=0)))
      (some false)).bind fun b=>
    (cond b
      (some (decide ((len r_2.2.1)=0)))
      (some false)).bind fun b_1=>
    (cond b_1
      (some (decide ((len r_2.2.2.1)=0)))
      (some false)).bind fun b_2=>
    some b_2)
    ((f22 N a0 a1 a2).bind fun r_4=>
    (cond (decide (r_2.2.2.2=0))
      (some (decide (r_2.1=r_4.1)))
      (some false)).bind fun b_3=>
    (cond b_3
      ((f23 N r_2.2.1 r_4.2.1).bind fun r_5=>
      some r_5)
      (some false)).bind fun b_4=>
    (cond b_4
      ((f24 N r_2.2.2.1 r_4.2.2).bind fun r_6=>
      some r_6)
      (some false)).bind fun b_5=>
    some b_5)))
def c6 (N:Nat):Callee:=.pure (.pr (.val .yg) (.pr (.val .yc) (.pr (.val .ya) .un))) [.bool] fun d=>f6 N d.1 d.2.1 d.2.2.1
def lp6 (N:Nat):Nat->Option z0m:=fun r=>none
def x6 (N:Nat):Ctx:=(mkX N 75 [(11,[c11 N]),(12,[c12 N]),(20,[c20 N]),(15,[c15 N]),(22,[c22 N]),(23,[c23 N]),(24,[c24 N])] [] [] ⟨[6],[]⟩ (fun _=>none) (lp6 N))
noncomputable def b6:Code:=((Go.Proofs.Try.f6).body).getD .skip
theorem e6 (N:Nat) (a0:Ye) (a1:List Ya) (a2:Int):z1y (x6 N) [.bool] [.tmp 6] b6 (entry (.pr (.val .yg) (.pr (.val .yc) (.pr (.val .ya) .un))) (a0,(a1,(a2,()))))=f6 N a0 a1 a2:=by kernel_rfl
theorem k6 (N:Nat):z03 Go.Proofs.Try.prog 6 (c6 N):=
 z23 (fn:=Go.Proofs.Try.f6) (body:=b6) (c:=x6 N) Go.Proofs.Try.func6 (by kernel_rfl) (by kernel_rfl) ⟨ttL_ok,z0n,z0p,z0q,z0o,z02 (z01 (k11 N)) (z02 (z01 (k12 N)) (z02 (z01 (k20 N)) (z02 (z01 (k15 N)) (z02 (z01 (k22 N)) (z02 (z01 (k23 N)) (z02 (z01 (k24 N)) (z0e)))))))⟩ mixed (by kernel_rfl) (zL (by kernel_rfl)) (by kernel_rfl) (by decide)
  (z0b (by kernel_rfl:z00 b6=[]) .nil) fun d=>e6 N d.1 d.2.1 d.2.2.1
end
end Go.Kz
