/-
  The functions of the program as plain functions on lists and numbers, and the proofs that the program computes them. Printed by a program.
-/
import Derived.Test.YtnjfafnflbackaaGreatKzP43Zc
set_option linter.unusedSimpArgs false
set_option maxRecDepth 100000
set_option linter.unusedVariables false
namespace Go.Kz
open Go.Proofs
noncomputable section
def zfi {R:Type} (N:Nat) (r25v1:Int->Yd->Ya->Yl->Yp->Option (Yau)) (t1_1:Int) (o3_1:List Yk) (kb:Int×Yd×List Int×Yl->Option R) (kx0:Int->Yd->Ya->Yl->Option R):Int×Yd×List Int×Yl->Option R:=
 fun (t7,o0_1,o1_1,o2_1)=>
  (f54 N (f23 N) t1_1 t7 o0_1 o1_1 o2_1).bind fun r=>
  (f23 N t1_1 r.2.1.1 r.2.2.1 r.2.2.2.1).bind fun r_1=>
  cond (!(decide (r.1.2.1=(z0g (r_1.1.2.1-1)))))
   (kb ((z0g (t7+1)),r_1.2.1.1,r_1.2.2.1,r_1.2.2.2.1))
   (kx0 t7 r_1.2.1.1 r_1.2.2.1 r_1.2.2.2.1)
def z6y {R:Type} (N:Nat) (r25v1:Int->Yd->Ya->Yl->Yp->Option (Yau)) (t8:Int) (t45:Int) (o4:List Int) (kb:Int×Yp×Yd×List Int×Yl->Option R) (kx2:Yd->Ya->Yl->Yp->Option R):Int×Yp×Yd×List Int×Yl->Option R:=
 fun (t46,o0_3,o1_3,o2_3,o3_2)=>
  cond (decide (t46 < t45))
   (chk (inb o4 t46) <|
   (idx o4 t46).bind fun x_1=>
   (f53 N o2_3 x_1).bind fun r_4=>
   cond (!r_4)
    (chk (inb o0_3 t8) <|
    (idx o0_3 t8).bind fun x_2=>
    (idx o0_3 t8).bind fun x_3=>
    (idx o0_3 t8).bind fun x_4=>
    chk (inb x_4.2.1 t46) <|
    (idx o0_3 t8).bind fun x_5=>
    (idx x_5.2.1 t46).bind fun x_6=>
    (idx x_5.2.1 t46).bind fun x_7=>
    (idx o0_3 t8).bind fun x_8=>
    (r25v1 x_1 o1_3 o2_3 o3_2 (zar o0_3 t8 (x_8.1,((zar x_5.2.1 t46 (len o0_3)),x_8.2.2)))).bind fun r_5=>
    kb ((z0g (t46+1)),r_5.2.2.2.2.1,r_5.2.1.1,r_5.2.2.1,r_5.2.2.2.1))
    (kb ((z0g (t46+1)),o0_3,o1_3,o2_3,o3_2)))
   (kx2 o1_3 o2_3 o3_2 o0_3)
def zlq (N:Nat) (r25v1:Int->Yd->Ya->Yl->Yp->Option (Yau)) (t1:Int) (o0:Yd) (o1:List Int) (o2:List Yh) (o3:List Yk):Option (Yau):=
 iter (fun w=>zfi N r25v1 t1 o3 w
  (fun t7_1 o0_2 o1_2 o2_2=>
   (idx o0_2.2.1 t7_1).bind fun x=>
   (f55 N x t1).bind fun r_2=>
   (f56 N ((-1) :: ([]:List Int)) (len r_2)).bind fun r_3=>
   chk (decide ((Nat.succ (List.length o3))≤z31)) <|
   iter (fun w=>z6y N r25v1 (len o3) (len r_2) r_2 w
    (fun o0_4 o1_4 o2_4 o3_3=>
     some (((),((),())),((o0_4,((),((),()))),(o1_4,(o2_4,(o3_3,()))))))) N (0,(o3++((t7_1,(r_3,())) :: ([]:List Yk))),o0_2,o1_2,o2_2))) N (0,o0,o1,o2)
def fi25v1B:SForm:=⟨[(0,(.bptr 0 [])),(1,(.val .ya)),(2,(.nv 3))],[.con (.agg (.pr (.val .yf) (.pr (.ref 1) (.pr (.mref 2) .un)))),.row .ya,.map .ya .ya,.nest .yn]⟩
def zu5:SForm:=⟨[(0,(.bptr 0 [])),(6,(.nv 3))],[.con (.agg (.pr (.val .yf) (.pr (.ref 1) (.pr (.mref 2) .un)))),.row .ya,.map .ya .ya,.nest .yn]⟩
def c25v1B (N:Nat) (r25v1:Int->Yd->Ya->Yl->Yp->Option (Yau)):Callee:=.mut fi25v1B [0] zu5 fun d=>zlq N r25v1 d.1.2.1 d.2.1.1 d.2.2.1 d.2.2.2.1 d.2.2.2.2.1
def zqu:SForm:=⟨[(7,(.val .ya)),(0,(.bptr 0 [])),(2,(.nv 3)),(1,(.val .ya))],[.con (.agg (.pr (.val .yf) (.pr (.ref 1) (.pr (.mref 2) .un)))),.row .ya,.map .ya .ya,.nest .yn]⟩
def zqp (N:Nat) (r25v1:Int->Yd->Ya->Yl->Yp->Option (Yau)):(R:Type)->zqu.den->(AExit->St->Option R)->Option R:=fun R d k=>iter (fun kb=>zfi N r25v1 d.1.2.2.2.1 d.2.2.2.2.1 kb
  (fun y0 y2 y3 y4=>k (.exit 0) (St.of [(0,(.bptr 0 [])),(7,(.data .ya y0)),(2,(.nv false 3 [] 0)),(1,(.data .ya d.1.2.2.2.1))] [.cell (.tup (.agg (.pr (.data .yf y2) (.pr (.ref 1 [] 0) (.pr (.mref 2) .un))))),.row .ya y3 0,.map .ya .ya y4,.nest .yn d.2.2.2.2.1 0 0 none]))) N (d.1.1,d.2.1.1,d.2.2.1,d.2.2.2.1)
def zqt:SForm:=⟨[(46,(.val .ya)),(2,(.nv 0)),(0,(.bptr 1 [])),(8,(.val .ya)),(44,(.ref 4)),(45,(.val .ya))],[.nest .yn,.con (.agg (.pr (.val .yf) (.pr (.ref 2) (.pr (.mref 3) .un)))),.row .ya,.map .ya .ya,.row .ya]⟩
def zqo (N:Nat) (r25v1:Int->Yd->Ya->Yl->Yp->Option (Yau)):(R:Type)->zqt.den->(AExit->St->Option R)->Option R:=fun R d k=>iter (fun kb=>z6y N r25v1 d.1.2.2.2.1 d.1.2.2.2.2.2.1 d.2.2.2.2.2.1 kb
  (fun y0 y1 y2 y3=>k (.exit 2) (St.of [(0,(.bptr 0 [])),(2,(.nv false 3 [] 0))] [.cell (.tup (.agg (.pr (.data .yf y0) (.pr (.ref 1 [] 0) (.pr (.mref 2) .un))))),.row .ya y1 0,.map .ya .ya y2,.nest .yn y3 0 0 none]))) N (d.1.1,d.2.1,d.2.2.1.1,d.2.2.2.1,d.2.2.2.2.1)
def lp25v1B (N:Nat) (r25v1:Int->Yd->Ya->Yl->Yp->Option (Yau)):Nat->Option z0h:=fun r=>cond (Nat.beq r 2) (some fun R sl os k=>zqu.take sl os fun d=>zqp N r25v1 R d k) (cond (Nat.beq r 8) (some fun R sl os k=>zqt.take sl os fun d=>zqo N r25v1 R d k) (none))
def zcr (N:Nat) (r25v1:Int->Yd->Ya->Yl->Yp->Option (Yau)):Ctx:={ fuel:=N,tt:=z1k ttL,mt:=z1k mtL,ntmps:=73,env:=fun f=>(z1k [(54,[c54 N (f23 N)]),(23,[c23 N]),(55,[c55 N]),(56,[c56 N]),(53,[c53 N]),(25,[(.mut ⟨[(0,(.bptr 0 [])),(1,(.val .ya)),(2,(.nv 3))],[.con (.agg (.pr (.val .yf) (.pr (.ref 1) (.pr (.mref 2) .un)))),.row .ya,.map .ya .ya,.nest .yn]⟩ [0] ⟨[(0,(.bptr 0 [])),(6,(.nv 3))],[.con (.agg (.pr (.val .yf) (.pr (.ref 1) (.pr (.mref 2) .un)))),.row .ya,.map .ya .ya,.nest .yn]⟩ fun d=>r25v1 d.1.2.1 d.2.1.1 d.2.2.1 d.2.2.2.1 d.2.2.2.2.1)])] f).getD [],cut:=z1k [(2,⟨[7,0,2,1],[]⟩),(8,⟨[46,2,0,8,44,45],[]⟩)],exits:=fun r=>z1k ((z1k [(2,[(0,⟨[0,7,2,1],[]⟩)]),(8,[(2,⟨[0,2],[]⟩)])] r).getD []),res:=⟨[0,6],[]⟩,own:=z1k [(42,(.sl true .yn))],lp:=lp25v1B N r25v1,eqs:=fun T=>z2e T eqL,ct:=fun T=>z2e T ctL,ms:=z9k msL }
noncomputable def zbh:Code:=((Go.Proofs.Tryz.f25).body).getD .skip
theorem zwi (N:Nat) (r25v1:Int->Yd->Ya->Yl->Yp->Option (Yau)) {R:Type} (k:AExit->St->Option R) (t1_1:Int) (o3_1:List Yk) (kb:List Yo->List Obj->Option R) (x:Int×Yd×List Int×Yl):z0q (zcr N r25v1) (z03 2 (z00 zbh)) (St.of [(7,(.data .ya x.1)),(0,(.bptr 0 [])),(2,(.nv false 3 [] 0)),(1,(.data .ya t1_1))] [.cell (.tup (.agg (.pr (.data .yf x.2.1) (.pr (.ref 1 [] 0) (.pr (.mref 2) .un))))),.row .ya x.2.2.1 0,.map .ya .ya x.2.2.2,.nest .yn o3_1 0 0 none]) (z12 (zcr N r25v1) 2 ⟨[7,0,2,1],[]⟩ kb k)=zfi N r25v1 t1_1 o3_1 (fun y=>kb [(7,(.data .ya y.1)),(0,(.bptr 0 [])),(2,(.nv false 3 [] 0)),(1,(.data .ya t1_1))] [.cell (.tup (.agg (.pr (.data .yf y.2.1) (.pr (.ref 1 [] 0) (.pr (.mref 2) .un))))),.row .ya y.2.2.1 0,.map .ya .ya y.2.2.2,.nest .yn o3_1 0 0 none])
  (fun y0 y2 y3 y4=>k (.exit 0) (St.of [(0,(.bptr 0 [])),(7,(.data .ya y0)),(2,(.nv false 3 [] 0)),(1,(.data .ya t1_1))] [.cell (.tup (.agg (.pr (.data .yf y2) (.pr (.ref 1 [] 0) (.pr (.mref 2) .un))))),.row .ya y3 0,.map .ya .ya y4,.nest .yn o3_1 0 0 none])) x:=by kernel_rfl
theorem zxq (N:Nat) (r25v1:Int->Yd->Ya->Yl->Yp->Option (Yau)):z0f (zcr N r25v1) (z03 2 (z00 zbh)):=
 z0b (zqp N r25v1) (by kernel_rfl) (by kernel_rfl) (by kernel_rfl) fun R k d=>
  z0a (st:=fun (x:Int×Yd×List Int×Yl)=>([(7,(.data .ya x.1)),(0,(.bptr 0 [])),(2,(.nv false 3 [] 0)),(1,(.data .ya d.1.2.2.2.1))],[.cell (.tup (.agg (.pr (.data .yf x.2.1) (.pr (.ref 1 [] 0) (.pr (.mref 2) .un))))),.row .ya x.2.2.1 0,.map .ya .ya x.2.2.2,.nest .yn d.2.2.2.2.1 0 0 none])) (zwi N r25v1 k d.1.2.2.2.1 d.2.2.2.2.1) N (d.1.1,d.2.1.1,d.2.2.1,d.2.2.2.1)
theorem zwh (N:Nat) (r25v1:Int->Yd->Ya->Yl->Yp->Option (Yau)) {R:Type} (k:AExit->St->Option R) (t8:Int) (t45:Int) (o4:List Int) (kb:List Yo->List Obj->Option R) (x:Int×Yp×Yd×List Int×Yl):z0q (zcr N r25v1) (z03 8 (z00 zbh)) (St.of [(46,(.data .ya x.1)),(2,(.nv false 0 [] 0)),(0,(.bptr 1 [])),(8,(.data .ya t8)),(44,(.ref 4 [] 0)),(45,(.data .ya t45))] [.nest .yn x.2.1 0 0 none,.cell (.tup (.agg (.pr (.data .yf x.2.2.1) (.pr (.ref 2 [] 0) (.pr (.mref 3) .un))))),.row .ya x.2.2.2.1 0,.map .ya .ya x.2.2.2.2,.row .ya o4 0]) (z12 (zcr N r25v1) 8 ⟨[46,2,0,8,44,45],[]⟩ kb k)=z6y N r25v1 t8 t45 o4 (fun y=>kb [(46,(.data .ya y.1)),(2,(.nv false 0 [] 0)),(0,(.bptr 1 [])),(8,(.data .ya t8)),(44,(.ref 4 [] 0)),(45,(.data .ya t45))] [.nest .yn y.2.1 0 0 none,.cell (.tup (.agg (.pr (.data .yf y.2.2.1) (.pr (.ref 2 [] 0) (.pr (.mref 3) .un))))),.row .ya y.2.2.2.1 0,.map .ya .ya y.2.2.2.2,.row .ya o4 0])
  (fun y0 y1 y2 y3=>k (.exit 2) (St.of [(0,(.bptr 0 [])),(2,(.nv false 3 [] 0))] [.cell (.tup (.agg (.pr (.data .yf y0) (.pr (.ref 1 [] 0) (.pr (.mref 2) .un))))),.row .ya y1 0,.map .ya .ya y2,.nest .yn y3 0 0 none])) x:=by kernel_rfl
theorem zxp (N:Nat) (r25v1:Int->Yd->Ya->Yl->Yp->Option (Yau)):z0f (zcr N r25v1) (z03 8 (z00 zbh)):=
 z0b (zqo N r25v1) (by kernel_rfl) (by kernel_rfl) (by kernel_rfl) fun R k d=>
  z0a (st:=fun (x:Int×Yp×Yd×List Int×Yl)=>([(46,(.data .ya x.1)),(2,(.nv false 0 [] 0)),(0,(.bptr 1 [])),(8,(.data .ya d.1.2.2.2.1)),(44,(.ref 4 [] 0)),(45,(.data .ya d.1.2.2.2.2.2.1))],[.nest .yn x.2.1 0 0 none,.cell (.tup (.agg (.pr (.data .yf x.2.2.1) (.pr (.ref 2 [] 0) (.pr (.mref 3) .un))))),.row .ya x.2.2.2.1 0,.map .ya .ya x.2.2.2.2,.row .ya d.2.2.2.2.2.1 0])) (zwh N r25v1 k d.1.2.2.2.1 d.1.2.2.2.2.2.1 d.2.2.2.2.2.1) N (d.1.1,d.2.1,d.2.2.1.1,d.2.2.2.1,d.2.2.2.2.1)
theorem e25v1B (N:Nat) (r25v1:Int->Yd->Ya->Yl->Yp->Option (Yau)) (t1:Int) (o0:Yd) (o1:List Int) (o2:List Yh) (o3:List Yk):z9m (zcr N r25v1) zu5 zbh (St.of [(0,(.bptr 0 [])),(1,(.data .ya t1)),(2,(.nv false 3 [] 0))] [.cell (.tup (.agg (.pr (.data .yf o0) (.pr (.ref 1 [] 0) (.pr (.mref 2) .un))))),.row .ya o1 0,.map .ya .ya o2,.nest .yn o3 0 0 none])=zlq N r25v1 t1 o0 o1 o2 o3:=by kernel_rfl
theorem k25v1B (N:Nat) (r25v1:Int->Yd->Ya->Yl->Yp->Option (Yau)) (h25v1:z04 Go.Proofs.Tryz.prog 25 (.mut ⟨[(0,(.bptr 0 [])),(1,(.val .ya)),(2,(.nv 3))],[.con (.agg (.pr (.val .yf) (.pr (.ref 1) (.pr (.mref 2) .un)))),.row .ya,.map .ya .ya,.nest .yn]⟩ [0] ⟨[(0,(.bptr 0 [])),(6,(.nv 3))],[.con (.agg (.pr (.val .yf) (.pr (.ref 1) (.pr (.mref 2) .un)))),.row .ya,.map .ya .ya,.nest .yn]⟩ fun d=>r25v1 d.1.2.1 d.2.1.1 d.2.2.1 d.2.2.2.1 d.2.2.2.2.1)):z04 Go.Proofs.Tryz.prog 25 (c25v1B N r25v1):=
 z2a (fn:=Go.Proofs.Tryz.f25) (body:=zbh) (c:=zcr N r25v1) (rs:=[6]) Go.Proofs.Tryz.func25 (by kernel_rfl) (by kernel_rfl) ⟨ttL_ok,z0k,z0m,z0n,z0l,z02 (z01 (k54 N (f23 N) (k23 N))) (z02 (z01 (k23 N)) (z02 (z01 (k55 N)) (z02 (z01 (k56 N)) (z02 (z01 (k53 N)) (z02 (z01 (h25v1)) (z09))))))⟩ mixed (by kernel_rfl) (zL (by kernel_rfl)) (by kernel_rfl) (by kernel_rfl) (by kernel_rfl) (z2o (by kernel_rfl))
  (z06 (by kernel_rfl:z00 zbh=[z03 2 (z00 zbh),z03 8 (z00 zbh)]) (.cons (zxq N r25v1) (.cons (zxp N r25v1) .nil))) fun d=>e25v1B N r25v1 d.1.2.1 d.2.1.1 d.2.2.1 d.2.2.2.1 d.2.2.2.2.1
def zfh (N:Nat) (M:Nat):Int->Yd->Ya->Yl->Yp->Option (Yau):=Nat.rec (motive:=fun _=>Int->Yd->Ya->Yl->Yp->Option (Yau)) (fun _ _ _ _ _=>none) (fun _ r=>zlq N r) M
def f25v1 (N:Nat) (a0:Int) (a1:Yd) (a2:List Int) (a3:List Yh) (a4:List Yk):Option (Yau):=zfh N N a0 a1 a2 a3 a4
def c25v1 (N:Nat):Callee:=(.mut ⟨[(0,(.bptr 0 [])),(1,(.val .ya)),(2,(.nv 3))],[.con (.agg (.pr (.val .yf) (.pr (.ref 1) (.pr (.mref 2) .un)))),.row .ya,.map .ya .ya,.nest .yn]⟩ [0] ⟨[(0,(.bptr 0 [])),(6,(.nv 3))],[.con (.agg (.pr (.val .yf) (.pr (.ref 1) (.pr (.mref 2) .un)))),.row .ya,.map .ya .ya,.nest .yn]⟩ fun d=>f25v1 N d.1.2.1 d.2.1.1 d.2.2.1 d.2.2.2.1 d.2.2.2.2.1)
theorem k25v1 (N:Nat):z04 Go.Proofs.Tryz.prog 25 (c25v1 N):=
 have h:∀ M:Nat,z04 Go.Proofs.Tryz.prog 25 (.mut ⟨[(0,(.bptr 0 [])),(1,(.val .ya)),(2,(.nv 3))],[.con (.agg (.pr (.val .yf) (.pr (.ref 1) (.pr (.mref 2) .un)))),.row .ya,.map .ya .ya,.nest .yn]⟩ [0] ⟨[(0,(.bptr 0 [])),(6,(.nv 3))],[.con (.agg (.pr (.val .yf) (.pr (.ref 1) (.pr (.mref 2) .un)))),.row .ya,.map .ya .ya,.nest .yn]⟩ fun d=>zfh N M d.1.2.1 d.2.1.1 d.2.2.1 d.2.2.2.1 d.2.2.2.2.1):=fun M=>Nat.rec (motive:=fun M=>z04 Go.Proofs.Tryz.prog 25 (.mut ⟨[(0,(.bptr 0 [])),(1,(.val .ya)),(2,(.nv 3))],[.con (.agg (.pr (.val .yf) (.pr (.ref 1) (.pr (.mref 2) .un)))),.row .ya,.map .ya .ya,.nest .yn]⟩ [0] ⟨[(0,(.bptr 0 [])),(6,(.nv 3))],[.con (.agg (.pr (.val .yf) (.pr (.ref 1) (.pr (.mref 2) .un)))),.row .ya,.map .ya .ya,.nest .yn]⟩ fun d=>zfh N M d.1.2.1 d.2.1.1 d.2.2.1 d.2.2.2.1 d.2.2.2.2.1)) (z3m fun _=>rfl) (fun M ih=>k25v1B N _ ih) M
 h N
def zuq {R:Type} (N:Nat) (t1_1:Int) (kb:Int×Yd×List Int×Yl->Option R) (kx0:Int->Yd->Ya->Yl->Option R):Int×Yd×List Int×Yl->Option R:=
 fun (t7,o0_1,o1_1,o2_1)=>
  (f54 N (f23 N) t1_1 t7 o0_1 o1_1 o2_1).bind fun r=>
  (f23 N t1_1 r.2.1.1 r.2.2.1 r.2.2.2.1).bind fun r_1=>
  cond (!(decide (r.1.2.1=(z0g (r_1.1.2.1-1)))))
   (kb ((z0g (t7+1)),r_1.2.1.1,r_1.2.2.1,r_1.2.2.2.1))
   (kx0 t7 r_1.2.1.1 r_1.2.2.1 r_1.2.2.2.1)
def zhn {R:Type} (N:Nat) (t8:Int) (t45:Int) (o4:List Int) (kb:Int×Yp×Yd×List Int×Yl->Option R) (kx2:Yd->Ya->Yl->Yp->Option R):Int×Yp×Yd×List Int×Yl->Option R:=
 fun (t46,o0_3,o1_3,o2_3,o3)=>
  cond (decide (t46 < t45))
   (chk (inb o4 t46) <|
   (idx o4 t46).bind fun x_1=>
   (f53 N o2_3 x_1).bind fun r_4=>
   cond (!r_4)
    (chk (inb o0_3 t8) <|
    (idx o0_3 t8).bind fun x_2=>
    (idx o0_3 t8).bind fun x_3=>
    (idx o0_3 t8).bind fun x_4=>
    chk (inb x_4.2.1 t46) <|
    (idx o0_3 t8).bind fun x_5=>
    (idx x_5.2.1 t46).bind fun x_6=>
    (idx x_5.2.1 t46).bind fun x_7=>
    (idx o0_3 t8).bind fun x_8=>
    (f25v1 N x_1 o1_3 o2_3 o3 (zar o0_3 t8 (x_8.1,((zar x_5.2.1 t46 (len o0_3)),x_8.2.2)))).bind fun r_5=>
    kb ((z0g (t46+1)),r_5.2.2.2.2.1,r_5.2.1.1,r_5.2.2.1,r_5.2.2.2.1))
    (kb ((z0g (t46+1)),o0_3,o1_3,o2_3,o3)))
   (kx2 o1_3 o2_3 o3 o0_3)
def f25 (N:Nat) (t1:Int) (o0:Yd) (o1:List Int) (o2:List Yh):Option (Yau):=
 iter (fun w=>zuq N t1 w
  (fun t7_1 o0_2 o1_2 o2_2=>
   (idx o0_2.2.1 t7_1).bind fun x=>
   (f55 N x t1).bind fun r_2=>
   (f56 N ((-1) :: ([]:List Int)) (len r_2)).bind fun r_3=>
   iter (fun w=>zhn N 0 (len r_2) r_2 w
    (fun o0_4 o1_4 o2_4 o3_1=>
     some (((),((),())),((o0_4,((),((),()))),(o1_4,(o2_4,(o3_1,()))))))) N (0,((t7_1,(r_3,())) :: ([]:List Yk)),o0_2,o1_2,o2_2))) N (0,o0,o1,o2)
def fi25:SForm:=⟨[(0,(.bptr 0 [])),(1,(.val .ya)),(2,.nilS)],[.con (.agg (.pr (.val .yf) (.pr (.ref 1) (.pr (.mref 2) .un)))),.row .ya,.map .ya .ya]⟩
def fo25:SForm:=⟨[(0,(.bptr 0 [])),(6,(.nv 3))],[.con (.agg (.pr (.val .yf) (.pr (.ref 1) (.pr (.mref 2) .un)))),.row .ya,.map .ya .ya,.nest .yn]⟩
def c25 (N:Nat):Callee:=.mut fi25 [0] fo25 fun d=>f25 N d.1.2.1 d.2.1.1 d.2.2.1 d.2.2.2.1
def F25_2:SForm:=⟨[(7,(.val .ya)),(0,(.bptr 0 [])),(2,.nilS),(1,(.val .ya))],[.con (.agg (.pr (.val .yf) (.pr (.ref 1) (.pr (.mref 2) .un)))),.row .ya,.map .ya .ya]⟩
def G25_2 (N:Nat):(R:Type)->F25_2.den->(AExit->St->Option R)->Option R:=fun R d k=>iter (fun kb=>zuq N d.1.2.2.2.1 kb
  (fun y0 y2 y3 y4=>k (.exit 0) (St.of [(0,(.bptr 0 [])),(7,(.data .ya y0)),(2,.nilS),(1,(.data .ya d.1.2.2.2.1))] [.cell (.tup (.agg (.pr (.data .yf y2) (.pr (.ref 1 [] 0) (.pr (.mref 2) .un))))),.row .ya y3 0,.map .ya .ya y4]))) N (d.1.1,d.2.1.1,d.2.2.1,d.2.2.2.1)
def F25_8:SForm:=⟨[(46,(.val .ya)),(2,(.nv 0)),(0,(.bptr 1 [])),(8,(.val .ya)),(44,(.ref 4)),(45,(.val .ya))],[.nest .yn,.con (.agg (.pr (.val .yf) (.pr (.ref 2) (.pr (.mref 3) .un)))),.row .ya,.map .ya .ya,.row .ya]⟩
def G25_8 (N:Nat):(R:Type)->F25_8.den->(AExit->St->Option R)->Option R:=fun R d k=>iter (fun kb=>zhn N d.1.2.2.2.1 d.1.2.2.2.2.2.1 d.2.2.2.2.2.1 kb
  (fun y0 y1 y2 y3=>k (.exit 2) (St.of [(0,(.bptr 0 [])),(2,(.nv false 3 [] 0))] [.cell (.tup (.agg (.pr (.data .yf y0) (.pr (.ref 1 [] 0) (.pr (.mref 2) .un))))),.row .ya y1 0,.map .ya .ya y2,.nest .yn y3 0 0 none]))) N (d.1.1,d.2.1,d.2.2.1.1,d.2.2.2.1,d.2.2.2.2.1)
def lp25 (N:Nat):Nat->Option z0h:=fun r=>cond (Nat.beq r 2) (some fun R sl os k=>F25_2.take sl os fun d=>G25_2 N R d k) (cond (Nat.beq r 8) (some fun R sl os k=>F25_8.take sl os fun d=>G25_8 N R d k) (none))
def x25 (N:Nat):Ctx:=(mkX N 73 [(54,[c54 N (f23 N)]),(23,[c23 N]),(55,[c55 N]),(56,[c56 N]),(53,[c53 N]),(25,[c25v1 N])] [(2,⟨[7,0,2,1],[]⟩),(8,⟨[46,2,0,8,44,45],[]⟩)] [(2,[(0,⟨[0,7,2,1],[]⟩)]),(8,[(2,⟨[0,2],[]⟩)])] ⟨[0,6],[]⟩ (z1k [(42,(.sl true .yn))]) (lp25 N))
noncomputable def b25:Code:=((Go.Proofs.Tryz.f25).body).getD .skip
theorem s25_2 (N:Nat) {R:Type} (k:AExit->St->Option R) (t1_1:Int) (kb:List Yo->List Obj->Option R) (x:Int×Yd×List Int×Yl):z0q (x25 N) (z03 2 (z00 b25)) (St.of [(7,(.data .ya x.1)),(0,(.bptr 0 [])),(2,.nilS),(1,(.data .ya t1_1))] [.cell (.tup (.agg (.pr (.data .yf x.2.1) (.pr (.ref 1 [] 0) (.pr (.mref 2) .un))))),.row .ya x.2.2.1 0,.map .ya .ya x.2.2.2]) (z12 (x25 N) 2 ⟨[7,0,2,1],[]⟩ kb k)=zuq N t1_1 (fun y=>kb [(7,(.data .ya y.1)),(0,(.bptr 0 [])),(2,.nilS),(1,(.data .ya t1_1))] [.cell (.tup (.agg (.pr (.data .yf y.2.1) (.pr (.ref 1 [] 0) (.pr (.mref 2) .un))))),.row .ya y.2.2.1 0,.map .ya .ya y.2.2.2])
  (fun y0 y2 y3 y4=>k (.exit 0) (St.of [(0,(.bptr 0 [])),(7,(.data .ya y0)),(2,.nilS),(1,(.data .ya t1_1))] [.cell (.tup (.agg (.pr (.data .yf y2) (.pr (.ref 1 [] 0) (.pr (.mref 2) .un))))),.row .ya y3 0,.map .ya .ya y4])) x:=by kernel_rfl
theorem l25_2 (N:Nat):z0f (x25 N) (z03 2 (z00 b25)):=
 z0b (G25_2 N) (by kernel_rfl) (by kernel_rfl) (by kernel_rfl) fun R k d=>
  z0a (st:=fun (x:Int×Yd×List Int×Yl)=>([(7,(.data .ya x.1)),(0,(.bptr 0 [])),(2,.nilS),(1,(.data .ya d.1.2.2.2.1))],[.cell (.tup (.agg (.pr (.data .yf x.2.1) (.pr (.ref 1 [] 0) (.pr (.mref 2) .un))))),.row .ya x.2.2.1 0,.map .ya .ya x.2.2.2])) (s25_2 N k d.1.2.2.2.1) N (d.1.1,d.2.1.1,d.2.2.1,d.2.2.2.1)
theorem s25_8 (N:Nat) {R:Type} (k:AExit->St->Option R) (t8:Int) (t45:Int) (o4:List Int) (kb:List Yo->List Obj->Option R) (x:Int×Yp×Yd×List Int×Yl):z0q (x25 N) (z03 8 (z00 b25)) (St.of [(46,(.data .ya x.1)),(2,(.nv false 0 [] 0)),(0,(.bptr 1 [])),(8,(.data .ya t8)),(44,(.ref 4 [] 0)),(45,(.data .ya t45))] [.nest .yn x.2.1 0 0 none,.cell (.tup (.agg (.pr (.data .yf x.2.2.1) (.pr (.ref 2 [] 0) (.pr (.mref 3) .un))))),.row .ya x.2.2.2.1 0,.map .ya .ya x.2.2.2.2,.row .ya o4 0]) (z12 (x25 N) 8 ⟨[46,2,0,8,44,45],[]⟩ kb k)=zhn N t8 t45 o4 (fun y=>kb [(46,(.data .ya y.1)),(2,(.nv false 0 [] 0)),(0,(.bptr 1 [])),(8,(.data .ya t8)),(44,(.ref 4 [] 0)),(45,(.data .ya t45))] [.nest .yn y.2.1 0 0 none,.cell (.tup (.agg (.pr (.data .yf y.2.2.1) (.pr (.ref 2 [] 0) (.pr (.mref 3) .un))))),.row .ya y.2.2.2.1 0,.map .ya .ya y.2.2.2.2,.row .ya o4 0])
  (fun y0 y1 y2 y3=>k (.exit 2) (St.of [(0,(.bptr 0 [])),(2,(.nv false 3 [] 0))] [.cell (.tup (.agg (.pr (.data .yf y0) (.pr (.ref 1 [] 0) (.pr (.mref 2) .un))))),.row .ya y1 0,.map .ya .ya y2,.nest .yn y3 0 0 none])) x:=by kernel_rfl
theorem l25_8 (N:Nat):z0f (x25 N) (z03 8 (z00 b25)):=
 z0b (G25_8 N) (by kernel_rfl) (by kernel_rfl) (by kernel_rfl) fun R k d=>
  z0a (st:=fun (x:Int×Yp×Yd×List Int×Yl)=>([(46,(.data .ya x.1)),(2,(.nv false 0 [] 0)),(0,(.bptr 1 [])),(8,(.data .ya d.1.2.2.2.1)),(44,(.ref 4 [] 0)),(45,(.data .ya d.1.2.2.2.2.2.1))],[.nest .yn x.2.1 0 0 none,.cell (.tup (.agg (.pr (.data .yf x.2.2.1) (.pr (.ref 2 [] 0) (.pr (.mref 3) .un))))),.row .ya x.2.2.2.1 0,.map .ya .ya x.2.2.2.2,.row .ya d.2.2.2.2.2.1 0])) (s25_8 N k d.1.2.2.2.1 d.1.2.2.2.2.2.1 d.2.2.2.2.2.1) N (d.1.1,d.2.1,d.2.2.1.1,d.2.2.2.1,d.2.2.2.2.1)
theorem e25 (N:Nat) (t1:Int) (o0:Yd) (o1:List Int) (o2:List Yh):z9m (x25 N) fo25 b25 (St.of [(0,(.bptr 0 [])),(1,(.data .ya t1)),(2,.nilS)] [.cell (.tup (.agg (.pr (.data .yf o0) (.pr (.ref 1 [] 0) (.pr (.mref 2) .un))))),.row .ya o1 0,.map .ya .ya o2])=f25 N t1 o0 o1 o2:=by kernel_rfl
theorem k25 (N:Nat):z04 Go.Proofs.Tryz.prog 25 (c25 N):=
 z2a (fn:=Go.Proofs.Tryz.f25) (body:=b25) (c:=x25 N) (rs:=[6]) Go.Proofs.Tryz.func25 (by kernel_rfl) (by kernel_rfl) ⟨ttL_ok,z0k,z0m,z0n,z0l,z02 (z01 (k54 N (f23 N) (k23 N))) (z02 (z01 (k23 N)) (z02 (z01 (k55 N)) (z02 (z01 (k56 N)) (z02 (z01 (k53 N)) (z02 (z01 (k25v1 N)) (z09))))))⟩ mixed (by kernel_rfl) (zL (by kernel_rfl)) (by kernel_rfl) (by kernel_rfl) (by kernel_rfl) (z2o (by kernel_rfl))
  (z06 (by kernel_rfl:z00 b25=[z03 2 (z00 b25),z03 8 (z00 b25)]) (.cons (l25_2 N) (.cons (l25_8 N) .nil))) fun d=>e25 N d.1.2.1 d.2.1.1 d.2.2.1 d.2.2.2.1
def f27 (N:Nat) (a0:Ye) (a1:Ye):Option (Int):=
 some (z0g (a0.1-a1.1))
def c27 (N:Nat):Callee:=.pure (.pr (.val .yg) (.pr (.val .yg) .un)) [.ya] fun d=>f27 N d.1 d.2.1
def lp27 (N:Nat):Nat->Option z0h:=fun r=>none
def x27 (N:Nat):Ctx:=(mkX N 10 [] [] [] ⟨[4],[]⟩ (fun _=>none) (lp27 N))
noncomputable def b27:Code:=((Go.Proofs.Tryz.f27).body).getD .skip
theorem e27 (N:Nat) (a0:Ye) (a1:Ye):z1g (x27 N) [.ya] [.tmp 4] b27 (entry (.pr (.val .yg) (.pr (.val .yg) .un)) (a0,(a1,())))=f27 N a0 a1:=by kernel_rfl
theorem k27 (N:Nat):z04 Go.Proofs.Tryz.prog 27 (c27 N):=
 z1h (fn:=Go.Proofs.Tryz.f27) (body:=b27) (c:=x27 N) Go.Proofs.Tryz.func27 (by kernel_rfl) (by kernel_rfl) ⟨ttL_ok,z0k,z0m,z0n,z0l,z09⟩ mixed (by kernel_rfl) (zL (by kernel_rfl)) (by kernel_rfl) (by decide)
  (z06 (by kernel_rfl:z00 b27=[]) .nil) fun d=>e27 N d.1 d.2.1
def f26 (N:Nat) (a1:Unit) (o0:List Ye):Option (Yg×(Yaf×Unit)):=(zn5 .yg (fun x y=>f27 N x y) o0).map fun l=>(((),()),(l,()))
def c26 (N:Nat):Callee:=.mut ⟨[(0,.ref 0),(1,.val (.fn 27 .unit))],[.row .yg]⟩ [0] ⟨[(0,.ref 0)],[.row .yg]⟩ fun d=>f26 N d.1.2.1 d.2.1
theorem k26 (N:Nat):z04 Go.Proofs.Tryz.prog 26 (c26 N):=
 zcu Go.Proofs.Tryz.sortL26 (t:=.yg) (by kernel_rfl) (by kernel_rfl) (fun w=>Go.Proofs.Tryz.isAgg65 w) (fun w=>Go.Proofs.Tryz.sizeOf65 w) (Go.Proofs.enters_of Go.Proofs.Tryz.func27 (by kernel_rfl) rfl) (k27 N)
def z5c {R:Type} (N:Nat) (t8:List Yk) (t7:Int) (o1':Int) (o2:List Yh) (kb:Yaf×List Int×Int->Option R) (kx0:Yaf->Option R):Yaf×List Int×Int->Option R:=
 fun (o0,o1'',o1''')=>
  chk (decide (o1'=(len o2))) <|
  z8g o1'' (kx0 o0) fun j rest=>
  (idx o2 j).bind fun x=>
  chk (decide (o1'=(len o2))) <|
  (idx o2 j).bind fun x_1=>
  chk (decide ((Nat.succ (List.length o0))≤z31)) <|
  kb ((o0++((x_1.1,(x_1.2,())) :: ([]:List Ye))),rest,j)
def f6 (N:Nat) (a0:Yd):Option (Int×Yp×Yaf×Int):=
 (f21 N a0).bind fun r=>
 cond (!(decide (r=0)))
  (some (0,(([]:List Yk),(([]:List Ye),1))))
  (cond (decide (12 < a0.1))
   (some (0,(([]:List Yk),(([]:List Ye),4))))
   (z17 [z17 [(f22 N a0).bind fun r_1=>
     (f24 N a0).bind fun r_2=>
     (f23 N r_2 a0 r_1 ([]:List Yh)).bind fun r_3=>
     cond (decide (0 < r_3.1.2.1))
      ((f24 N a0).bind fun r_4=>
      (f25 N r_4 r_3.2.1.1 r_3.2.2.1 r_3.2.2.2.1).bind fun r_5=>
      iter (fun w=>z5c N r_5.2.2.2.2.1 r_3.1.2.1 (len r_5.2.2.2.1) r_5.2.2.2.1 w
       (fun o0_1=>
        (f26 N () o0_1).bind fun r_6=>
        some (r_3.1.2.1,(r_5.2.2.2.2.1,(r_6.2.1,0))))) N (([]:List Ye),(zbl (List.length r_5.2.2.2.1)),(-1)))
      (iter (fun w=>z5c N ([]:List Yk) r_3.1.2.1 (len r_3.2.2.2.1) r_3.2.2.2.1 w
       (fun o0_2=>
        (f26 N () o0_2).bind fun r_7=>
        some (r_3.1.2.1,(([]:List Yk),(r_7.2.1,0))))) N (([]:List Ye),(zbl (List.length r_3.2.2.2.1)),(-1))),
     (f22 N a0).bind fun r_8=>
     (f24 N a0).bind fun r_9=>
     (f23 N r_9 a0 r_8 ([]:List Yh)).bind fun r_10=>
     cond (decide (0 < r_10.1.2.1))
      ((f24 N a0).bind fun r_11=>
      (f25 N r_11 r_10.2.1.1 r_10.2.2.1 r_10.2.2.2.1).bind fun r_12=>
      iter (fun w=>z5c N r_12.2.2.2.2.1 r_10.1.2.1 (len r_12.2.2.2.1) r_12.2.2.2.1 w
       (fun o0_3=>
        (f26 N () o0_3).bind fun r_13=>
        some (r_10.1.2.1,(r_12.2.2.2.2.1,(r_13.2.1,0))))) N (([]:List Ye),(zbl (List.length r_12.2.2.2.1)),(-1)))
      (iter (fun w=>z5c N ([]:List Yk) r_10.1.2.1 (len r_10.2.2.2.1) r_10.2.2.2.1 w
       (fun o0_4=>
        (f26 N () o0_4).bind fun r_14=>
        some (r_10.1.2.1,(([]:List Yk),(r_14.2.1,0))))) N (([]:List Ye),(zbl (List.length r_10.2.2.2.1)),(-1)))],
    (f22 N a0).bind fun r_15=>
    (f24 N a0).bind fun r_16=>
    (f23 N r_16 a0 r_15 ([]:List Yh)).bind fun r_17=>
    cond (decide (0 < r_17.1.2.1))
     ((f24 N a0).bind fun r_18=>
     (f25 N r_18 r_17.2.1.1 r_17.2.2.1 r_17.2.2.2.1).bind fun r_19=>
     iter (fun w=>z5c N r_19.2.2.2.2.1 r_17.1.2.1 (len r_19.2.2.2.1) r_19.2.2.2.1 w
      (fun o0_5=>
       (f26 N () o0_5).bind fun r_20=>
       some (r_17.1.2.1,(r_19.2.2.2.2.1,(r_20.2.1,0))))) N (([]:List Ye),(zbl (List.length r_19.2.2.2.1)),(-1)))
     (iter (fun w=>z5c N ([]:List Yk) r_17.1.2.1 (len r_17.2.2.2.1) r_17.2.2.2.1 w
      (fun o0_6=>
       (f26 N () o0_6).bind fun r_21=>
       some (r_17.1.2.1,(([]:List Yk),(r_21.2.1,0))))) N (([]:List Ye),(zbl (List.length r_17.2.2.2.1)),(-1))),
    z17 [(f22 N a0).bind fun r_22=>
     (f24 N a0).bind fun r_23=>
     (f23 N r_23 a0 r_22 ([]:List Yh)).bind fun r_24=>
     cond (decide (0 < r_24.1.2.1))
      ((f24 N a0).bind fun r_25=>
      (f25 N r_25 r_24.2.1.1 r_24.2.2.1 r_24.2.2.2.1).bind fun r_26=>
      iter (fun w=>z5c N r_26.2.2.2.2.1 r_24.1.2.1 (len r_26.2.2.2.1) r_26.2.2.2.1 w
       (fun o0_7=>
        (f26 N () o0_7).bind fun r_27=>
        some (r_24.1.2.1,(r_26.2.2.2.2.1,(r_27.2.1,0))))) N (([]:List Ye),(zbl (List.length r_26.2.2.2.1)),(-1)))
      (iter (fun w=>z5c N ([]:List Yk) r_24.1.2.1 (len r_24.2.2.2.1) r_24.2.2.2.1 w
       (fun o0_8=>
        (f26 N () o0_8).bind fun r_28=>
        some (r_24.1.2.1,(([]:List Yk),(r_28.2.1,0))))) N (([]:List Ye),(zbl (List.length r_24.2.2.2.1)),(-1))),
     (f22 N a0).bind fun r_29=>
     (f24 N a0).bind fun r_30=>
     (f23 N r_30 a0 r_29 ([]:List Yh)).bind fun r_31=>
     cond (decide (0 < r_31.1.2.1))
      ((f24 N a0).bind fun r_32=>
      (f25 N r_32 r_31.2.1.1 r_31.2.2.1 r_31.2.2.2.1).bind fun r_33=>
      iter (fun w=>z5c N r_33.2.2.2.2.1 r_31.1.2.1 (len r_33.2.2.2.1) r_33.2.2.2.1 w
       (fun o0_9=>
        (f26 N () o0_9).bind fun r_34=>
        some (r_31.1.2.1,(r_33.2.2.2.2.1,(r_34.2.1,0))))) N (([]:List Ye),(zbl (List.length r_33.2.2.2.1)),(-1)))
      (iter (fun w=>z5c N ([]:List Yk) r_31.1.2.1 (len r_31.2.2.2.1) r_31.2.2.2.1 w
       (fun o0_10=>
        (f26 N () o0_10).bind fun r_35=>
        some (r_31.1.2.1,(([]:List Yk),(r_35.2.1,0))))) N (([]:List Ye),(zbl (List.length r_31.2.2.2.1)),(-1)))]]))
def c6 (N:Nat):Callee:=.pure (.pr (.val .yf) .un) [.ya,.ym,(.sl true .yg),.ya] fun d=>f6 N d.1
def F6_12:SForm:=⟨[(9,(.ref 0)),(38,(.bptr 1 [])),(8,(.val .ym)),(7,(.val .ya))],[.row .yg,.iter 2,.map .ya .ya]⟩
def G6_12 (N:Nat):(R:Type)->F6_12.den->(AExit->St->Option R)->Option R:=fun R d k=>iter (fun kb=>z5c N d.1.2.2.1 d.1.2.2.2.1 d.2.2.1.1 d.2.2.2.1 kb
  (fun y2=>k (.exit 0) (St.of [(9,(.ref 0 [] 0)),(8,(.data .ym d.1.2.2.1)),(7,(.data .ya d.1.2.2.2.1))] [.row .yg y2 0]))) N (d.2.1,d.2.2.1.2.1,d.2.2.1.2.2)
def lp6 (N:Nat):Nat->Option z0h:=fun r=>cond (Nat.beq r 12) (some fun R sl os k=>F6_12.take sl os fun d=>G6_12 N R d k) (none)
def x6 (N:Nat):Ctx:=(mkX N 55 [(21,[c21 N]),(22,[c22 N]),(24,[c24 N]),(23,[c23 N]),(25,[c25 N]),(26,[c26 N])] [(12,⟨[9,38,8,7],[(9,none,.row .yg),(8,none,.dat .ym)]⟩)] [(12,[(0,⟨[9,8,7],[]⟩)])] ⟨[2,3,4,5],[]⟩ (fun _=>none) (lp6 N))
noncomputable def b6:Code:=((Go.Proofs.Tryz.f6).body).getD .skip
theorem s6_12 (N:Nat) {R:Type} (k:AExit->St->Option R) (t8:List Yk) (t7:Int) (o1':Int) (o2:List Yh) (kb:List Yo->List Obj->Option R) (x:Yaf×List Int×Int):z0q (x6 N) (z03 12 (z00 b6)) (St.of [(9,(.ref 0 [] 0)),(38,(.bptr 1 [])),(8,(.data .ym t8)),(7,(.data .ya t7))] [.row .yg x.1 0,.cell (.tup (.pr (.mref 2) (.pr (.data .ya o1') (.pr (.data .yb x.2.1) (.pr (.data .ya x.2.2) .un))))),.map .ya .ya o2]) (z12 (x6 N) 12 ⟨[9,38,8,7],[(9,none,.row .yg),(8,none,.dat .ym)]⟩ kb k)=z5c N t8 t7 o1' o2 (fun y=>kb [(9,(.ref 0 [] 0)),(38,(.bptr 1 [])),(8,(.data .ym t8)),(7,(.data .ya t7))] [.row .yg y.1 0,.cell (.tup (.pr (.mref 2) (.pr (.data .ya o1') (.pr (.data .yb y.2.1) (.pr (.data .ya y.2.2) .un))))),.map .ya .ya o2])
  (fun y2=>k (.exit 0) (St.of [(9,(.ref 0 [] 0)),(8,(.data .ym t8)),(7,(.data .ya t7))] [.row .yg y2 0])) x:=by kernel_rfl
theorem l6_12 (N:Nat):z0f (x6 N) (z03 12 (z00 b6)):=
 z0b (G6_12 N) (by kernel_rfl) (by kernel_rfl) (by kernel_rfl) fun R k d=>
  z0a (st:=fun (x:Yaf×List Int×Int)=>([(9,(.ref 0 [] 0)),(38,(.bptr 1 [])),(8,(.data .ym d.1.2.2.1)),(7,(.data .ya d.1.2.2.2.1))],[.row .yg x.1 0,.cell (.tup (.pr (.mref 2) (.pr (.data .ya d.2.2.1.1) (.pr (.data .yb x.2.1) (.pr (.data .ya x.2.2) .un))))),.map .ya .ya d.2.2.2.1])) (s6_12 N k d.1.2.2.1 d.1.2.2.2.1 d.2.2.1.1 d.2.2.2.1) N (d.2.1,d.2.2.1.2.1,d.2.2.1.2.2)
theorem e6 (N:Nat) (a0:Yd):z1g (x6 N) [.ya,.ym,(.sl true .yg),.ya] [.tmp 2,.tmp 3,.tmp 4,.tmp 5] b6 (entry (.pr (.val .yf) .un) (a0,()))=f6 N a0:=by kernel_rfl
theorem k6 (N:Nat):z04 Go.Proofs.Tryz.prog 6 (c6 N):=
 z1h (fn:=Go.Proofs.Tryz.f6) (body:=b6) (c:=x6 N) Go.Proofs.Tryz.func6 (by kernel_rfl) (by kernel_rfl) ⟨ttL_ok,z0k,z0m,z0n,z0l,z02 (z01 (k21 N)) (z02 (z01 (k22 N)) (z02 (z01 (k24 N)) (z02 (z01 (k23 N)) (z02 (z01 (k25 N)) (z02 (z01 (k26 N)) (z09))))))⟩ mixed (by kernel_rfl) (zL (by kernel_rfl)) (by kernel_rfl) (by decide)
  (z06 (by kernel_rfl:z00 b6=[z03 12 (z00 b6)]) (.cons (l6_12 N) .nil)) fun d=>e6 N d.1
def zq2 {R:Type} (N:Nat) (t0:List Int) (kb:Int×Int->Option R) (kret:Bool->Option R) (kx0:Unit->Option R):Int×Int->Option R:=
 fun (t4,t3)=>
  cond (decide (t4 < (len t0)))
   ((idx t0 t4).bind fun x=>
   (cond (decide (x < 0))
     (some true)
     ((idx t0 t4).bind fun x_1=>
     some (decide (t3 < x_1)))).bind fun b=>
   cond b
    (kret false)
    ((idx t0 t4).bind fun x_2=>
    cond (decide (x_2=t3))
     (kb ((z0g (t4+1)),(z0g (t3+1))))
     (kb ((z0g (t4+1)),t3))))
   (kx0 ())
def f28 (N:Nat) (a0:List Int):Option (Bool):=
 iter (fun w=>zq2 N a0 w
  (fun t2=>
   some t2)
  (fun (_:Unit)=>
   some true)) N (0,0)
def c28 (N:Nat):Callee:=.pure (.pr (.val .yb) .un) [.bool] fun d=>f28 N d.1
def F28_3:SForm:=⟨[(4,(.val .ya)),(3,(.val .ya)),(0,(.val .yb))],[]⟩
def G28_3 (N:Nat):(R:Type)->F28_3.den->(AExit->St->Option R)->Option R:=fun R d k=>iter (fun kb=>zq2 N d.1.2.2.1 kb
  (fun y0=>k .ret (St.of [(2,(.data .bool y0))] []))
  (fun _=>k (.exit 0) (St.of [] []))) N (d.1.1,d.1.2.1)
def lp28 (N:Nat):Nat->Option z0h:=fun r=>cond (Nat.beq r 3) (some fun R sl os k=>F28_3.take sl os fun d=>G28_3 N R d k) (none)
def x28 (N:Nat):Ctx:=(mkX N 32 [] [(3,⟨[4,3,0],[]⟩)] [(3,[(0,⟨[],[]⟩)])] ⟨[2],[]⟩ (fun _=>none) (lp28 N))
noncomputable def b28:Code:=((Go.Proofs.Tryz.f28).body).getD .skip
theorem s28_3 (N:Nat) {R:Type} (k:AExit->St->Option R) (t0:List Int) (kb:List Yo->List Obj->Option R) (x:Int×Int):z0q (x28 N) (z03 3 (z00 b28)) (St.of [(4,(.data .ya x.1)),(3,(.data .ya x.2)),(0,(.data .yb t0))] []) (z12 (x28 N) 3 ⟨[4,3,0],[]⟩ kb k)=zq2 N t0 (fun y=>kb [(4,(.data .ya y.1)),(3,(.data .ya y.2)),(0,(.data .yb t0))] [])
  (fun y0=>k .ret (St.of [(2,(.data .bool y0))] []))
  (fun _=>k (.exit 0) (St.of [] [])) x:=by kernel_rfl
theorem l28_3 (N:Nat):z0f (x28 N) (z03 3 (z00 b28)):=
 z0b (G28_3 N) (by kernel_rfl) (by kernel_rfl) (by kernel_rfl) fun R k d=>
  z0a (st:=fun (x:Int×Int)=>([(4,(.data .ya x.1)),(3,(.data .ya x.2)),(0,(.data .yb d.1.2.2.1))],[])) (s28_3 N k d.1.2.2.1) N (d.1.1,d.1.2.1)
theorem e28 (N:Nat) (a0:List Int):z1g (x28 N) [.bool] [.tmp 2] b28 (entry (.pr (.val .yb) .un) (a0,()))=f28 N a0:=by kernel_rfl
theorem k28 (N:Nat):z04 Go.Proofs.Tryz.prog 28 (c28 N):=
 z1h (fn:=Go.Proofs.Tryz.f28) (body:=b28) (c:=x28 N) Go.Proofs.Tryz.func28 (by kernel_rfl) (by kernel_rfl) ⟨ttL_ok,z0k,z0m,z0n,z0l,z09⟩ mixed (by kernel_rfl) (zL (by kernel_rfl)) (by kernel_rfl) (by decide)
  (z06 (by kernel_rfl:z00 b28=[z03 3 (z00 b28)]) (.cons (l28_3 N) .nil)) fun d=>e28 N d.1
def zuc {R:Type} (N:Nat) (t20:List Ya) (t21:Int) (o0:Yd) (kb:Int->Option R) (kret:Bool->Option R) (kx0:Unit->Option R):Int->Option R:=
 fun t22=>
  cond (decide (t22 < t21))
   ((idx t20 t22).bind fun x=>
   (cond (!(decide ((len x)=o0.1)))
     (some true)
     ((f28 N x).bind fun r=>
     some (!r))).bind fun b_2=>
   cond b_2
    (kret false)
    (kb (z0g (t22+1))))
   (kx0 ())
def f7 (N:Nat) (a0:Yd):Option (Bool):=
 (cond (decide (a0.1 < 1))
   (some true)
   (some (decide (62 < a0.1)))).bind fun b=>
 (cond b
   (some true)
   (some (decide (8 < (len a0.2.1))))).bind fun b_1=>
 cond b_1
  (some false)
  (iter (fun w=>zuc N a0.2.1 (len a0.2.1) a0 w
   (fun t2=>
    some t2)
   (fun (_:Unit)=>
    some true)) N 0)
def c7 (N:Nat):Callee:=.pure (.pr (.val .yf) .un) [.bool] fun d=>f7 N d.1
def F7_4:SForm:=⟨[(22,(.val .ya)),(1,(.bptr 0 [])),(20,(.val .yc)),(21,(.val .ya))],[.cell (.val .yf)]⟩
def G7_4 (N:Nat):(R:Type)->F7_4.den->(AExit->St->Option R)->Option R:=fun R d k=>iter (fun kb=>zuc N d.1.2.2.1 d.1.2.2.2.1 d.2.1 kb
  (fun y0=>k .ret (St.of [(2,(.data .bool y0))] []))
  (fun _=>k (.exit 0) (St.of [] []))) N d.1.1
def lp7 (N:Nat):Nat->Option z0h:=fun r=>cond (Nat.beq r 4) (some fun R sl os k=>F7_4.take sl os fun d=>G7_4 N R d k) (none)
def x7 (N:Nat):Ctx:=(mkX N 37 [(28,[c28 N])] [(4,⟨[22,1,20,21],[]⟩)] [(4,[(0,⟨[],[]⟩)])] ⟨[2],[]⟩ (fun _=>none) (lp7 N))
noncomputable def b7:Code:=((Go.Proofs.Tryz.f7).body).getD .skip
theorem s7_4 (N:Nat) {R:Type} (k:AExit->St->Option R) (t20:List Ya) (t21:Int) (o0:Yd) (kb:List Yo->List Obj->Option R) (x:Int):z0q (x7 N) (z03 4 (z00 b7)) (St.of [(22,(.data .ya x)),(1,(.bptr 0 [])),(20,(.data .yc t20)),(21,(.data .ya t21))] [.cell (.data .yf o0)]) (z12 (x7 N) 4 ⟨[22,1,20,21],[]⟩ kb k)=zuc N t20 t21 o0 (fun y=>kb [(22,(.data .ya y)),(1,(.bptr 0 [])),(20,(.data .yc t20)),(21,(.data .ya t21))] [.cell (.data .yf o0)])
  (fun y0=>k .ret (St.of [(2,(.data .bool y0))] []))
  (fun _=>k (.exit 0) (St.of [] [])) x:=by kernel_rfl
theorem l7_4 (N:Nat):z0f (x7 N) (z03 4 (z00 b7)):=
 z0b (G7_4 N) (by kernel_rfl) (by kernel_rfl) (by kernel_rfl) fun R k d=>
  z0a (st:=fun (x:Int)=>([(22,(.data .ya x)),(1,(.bptr 0 [])),(20,(.data .yc d.1.2.2.1)),(21,(.data .ya d.1.2.2.2.1))],[.cell (.data .yf d.2.1)])) (s7_4 N k d.1.2.2.1 d.1.2.2.2.1 d.2.1) N d.1.1
theorem e7 (N:Nat) (a0:Yd):z1g (x7 N) [.bool] [.tmp 2] b7 (entry (.pr (.val .yf) .un) (a0,()))=f7 N a0:=by kernel_rfl
theorem k7 (N:Nat):z04 Go.Proofs.Tryz.prog 7 (c7 N):=
 z1h (fn:=Go.Proofs.Tryz.f7) (body:=b7) (c:=x7 N) Go.Proofs.Tryz.func7 (by kernel_rfl) (by kernel_rfl) ⟨ttL_ok,z0k,z0m,z0n,z0l,z02 (z01 (k28 N)) (z09)⟩ mixed (by kernel_rfl) (zL (by kernel_rfl)) (by kernel_rfl) (by decide)
  (z06 (by kernel_rfl:z00 b7=[z03 4 (z00 b7)]) (.cons (l7_4 N) .nil)) fun d=>e7 N d.1
def f82 (N:Nat) (a0:List Int) (a1:List Int):Option (Int):=
 (f28 N a0).bind fun r=>
 (cond (!r)
   (some true)
   ((f28 N a1).bind fun r_1=>
   some (!r_1))).bind fun b=>
 cond b
  (some 1)
  (cond (!(decide ((len a0)=(len a1))))
   (some 2)
   (some 0))
def c82 (N:Nat):Callee:=.pure (.pr (.val .yb) (.pr (.val .yb) .un)) [.ya] fun d=>f82 N d.1 d.2.1
def lp82 (N:Nat):Nat->Option z0h:=fun r=>none
def x82 (N:Nat):Ctx:=(mkX N 18 [(28,[c28 N])] [] [] ⟨[4],[]⟩ (fun _=>none) (lp82 N))
noncomputable def b82:Code:=((Go.Proofs.Tryz.f82).body).getD .skip
theorem e82 (N:Nat) (a0:List Int) (a1:List Int):z1g (x82 N) [.ya] [.tmp 4] b82 (entry (.pr (.val .yb) (.pr (.val .yb) .un)) (a0,(a1,())))=f82 N a0 a1:=by kernel_rfl
theorem k82 (N:Nat):z04 Go.Proofs.Tryz.prog 82 (c82 N):=
 z1h (fn:=Go.Proofs.Tryz.f82) (body:=b82) (c:=x82 N) Go.Proofs.Tryz.func82 (by kernel_rfl) (by kernel_rfl) ⟨ttL_ok,z0k,z0m,z0n,z0l,z02 (z01 (k28 N)) (z09)⟩ mixed (by kernel_rfl) (zL (by kernel_rfl)) (by kernel_rfl) (by decide)
  (z06 (by kernel_rfl:z00 b82=[]) .nil) fun d=>e82 N d.1 d.2.1
def zpz {R:Type} (N:Nat) (t5_1:Int) (t0_1:List Int) (t4_1:Int) (o0_1:List Int) (kb:Int×Int->Option R) (kx2:Int->Option R):Int×Int->Option R:=
 fun (t7,t6)=>
  cond (decide (t7 < t5_1))
   ((idx t0_1 t7).bind fun x=>
   (idx t0_1 t5_1).bind fun x_1=>
   cond (decide (x=x_1))
    (chk (inb o0_1 t7) <|
    (idx o0_1 t7).bind fun x_2=>
    kb ((z0g (t7+1)),x_2))
    (kb ((z0g (t7+1)),t6)))
   (kx2 t6)
def zq0 {R:Type} (N:Nat) (t0:List Int) (kb:Int×Int×List Int->Option R) (kx0:Ya->Option R):Int×Int×List Int->Option R:=
 fun (t5,t4,o0)=>
  cond (decide (t5 < (len t0)))
   (iter (fun w=>zpz N t5 t0 t4 o0 w
    (fun t6_1=>
     cond (decide (t6_1=t4))
      (chk (decide ((Nat.succ (List.length o0))≤z31)) <|
      kb ((z0g (t5+1)),(z0g (t4+1)),(o0++(t6_1 :: ([]:List Int)))))
      (chk (decide ((Nat.succ (List.length o0))≤z31)) <|
      kb ((z0g (t5+1)),t4,(o0++(t6_1 :: ([]:List Int))))))) N (0,t4))
   (kx0 o0)
def f35 (N:Nat) (a0:List Int):Option Ya:=
 iter (fun w=>zq0 N a0 w
  (fun o0_2=>
   some o0_2)) N (0,0,([]:List Int))
def c35 (N:Nat):Callee:=.pure (.pr (.val .yb) .un) [.yi] fun d=>f35 N d.1
def F35_8:SForm:=⟨[(7,(.val .ya)),(3,(.ref 0)),(5,(.val .ya)),(0,(.val .yb)),(6,(.val .ya)),(4,(.val .ya))],[.row .ya]⟩
def G35_8 (N:Nat):(R:Type)->F35_8.den->(AExit->St->Option R)->Option R:=fun R d k=>iter (fun kb=>zpz N d.1.2.2.1 d.1.2.2.2.1 d.1.2.2.2.2.2.1 d.2.1 kb
  (fun y2=>k (.exit 2) (St.of [(0,(.data .yb d.1.2.2.2.1)),(5,(.data .ya d.1.2.2.1)),(6,(.data .ya y2)),(3,(.ref 0 [] 0)),(4,(.data .ya d.1.2.2.2.2.2.1))] [.row .ya d.2.1 0]))) N (d.1.1,d.1.2.2.2.2.1)
def F35_4:SForm:=⟨[(3,(.ref 0)),(5,(.val .ya)),(0,(.val .yb)),(4,(.val .ya))],[.row .ya]⟩
def G35_4 (N:Nat):(R:Type)->F35_4.den->(AExit->St->Option R)->Option R:=fun R d k=>iter (fun kb=>zq0 N d.1.2.2.1 kb
  (fun y0=>k (.exit 0) (St.of [(3,(.ref 0 [] 0))] [.row .ya y0 0]))) N (d.1.2.1,d.1.2.2.2.1,d.2.1)
def lp35 (N:Nat):Nat->Option z0h:=fun r=>cond (Nat.beq r 8) (some fun R sl os k=>F35_8.take sl os fun d=>G35_8 N R d k) (cond (Nat.beq r 4) (some fun R sl os k=>F35_4.take sl os fun d=>G35_4 N R d k) (none))
def x35 (N:Nat):Ctx:=(mkX N 43 [] [(4,⟨[3,5,0,4],[(3,none,.row .ya)]⟩),(8,⟨[7,3,5,0,6,4],[]⟩)] [(4,[(0,⟨[3],[]⟩)]),(8,[(2,⟨[0,5,6,3,4],[]⟩)])] ⟨[2],[]⟩ (fun _=>none) (lp35 N))
noncomputable def b35:Code:=((Go.Proofs.Tryz.f35).body).getD .skip
theorem s35_8 (N:Nat) {R:Type} (k:AExit->St->Option R) (t5_1:Int) (t0_1:List Int) (t4_1:Int) (o0_1:List Int) (kb:List Yo->List Obj->Option R) (x:Int×Int):z0q (x35 N) (z03 8 (z00 b35)) (St.of [(7,(.data .ya x.1)),(3,(.ref 0 [] 0)),(5,(.data .ya t5_1)),(0,(.data .yb t0_1)),(6,(.data .ya x.2)),(4,(.data .ya t4_1))] [.row .ya o0_1 0]) (z12 (x35 N) 8 ⟨[7,3,5,0,6,4],[]⟩ kb k)=zpz N t5_1 t0_1 t4_1 o0_1 (fun y=>kb [(7,(.data .ya y.1)),(3,(.ref 0 [] 0)),(5,(.data .ya t5_1)),(0,(.data .yb t0_1)),(6,(.data .ya y.2)),(4,(.data .ya t4_1))] [.row .ya o0_1 0])
  (fun y2=>k (.exit 2) (St.of [(0,(.data .yb t0_1)),(5,(.data .ya t5_1)),(6,(.data .ya y2)),(3,(.ref 0 [] 0)),(4,(.data .ya t4_1))] [.row .ya o0_1 0])) x:=by kernel_rfl
theorem l35_8 (N:Nat):z0f (x35 N) (z03 8 (z00 b35)):=
 z0b (G35_8 N) (by kernel_rfl) (by kernel_rfl) (by kernel_rfl) fun R k d=>
  z0a (st:=fun (x:Int×Int)=>([(7,(.data .ya x.1)),(3,(.ref 0 [] 0)),(5,(.data .ya d.1.2.2.1)),(0,(.data .yb d.1.2.2.2.1)),(6,(.data .ya x.2)),(4,(.data .ya d.1.2.2.2.2.2.1))],[.row .ya d.2.1 0])) (s35_8 N k d.1.2.2.1 d.1.2.2.2.1 d.1.2.2.2.2.2.1 d.2.1) N (d.1.1,d.1.2.2.2.2.1)
theorem s35_4 (N:Nat) {R:Type} (k:AExit->St->Option R) (t0:List Int) (kb:List Yo->List Obj->Option R) (x:Int×Int×List Int):z0q (x35 N) (z03 4 (z00 b35)) (St.of [(3,(.ref 0 [] 0)),(5,(.data .ya x.1)),(0,(.data .yb t0)),(4,(.data .ya x.2.1))] [.row .ya x.2.2 0]) (z12 (x35 N) 4 ⟨[3,5,0,4],[(3,none,.row .ya)]⟩ kb k)=zq0 N t0 (fun y=>kb [(3,(.ref 0 [] 0)),(5,(.data .ya y.1)),(0,(.data .yb t0)),(4,(.data .ya y.2.1))] [.row .ya y.2.2 0])
  (fun y0=>k (.exit 0) (St.of [(3,(.ref 0 [] 0))] [.row .ya y0 0])) x:=by kernel_rfl
theorem l35_4 (N:Nat):z0f (x35 N) (z03 4 (z00 b35)):=
 z0b (G35_4 N) (by kernel_rfl) (by kernel_rfl) (by kernel_rfl) fun R k d=>
  z0a (st:=fun (x:Int×Int×List Int)=>([(3,(.ref 0 [] 0)),(5,(.data .ya x.1)),(0,(.data .yb d.1.2.2.1)),(4,(.data .ya x.2.1))],[.row .ya x.2.2 0])) (s35_4 N k d.1.2.2.1) N (d.1.2.1,d.1.2.2.2.1,d.2.1)
theorem e35 (N:Nat) (a0:List Int):z1g (x35 N) [.yi] [.tmp 2] b35 (entry (.pr (.val .yb) .un) (a0,()))=f35 N a0:=by kernel_rfl
theorem k35 (N:Nat):z04 Go.Proofs.Tryz.prog 35 (c35 N):=
 z1h (fn:=Go.Proofs.Tryz.f35) (body:=b35) (c:=x35 N) Go.Proofs.Tryz.func35 (by kernel_rfl) (by kernel_rfl) ⟨ttL_ok,z0k,z0m,z0n,z0l,z09⟩ mixed (by kernel_rfl) (zL (by kernel_rfl)) (by kernel_rfl) (by decide)
  (z06 (by kernel_rfl:z00 b35=[z03 4 (z00 b35),z03 8 (z00 b35)]) (.cons (l35_4 N) (.cons (l35_8 N) .nil))) fun d=>e35 N d.1
def zjd {R:Type} (N:Nat) (t8_1:Int) (t1_1:List Int) (t0_1:List Int) (kb:Int×List Int->Option R) (kx2:Ya->Option R):Int×List Int->Option R:=
 fun (t9,o0_1)=>
  cond (decide (0≤t9))
   ((idx t0_1 t9).bind fun x_2=>
   (idx t0_1 t8_1).bind fun x_3=>
   (cond (decide (x_2=x_3))
     ((idx t1_1 t9).bind fun x_4=>
     (idx t1_1 t8_1).bind fun x_5=>
     some (decide (x_4=x_5)))
     (some false)).bind fun b=>
   cond b
    (chk (inb o0_1 t8_1) <|
    (idx o0_1 t8_1).bind fun x_6=>
    (idx o0_1 t8_1).bind fun x_7=>
    kb ((z0g (t9-1)),(zar o0_1 t8_1 t9)))
    (kb ((z0g (t9-1)),o0_1)))
   (kx2 o0_1)
def zlc {R:Type} (N:Nat) (t1:List Int) (t0:List Int) (kb:Int×List Int->Option R) (kx0:Ya->Option R):Int×List Int->Option R:=
 fun (t8,o0)=>
  cond (decide (t8 < (len t0)))
   (chk (inb o0 t8) <|
   (idx o0 t8).bind fun x=>
   (idx o0 t8).bind fun x_1=>
   iter (fun w=>zjd N t8 t1 t0 w
    (fun o0_2=>
     kb ((z0g (t8+1)),o0_2))) N ((z0g (t8-1)),(zar o0 t8 t8)))
   (kx0 o0)
def f61 (N:Nat) (a0:List Int) (a1:List Int):Option (List Int×Int):=
 (f82 N a0 a1).bind fun r=>
 cond (!(decide (r=0)))
  (some (([]:List Int),r))
  (chk (((decide (0≤(len a0))) && (decide ((len a0)≤(len a0)))) && (decide ((len a0)≤((z31:Nat):Int)))) <|
  iter (fun w=>zlc N a1 a0 w
   (fun o0_3=>
    (f35 N o0_3).bind fun r_1=>
    some (r_1,0))) N (0,(List.replicate (Int.toNat (len a0)) 0:List Int)))
def c61 (N:Nat):Callee:=.pure (.pr (.val .yb) (.pr (.val .yb) .un)) [.yi,.ya] fun d=>f61 N d.1 d.2.1
def F61_10:SForm:=⟨[(9,(.val .ya)),(8,(.val .ya)),(7,(.ref 0)),(1,(.val .yb)),(0,(.val .yb))],[.row .ya]⟩
def zzt (N:Nat):(R:Type)->F61_10.den->(AExit->St->Option R)->Option R:=fun R d k=>iter (fun kb=>zjd N d.1.2.1 d.1.2.2.2.1 d.1.2.2.2.2.1 kb
  (fun y3=>k (.exit 2) (St.of [(7,(.ref 0 [] 0)),(1,(.data .yb d.1.2.2.2.1)),(0,(.data .yb d.1.2.2.2.2.1)),(8,(.data .ya d.1.2.1))] [.row .ya y3 0]))) N (d.1.1,d.2.1)
def F61_6:SForm:=⟨[(8,(.val .ya)),(7,(.ref 0)),(1,(.val .yb)),(0,(.val .yb))],[.row .ya]⟩
def G61_6 (N:Nat):(R:Type)->F61_6.den->(AExit->St->Option R)->Option R:=fun R d k=>iter (fun kb=>zlc N d.1.2.2.1 d.1.2.2.2.1 kb
  (fun y0=>k (.exit 0) (St.of [(7,(.ref 0 [] 0))] [.row .ya y0 0]))) N (d.1.1,d.2.1)
def lp61 (N:Nat):Nat->Option z0h:=fun r=>cond (Nat.beq r 10) (some fun R sl os k=>F61_10.take sl os fun d=>zzt N R d k) (cond (Nat.beq r 6) (some fun R sl os k=>F61_6.take sl os fun d=>G61_6 N R d k) (none))
def x61 (N:Nat):Ctx:=(mkX N 61 [(82,[c82 N]),(35,[c35 N])] [(6,⟨[8,7,1,0],[]⟩),(10,⟨[9,8,7,1,0],[]⟩)] [(6,[(0,⟨[7],[]⟩)]),(10,[(2,⟨[7,1,0,8],[]⟩)])] ⟨[4,5],[]⟩ (fun _=>none) (lp61 N))
noncomputable def b61:Code:=((Go.Proofs.Tryz.f61).body).getD .skip
theorem s61_10 (N:Nat) {R:Type} (k:AExit->St->Option R) (t8_1:Int) (t1_1:List Int) (t0_1:List Int) (kb:List Yo->List Obj->Option R) (x:Int×List Int):z0q (x61 N) (z03 10 (z00 b61)) (St.of [(9,(.data .ya x.1)),(8,(.data .ya t8_1)),(7,(.ref 0 [] 0)),(1,(.data .yb t1_1)),(0,(.data .yb t0_1))] [.row .ya x.2 0]) (z12 (x61 N) 10 ⟨[9,8,7,1,0],[]⟩ kb k)=zjd N t8_1 t1_1 t0_1 (fun y=>kb [(9,(.data .ya y.1)),(8,(.data .ya t8_1)),(7,(.ref 0 [] 0)),(1,(.data .yb t1_1)),(0,(.data .yb t0_1))] [.row .ya y.2 0])
  (fun y3=>k (.exit 2) (St.of [(7,(.ref 0 [] 0)),(1,(.data .yb t1_1)),(0,(.data .yb t0_1)),(8,(.data .ya t8_1))] [.row .ya y3 0])) x:=by kernel_rfl
theorem l61_10 (N:Nat):z0f (x61 N) (z03 10 (z00 b61)):=
 z0b (zzt N) (by kernel_rfl) (by kernel_rfl) (by kernel_rfl) fun R k d=>
  z0a (st:=fun (x:Int×List Int)=>([(9,(.data .ya x.1)),(8,(.data .ya d.1.2.1)),(7,(.ref 0 [] 0)),(1,(.data .yb d.1.2.2.2.1)),(0,(.data .yb d.1.2.2.2.2.1))],[.row .ya x.2 0])) (s61_10 N k d.1.2.1 d.1.2.2.2.1 d.1.2.2.2.2.1) N (d.1.1,d.2.1)
theorem s61_6 (N:Nat) {R:Type} (k:AExit->St->Option R) (t1:List Int) (t0:List Int) (kb:List Yo->List Obj->Option R) (x:Int×List Int):z0q (x61 N) (z03 6 (z00 b61)) (St.of [(8,(.data .ya x.1)),(7,(.ref 0 [] 0)),(1,(.data .yb t1)),(0,(.data .yb t0))] [.row .ya x.2 0]) (z12 (x61 N) 6 ⟨[8,7,1,0],[]⟩ kb k)=zlc N t1 t0 (fun y=>kb [(8,(.data .ya y.1)),(7,(.ref 0 [] 0)),(1,(.data .yb t1)),(0,(.data .yb t0))] [.row .ya y.2 0])
  (fun y0=>k (.exit 0) (St.of [(7,(.ref 0 [] 0))] [.row .ya y0 0])) x:=by kernel_rfl
theorem l61_6 (N:Nat):z0f (x61 N) (z03 6 (z00 b61)):=
 z0b (G61_6 N) (by kernel_rfl) (by kernel_rfl) (by kernel_rfl) fun R k d=>
  z0a (st:=fun (x:Int×List Int)=>([(8,(.data .ya x.1)),(7,(.ref 0 [] 0)),(1,(.data .yb d.1.2.2.1)),(0,(.data .yb d.1.2.2.2.1))],[.row .ya x.2 0])) (s61_6 N k d.1.2.2.1 d.1.2.2.2.1) N (d.1.1,d.2.1)
theorem e61 (N:Nat) (a0:List Int) (a1:List Int):z1g (x61 N) [.yi,.ya] [.tmp 4,.tmp 5] b61 (entry (.pr (.val .yb) (.pr (.val .yb) .un)) (a0,(a1,())))=f61 N a0 a1:=by kernel_rfl
theorem k61 (N:Nat):z04 Go.Proofs.Tryz.prog 61 (c61 N):=
 z1h (fn:=Go.Proofs.Tryz.f61) (body:=b61) (c:=x61 N) Go.Proofs.Tryz.func61 (by kernel_rfl) (by kernel_rfl) ⟨ttL_ok,z0k,z0m,z0n,z0l,z02 (z01 (k82 N)) (z02 (z01 (k35 N)) (z09))⟩ mixed (by kernel_rfl) (zL (by kernel_rfl)) (by kernel_rfl) (by decide)
  (z06 (by kernel_rfl:z00 b61=[z03 6 (z00 b61),z03 10 (z00 b61)]) (.cons (l61_6 N) (.cons (l61_10 N) .nil))) fun d=>e61 N d.1 d.2.1
def zlm {R:Type} (N:Nat) (t11:List Int) (t12:Int) (o0:Yd) (kb:Int×List Int->Option R) (kx0:Ya->Option R):Int×List Int->Option R:=
 fun (t13,o1)=>
  cond (decide (t13 < t12))
   ((idx t11 t13).bind fun x=>
   (idx o0.2.1 x).bind fun x_1=>
   (f61 N o1 x_1).bind fun r=>
   kb ((z0g (t13+1)),r.1))
   (kx0 o1)
def f31 (N:Nat) (a0:Yd) (a1:List Int):Option Ya:=
 chk (((decide (0≤a0.1)) && (decide (a0.1≤a0.1))) && (decide (a0.1≤((z31:Nat):Int)))) <|
 iter (fun w=>zlm N a1 (len a1) a0 w
  (fun o0_1=>
   some o0_1)) N (0,(List.replicate (Int.toNat a0.1) 0:List Int))
def c31 (N:Nat):Callee:=.pure (.pr (.val .yf) (.pr (.val .yb) .un)) [.yi] fun d=>f31 N d.1 d.2.1
def F31_3:SForm:=⟨[(13,(.val .ya)),(2,(.bptr 0 [])),(5,(.ref 1)),(11,(.val .yb)),(12,(.val .ya))],[.cell (.val .yf),.row .ya]⟩
def G31_3 (N:Nat):(R:Type)->F31_3.den->(AExit->St->Option R)->Option R:=fun R d k=>iter (fun kb=>zlm N d.1.2.2.2.1 d.1.2.2.2.2.1 d.2.1 kb
  (fun y0=>k (.exit 0) (St.of [(5,(.ref 0 [] 0))] [.row .ya y0 0]))) N (d.1.1,d.2.2.1)
def lp31 (N:Nat):Nat->Option z0h:=fun r=>cond (Nat.beq r 3) (some fun R sl os k=>F31_3.take sl os fun d=>G31_3 N R d k) (none)
def x31 (N:Nat):Ctx:=(mkX N 29 [(61,[c61 N])] [(3,⟨[13,2,5,11,12],[]⟩)] [(3,[(0,⟨[5],[]⟩)])] ⟨[4],[]⟩ (fun _=>none) (lp31 N))
noncomputable def b31:Code:=((Go.Proofs.Tryz.f31).body).getD .skip
theorem s31_3 (N:Nat) {R:Type} (k:AExit->St->Option R) (t11:List Int) (t12:Int) (o0:Yd) (kb:List Yo->List Obj->Option R) (x:Int×List Int):z0q (x31 N) (z03 3 (z00 b31)) (St.of [(13,(.data .ya x.1)),(2,(.bptr 0 [])),(5,(.ref 1 [] 0)),(11,(.data .yb t11)),(12,(.data .ya t12))] [.cell (.data .yf o0),.row .ya x.2 0]) (z12 (x31 N) 3 ⟨[13,2,5,11,12],[]⟩ kb k)=zlm N t11 t12 o0 (fun y=>kb [(13,(.data .ya y.1)),(2,(.bptr 0 [])),(5,(.ref 1 [] 0)),(11,(.data .yb t11)),(12,(.data .ya t12))] [.cell (.data .yf o0),.row .ya y.2 0])
  (fun y0=>k (.exit 0) (St.of [(5,(.ref 0 [] 0))] [.row .ya y0 0])) x:=by kernel_rfl
theorem l31_3 (N:Nat):z0f (x31 N) (z03 3 (z00 b31)):=
 z0b (G31_3 N) (by kernel_rfl) (by kernel_rfl) (by kernel_rfl) fun R k d=>
  z0a (st:=fun (x:Int×List Int)=>([(13,(.data .ya x.1)),(2,(.bptr 0 [])),(5,(.ref 1 [] 0)),(11,(.data .yb d.1.2.2.2.1)),(12,(.data .ya d.1.2.2.2.2.1))],[.cell (.data .yf d.2.1),.row .ya x.2 0])) (s31_3 N k d.1.2.2.2.1 d.1.2.2.2.2.1 d.2.1) N (d.1.1,d.2.2.1)
theorem e31 (N:Nat) (a0:Yd) (a1:List Int):z1g (x31 N) [.yi] [.tmp 4] b31 (entry (.pr (.val .yf) (.pr (.val .yb) .un)) (a0,(a1,())))=f31 N a0 a1:=by kernel_rfl
theorem k31 (N:Nat):z04 Go.Proofs.Tryz.prog 31 (c31 N):=
 z1h (fn:=Go.Proofs.Tryz.f31) (body:=b31) (c:=x31 N) Go.Proofs.Tryz.func31 (by kernel_rfl) (by kernel_rfl) ⟨ttL_ok,z0k,z0m,z0n,z0l,z02 (z01 (k61 N)) (z09)⟩ mixed (by kernel_rfl) (zL (by kernel_rfl)) (by kernel_rfl) (by decide)
  (z06 (by kernel_rfl:z00 b31=[z03 3 (z00 b31)]) (.cons (l31_3 N) .nil)) fun d=>e31 N d.1 d.2.1
def zua {R:Type} (N:Nat) (t8:Int) (o1:Yd) (kb:Int×List Int->Option R) (kx0:Ya->Option R):Int×List Int->Option R:=
 fun (t9,o0)=>
  cond (decide (t9 < t8))
   (chk (decide ((Nat.succ (List.length o0))≤z31)) <|
   kb ((z0g (t9+1)),(o0++(t9 :: ([]:List Int)))))
   (kx0 o0)
def f9 (N:Nat) (a0:Yd):Option Ya:=
 iter (fun w=>zua N (len a0.2.1) a0 w
  (fun o0_1=>
   (f31 N a0 o0_1).bind fun r=>
   some r)) N (0,([]:List Int))
def c9 (N:Nat):Callee:=.pure (.pr (.val .yf) .un) [.yi] fun d=>f9 N d.1
def F9_3:SForm:=⟨[(9,(.val .ya)),(3,(.ref 0)),(1,(.bptr 1 [])),(8,(.val .ya))],[.row .ya,.cell (.val .yf)]⟩
def G9_3 (N:Nat):(R:Type)->F9_3.den->(AExit->St->Option R)->Option R:=fun R d k=>iter (fun kb=>zua N d.1.2.2.2.1 d.2.2.1 kb
  (fun y0=>k (.exit 0) (St.of [(3,(.ref 0 [] 0)),(1,(.bptr 1 []))] [.row .ya y0 0,.cell (.data .yf d.2.2.1)]))) N (d.1.1,d.2.1)
def lp9 (N:Nat):Nat->Option z0h:=fun r=>cond (Nat.beq r 3) (some fun R sl os k=>F9_3.take sl os fun d=>G9_3 N R d k) (none)
def x9 (N:Nat):Ctx:=(mkX N 20 [(31,[c31 N])] [(3,⟨[9,3,1,8],[]⟩)] [(3,[(0,⟨[3,1],[]⟩)])] ⟨[2],[]⟩ (fun _=>none) (lp9 N))
noncomputable def b9:Code:=((Go.Proofs.Tryz.f9).body).getD .skip
theorem s9_3 (N:Nat) {R:Type} (k:AExit->St->Option R) (t8:Int) (o1:Yd) (kb:List Yo->List Obj->Option R) (x:Int×List Int):z0q (x9 N) (z03 3 (z00 b9)) (St.of [(9,(.data .ya x.1)),(3,(.ref 0 [] 0)),(1,(.bptr 1 [])),(8,(.data .ya t8))] [.row .ya x.2 0,.cell (.data .yf o1)]) (z12 (x9 N) 3 ⟨[9,3,1,8],[]⟩ kb k)=zua N t8 o1 (fun y=>kb [(9,(.data .ya y.1)),(3,(.ref 0 [] 0)),(1,(.bptr 1 [])),(8,(.data .ya t8))] [.row .ya y.2 0,.cell (.data .yf o1)])
  (fun y0=>k (.exit 0) (St.of [(3,(.ref 0 [] 0)),(1,(.bptr 1 []))] [.row .ya y0 0,.cell (.data .yf o1)])) x:=by kernel_rfl
theorem l9_3 (N:Nat):z0f (x9 N) (z03 3 (z00 b9)):=
 z0b (G9_3 N) (by kernel_rfl) (by kernel_rfl) (by kernel_rfl) fun R k d=>
  z0a (st:=fun (x:Int×List Int)=>([(9,(.data .ya x.1)),(3,(.ref 0 [] 0)),(1,(.bptr 1 [])),(8,(.data .ya d.1.2.2.2.1))],[.row .ya x.2 0,.cell (.data .yf d.2.2.1)])) (s9_3 N k d.1.2.2.2.1 d.2.2.1) N (d.1.1,d.2.1)
theorem e9 (N:Nat) (a0:Yd):z1g (x9 N) [.yi] [.tmp 2] b9 (entry (.pr (.val .yf) .un) (a0,()))=f9 N a0:=by kernel_rfl
theorem k9 (N:Nat):z04 Go.Proofs.Tryz.prog 9 (c9 N):=
 z1h (fn:=Go.Proofs.Tryz.f9) (body:=b9) (c:=x9 N) Go.Proofs.Tryz.func9 (by kernel_rfl) (by kernel_rfl) ⟨ttL_ok,z0k,z0m,z0n,z0l,z02 (z01 (k31 N)) (z09)⟩ mixed (by kernel_rfl) (zL (by kernel_rfl)) (by kernel_rfl) (by decide)
  (z06 (by kernel_rfl:z00 b9=[z03 3 (z00 b9)]) (.cons (l9_3 N) .nil)) fun d=>e9 N d.1
def f10 (N:Nat) (a0:Yd):Option (Int):=
 cond (decide (a0.1 < 0))
  (none)
  (some (z0g ((z0g (1*(2 ^ (min (Int.toNat a0.1) 64))))-1)))
def c10 (N:Nat):Callee:=.pure (.pr (.val .yf) .un) [.ya] fun d=>f10 N d.1
def lp10 (N:Nat):Nat->Option z0h:=fun r=>none
def x10 (N:Nat):Ctx:=(mkX N 7 [] [] [] ⟨[2],[]⟩ (fun _=>none) (lp10 N))
noncomputable def b10:Code:=((Go.Proofs.Tryz.f10).body).getD .skip
theorem e10 (N:Nat) (a0:Yd):z1g (x10 N) [.ya] [.tmp 2] b10 (entry (.pr (.val .yf) .un) (a0,()))=f10 N a0:=by kernel_rfl
theorem k10 (N:Nat):z04 Go.Proofs.Tryz.prog 10 (c10 N):=
 z1h (fn:=Go.Proofs.Tryz.f10) (body:=b10) (c:=x10 N) Go.Proofs.Tryz.func10 (by kernel_rfl) (by kernel_rfl) ⟨ttL_ok,z0k,z0m,z0n,z0l,z09⟩ mixed (by kernel_rfl) (zL (by kernel_rfl)) (by kernel_rfl) (by decide)
  (z06 (by kernel_rfl:z00 b10=[]) .nil) fun d=>e10 N d.1
def f59 (N:Nat) (a0:Int) (a1:Int):Option (Bool):=
 cond (decide (a1 < 0))
  (none)
  (some (decide ((z0g (((((BitVec.ofInt 64 (Int.fdiv a0 (Int.pow 2 (min (Int.toNat a1) 64)))).and (BitVec.ofInt 64 1)).toNat):Nat):Int))=1)))
def c59 (N:Nat):Callee:=.pure (.pr (.val .ya) (.pr (.val .ya) .un)) [.bool] fun d=>f59 N d.1 d.2.1
def lp59 (N:Nat):Nat->Option z0h:=fun r=>none
def x59 (N:Nat):Ctx:=(mkX N 10 [] [] [] ⟨[4],[]⟩ (fun _=>none) (lp59 N))
noncomputable def b59:Code:=((Go.Proofs.Tryz.f59).body).getD .skip
theorem e59 (N:Nat) (a0:Int) (a1:Int):z1g (x59 N) [.bool] [.tmp 4] b59 (entry (.pr (.val .ya) (.pr (.val .ya) .un)) (a0,(a1,())))=f59 N a0 a1:=by kernel_rfl
theorem k59 (N:Nat):z04 Go.Proofs.Tryz.prog 59 (c59 N):=
 z1h (fn:=Go.Proofs.Tryz.f59) (body:=b59) (c:=x59 N) Go.Proofs.Tryz.func59 (by kernel_rfl) (by kernel_rfl) ⟨ttL_ok,z0k,z0m,z0n,z0l,z09⟩ mixed (by kernel_rfl) (zL (by kernel_rfl)) (by kernel_rfl) (by decide)
  (z06 (by kernel_rfl:z00 b59=[]) .nil) fun d=>e59 N d.1 d.2.1
def zlo {R:Type} (N:Nat) (t1:List Int) (t2:Int) (t10:Int) (kb:Int×Int->Option R) (kret:Bool->Option R) (kx0:Unit->Option R):Int×Int->Option R:=
 fun (t11,t7)=>
  cond (decide (t11 < t10))
   ((f59 N t2 t11).bind fun r=>
   cond r
    ((cond (decide (0≤t7))
      ((idx t1 t11).bind fun x=>
      some (!(decide (t7=x))))
      (some false)).bind fun b=>
    cond b
     (kret false)
     ((idx t1 t11).bind fun x_1=>
     kb ((z0g (t11+1)),x_1)))
    (kb ((z0g (t11+1)),t7)))
   (kx0 ())
def f29 (N:Nat) (a0:Yd) (a1:List Int) (a2:Int):Option (Bool):=
 iter (fun w=>zlo N a1 a2 a0.1 w
  (fun t6=>
   some t6)
  (fun (_:Unit)=>
   some true)) N (0,(-1))
def c29 (N:Nat):Callee:=.pure (.pr (.val .yf) (.pr (.val .yb) (.pr (.val .ya) .un))) [.bool] fun d=>f29 N d.1 d.2.1 d.2.2.1
def F29_3:SForm:=⟨[(11,(.val .ya)),(1,(.val .yb)),(7,(.val .ya)),(2,(.val .ya)),(10,(.val .ya))],[]⟩
def G29_3 (N:Nat):(R:Type)->F29_3.den->(AExit->St->Option R)->Option R:=fun R d k=>iter (fun kb=>zlo N d.1.2.1 d.1.2.2.2.1 d.1.2.2.2.2.1 kb
  (fun y0=>k .ret (St.of [(6,(.data .bool y0))] []))
  (fun _=>k (.exit 0) (St.of [] []))) N (d.1.1,d.1.2.2.1)
def lp29 (N:Nat):Nat->Option z0h:=fun r=>cond (Nat.beq r 3) (some fun R sl os k=>F29_3.take sl os fun d=>G29_3 N R d k) (none)
def x29 (N:Nat):Ctx:=(mkX N 32 [(59,[c59 N])] [(3,⟨[11,1,7,2,10],[]⟩)] [(3,[(0,⟨[],[]⟩)])] ⟨[6],[]⟩ (fun _=>none) (lp29 N))
noncomputable def b29:Code:=((Go.Proofs.Tryz.f29).body).getD .skip
theorem s29_3 (N:Nat) {R:Type} (k:AExit->St->Option R) (t1:List Int) (t2:Int) (t10:Int) (kb:List Yo->List Obj->Option R) (x:Int×Int):z0q (x29 N) (z03 3 (z00 b29)) (St.of [(11,(.data .ya x.1)),(1,(.data .yb t1)),(7,(.data .ya x.2)),(2,(.data .ya t2)),(10,(.data .ya t10))] []) (z12 (x29 N) 3 ⟨[11,1,7,2,10],[]⟩ kb k)=zlo N t1 t2 t10 (fun y=>kb [(11,(.data .ya y.1)),(1,(.data .yb t1)),(7,(.data .ya y.2)),(2,(.data .ya t2)),(10,(.data .ya t10))] [])
  (fun y0=>k .ret (St.of [(6,(.data .bool y0))] []))
  (fun _=>k (.exit 0) (St.of [] [])) x:=by kernel_rfl
theorem l29_3 (N:Nat):z0f (x29 N) (z03 3 (z00 b29)):=
 z0b (G29_3 N) (by kernel_rfl) (by kernel_rfl) (by kernel_rfl) fun R k d=>
  z0a (st:=fun (x:Int×Int)=>([(11,(.data .ya x.1)),(1,(.data .yb d.1.2.1)),(7,(.data .ya x.2)),(2,(.data .ya d.1.2.2.2.1)),(10,(.data .ya d.1.2.2.2.2.1))],[])) (s29_3 N k d.1.2.1 d.1.2.2.2.1 d.1.2.2.2.2.1) N (d.1.1,d.1.2.2.1)
theorem e29 (N:Nat) (a0:Yd) (a1:List Int) (a2:Int):z1g (x29 N) [.bool] [.tmp 6] b29 (entry (.pr (.val .yf) (.pr (.val .yb) (.pr (.val .ya) .un))) (a0,(a1,(a2,()))))=f29 N a0 a1 a2:=by kernel_rfl
theorem k29 (N:Nat):z04 Go.Proofs.Tryz.prog 29 (c29 N):=
 z1h (fn:=Go.Proofs.Tryz.f29) (body:=b29) (c:=x29 N) Go.Proofs.Tryz.func29 (by kernel_rfl) (by kernel_rfl) ⟨ttL_ok,z0k,z0m,z0n,z0l,z02 (z01 (k59 N)) (z09)⟩ mixed (by kernel_rfl) (zL (by kernel_rfl)) (by kernel_rfl) (by decide)
  (z06 (by kernel_rfl:z00 b29=[z03 3 (z00 b29)]) (.cons (l29_3 N) .nil)) fun d=>e29 N d.1 d.2.1 d.2.2.1
def zll {R:Type} (N:Nat) (t0:List Int) (kb:Int×Int->Option R) (kx0:Int->Option R):Int×Int->Option R:=
 fun (t4,t3)=>
  cond (decide (t4 < (len t0)))
   ((idx t0 t4).bind fun x=>
   cond (decide (x=t3))
    (kb ((z0g (t4+1)),(z0g (t3+1))))
    (kb ((z0g (t4+1)),t3)))
   (kx0 t3)
def f32 (N:Nat) (a0:List Int):Option (Int):=
 (f28 N a0).bind fun r=>
 cond (!r)
  (some 0)
  (iter (fun w=>zll N a0 w
   (fun t3_1=>
    some t3_1)) N (0,0))
def c32 (N:Nat):Callee:=.pure (.pr (.val .yb) .un) [.ya] fun d=>f32 N d.1
def F32_5:SForm:=⟨[(4,(.val .ya)),(3,(.val .ya)),(0,(.val .yb))],[]⟩
def G32_5 (N:Nat):(R:Type)->F32_5.den->(AExit->St->Option R)->Option R:=fun R d k=>iter (fun kb=>zll N d.1.2.2.1 kb
  (fun y0=>k (.exit 0) (St.of [(3,(.data .ya y0))] []))) N (d.1.1,d.1.2.1)
def lp32 (N:Nat):Nat->Option z0h:=fun r=>cond (Nat.beq r 5) (some fun R sl os k=>F32_5.take sl os fun d=>G32_5 N R d k) (none)
def x32 (N:Nat):Ctx:=(mkX N 23 [(28,[c28 N])] [(5,⟨[4,3,0],[]⟩)] [(5,[(0,⟨[3],[]⟩)])] ⟨[2],[]⟩ (fun _=>none) (lp32 N))
noncomputable def b32:Code:=((Go.Proofs.Tryz.f32).body).getD .skip
theorem s32_5 (N:Nat) {R:Type} (k:AExit->St->Option R) (t0:List Int) (kb:List Yo->List Obj->Option R) (x:Int×Int):z0q (x32 N) (z03 5 (z00 b32)) (St.of [(4,(.data .ya x.1)),(3,(.data .ya x.2)),(0,(.data .yb t0))] []) (z12 (x32 N) 5 ⟨[4,3,0],[]⟩ kb k)=zll N t0 (fun y=>kb [(4,(.data .ya y.1)),(3,(.data .ya y.2)),(0,(.data .yb t0))] [])
  (fun y0=>k (.exit 0) (St.of [(3,(.data .ya y0))] [])) x:=by kernel_rfl
theorem l32_5 (N:Nat):z0f (x32 N) (z03 5 (z00 b32)):=
 z0b (G32_5 N) (by kernel_rfl) (by kernel_rfl) (by kernel_rfl) fun R k d=>
  z0a (st:=fun (x:Int×Int)=>([(4,(.data .ya x.1)),(3,(.data .ya x.2)),(0,(.data .yb d.1.2.2.1))],[])) (s32_5 N k d.1.2.2.1) N (d.1.1,d.1.2.1)
theorem e32 (N:Nat) (a0:List Int):z1g (x32 N) [.ya] [.tmp 2] b32 (entry (.pr (.val .yb) .un) (a0,()))=f32 N a0:=by kernel_rfl
theorem k32 (N:Nat):z04 Go.Proofs.Tryz.prog 32 (c32 N):=
 z1h (fn:=Go.Proofs.Tryz.f32) (body:=b32) (c:=x32 N) Go.Proofs.Tryz.func32 (by kernel_rfl) (by kernel_rfl) ⟨ttL_ok,z0k,z0m,z0n,z0l,z02 (z01 (k28 N)) (z09)⟩ mixed (by kernel_rfl) (zL (by kernel_rfl)) (by kernel_rfl) (by decide)
  (z06 (by kernel_rfl:z00 b32=[z03 5 (z00 b32)]) (.cons (l32_5 N) .nil)) fun d=>e32 N d.1
def zld {R:Type} (N:Nat) (t3:Int) (t2:Int) (t1:Int) (t12:Int) (o0:Yd) (kb:Int×Int->Option R) (kx0:Int->Option R):Int×Int->Option R:=
 fun (t13,t9)=>
  cond (decide (t13 < t12))
   ((f59 N t1 t13).bind fun r=>
   (cond r
     ((idx o0.2.1 t2).bind fun x=>
     (idx x t13).bind fun x_1=>
     some (decide (x_1=t3)))
     (some false)).bind fun b=>
   cond b
    (cond (decide (t13 < 0))
     (none)
     (kb ((z0g (t13+1)),(z0g (t9+(z0g (1*(2 ^ (min (Int.toNat t13) 64)))))))))
    (kb ((z0g (t13+1)),t9)))
   (kx0 t9)
def f60 (N:Nat) (a0:Yd) (a1:Int) (a2:Int) (a3:Int):Option (Int):=
 iter (fun w=>zld N a3 a2 a1 a0.1 a0 w
  (fun t9_1=>
   some t9_1)) N (0,0)
def c60 (N:Nat):Callee:=.pure (.pr (.val .yf) (.pr (.val .ya) (.pr (.val .ya) (.pr (.val .ya) .un)))) [.ya] fun d=>f60 N d.1 d.2.1 d.2.2.1 d.2.2.2.1
def F60_3:SForm:=⟨[(13,(.val .ya)),(9,(.val .ya)),(3,(.val .ya)),(2,(.val .ya)),(4,(.bptr 0 [])),(1,(.val .ya)),(12,(.val .ya))],[.cell (.val .yf)]⟩
def G60_3 (N:Nat):(R:Type)->F60_3.den->(AExit->St->Option R)->Option R:=fun R d k=>iter (fun kb=>zld N d.1.2.2.1 d.1.2.2.2.1 d.1.2.2.2.2.2.1 d.1.2.2.2.2.2.2.1 d.2.1 kb
  (fun y0=>k (.exit 0) (St.of [(9,(.data .ya y0))] []))) N (d.1.1,d.1.2.1)
def lp60 (N:Nat):Nat->Option z0h:=fun r=>cond (Nat.beq r 3) (some fun R sl os k=>F60_3.take sl os fun d=>G60_3 N R d k) (none)
def x60 (N:Nat):Ctx:=(mkX N 37 [(59,[c59 N])] [(3,⟨[13,9,3,2,4,1,12],[]⟩)] [(3,[(0,⟨[9],[]⟩)])] ⟨[8],[]⟩ (fun _=>none) (lp60 N))
noncomputable def b60:Code:=((Go.Proofs.Tryz.f60).body).getD .skip
theorem s60_3 (N:Nat) {R:Type} (k:AExit->St->Option R) (t3:Int) (t2:Int) (t1:Int) (t12:Int) (o0:Yd) (kb:List Yo->List Obj->Option R) (x:Int×Int):z0q (x60 N) (z03 3 (z00 b60)) (St.of [(13,(.data .ya x.1)),(9,(.data .ya x.2)),(3,(.data .ya t3)),(2,(.data .ya t2)),(4,(.bptr 0 [])),(1,(.data .ya t1)),(12,(.data .ya t12))] [.cell (.data .yf o0)]) (z12 (x60 N) 3 ⟨[13,9,3,2,4,1,12],[]⟩ kb k)=zld N t3 t2 t1 t12 o0 (fun y=>kb [(13,(.data .ya y.1)),(9,(.data .ya y.2)),(3,(.data .ya t3)),(2,(.data .ya t2)),(4,(.bptr 0 [])),(1,(.data .ya t1)),(12,(.data .ya t12))] [.cell (.data .yf o0)])
  (fun y0=>k (.exit 0) (St.of [(9,(.data .ya y0))] [])) x:=by kernel_rfl
theorem l60_3 (N:Nat):z0f (x60 N) (z03 3 (z00 b60)):=
 z0b (G60_3 N) (by kernel_rfl) (by kernel_rfl) (by kernel_rfl) fun R k d=>
  z0a (st:=fun (x:Int×Int)=>([(13,(.data .ya x.1)),(9,(.data .ya x.2)),(3,(.data .ya d.1.2.2.1)),(2,(.data .ya d.1.2.2.2.1)),(4,(.bptr 0 [])),(1,(.data .ya d.1.2.2.2.2.2.1)),(12,(.data .ya d.1.2.2.2.2.2.2.1))],[.cell (.data .yf d.2.1)])) (s60_3 N k d.1.2.2.1 d.1.2.2.2.1 d.1.2.2.2.2.2.1 d.1.2.2.2.2.2.2.1 d.2.1) N (d.1.1,d.1.2.1)
theorem e60 (N:Nat) (a0:Yd) (a1:Int) (a2:Int) (a3:Int):z1g (x60 N) [.ya] [.tmp 8] b60 (entry (.pr (.val .yf) (.pr (.val .ya) (.pr (.val .ya) (.pr (.val .ya) .un)))) (a0,(a1,(a2,(a3,())))))=f60 N a0 a1 a2 a3:=by kernel_rfl
theorem k60 (N:Nat):z04 Go.Proofs.Tryz.prog 60 (c60 N):=
 z1h (fn:=Go.Proofs.Tryz.f60) (body:=b60) (c:=x60 N) Go.Proofs.Tryz.func60 (by kernel_rfl) (by kernel_rfl) ⟨ttL_ok,z0k,z0m,z0n,z0l,z02 (z01 (k59 N)) (z09)⟩ mixed (by kernel_rfl) (zL (by kernel_rfl)) (by kernel_rfl) (by decide)
  (z06 (by kernel_rfl:z00 b60=[z03 3 (z00 b60)]) (.cons (l60_3 N) .nil)) fun d=>e60 N d.1 d.2.1 d.2.2.1 d.2.2.2.1
def zln {R:Type} (N:Nat) (t2:Int) (t1:Int) (t16:Int) (o1:Yd) (kb:Int×List Int->Option R) (kx0:Ya->Option R):Int×List Int->Option R:=
 fun (t17,o0)=>
  cond (decide (t17 < t16))
   ((f60 N o1 t1 t2 t17).bind fun r_1=>
   cond (!(decide (r_1=0)))
    (chk (decide ((Nat.succ (List.length o0))≤z31)) <|
    kb ((z0g (t17+1)),(o0++(r_1 :: ([]:List Int)))))
    (kb ((z0g (t17+1)),o0)))
   (kx0 o0)
def f30 (N:Nat) (a0:Yd) (a1:Int) (a2:Int):Option Ya:=
 (idx a0.2.1 a2).bind fun x=>
 (f32 N x).bind fun r=>
 iter (fun w=>zln N a2 a1 r a0 w
  (fun o0_1=>
   some o0_1)) N (0,([]:List Int))
def c30 (N:Nat):Callee:=.pure (.pr (.val .yf) (.pr (.val .ya) (.pr (.val .ya) .un))) [.yi] fun d=>f30 N d.1 d.2.1 d.2.2.1
def F30_3:SForm:=⟨[(17,(.val .ya)),(7,(.ref 0)),(2,(.val .ya)),(1,(.val .ya)),(3,(.bptr 1 [])),(16,(.val .ya))],[.row .ya,.cell (.val .yf)]⟩
def G30_3 (N:Nat):(R:Type)->F30_3.den->(AExit->St->Option R)->Option R:=fun R d k=>iter (fun kb=>zln N d.1.2.2.1 d.1.2.2.2.1 d.1.2.2.2.2.2.1 d.2.2.1 kb
  (fun y0=>k (.exit 0) (St.of [(7,(.ref 0 [] 0))] [.row .ya y0 0]))) N (d.1.1,d.2.1)
def lp30 (N:Nat):Nat->Option z0h:=fun r=>cond (Nat.beq r 3) (some fun R sl os k=>F30_3.take sl os fun d=>G30_3 N R d k) (none)
def x30 (N:Nat):Ctx:=(mkX N 33 [(32,[c32 N]),(60,[c60 N])] [(3,⟨[17,7,2,1,3,16],[]⟩)] [(3,[(0,⟨[7],[]⟩)])] ⟨[6],[]⟩ (fun _=>none) (lp30 N))
noncomputable def b30:Code:=((Go.Proofs.Tryz.f30).body).getD .skip
theorem s30_3 (N:Nat) {R:Type} (k:AExit->St->Option R) (t2:Int) (t1:Int) (t16:Int) (o1:Yd) (kb:List Yo->List Obj->Option R) (x:Int×List Int):z0q (x30 N) (z03 3 (z00 b30)) (St.of [(17,(.data .ya x.1)),(7,(.ref 0 [] 0)),(2,(.data .ya t2)),(1,(.data .ya t1)),(3,(.bptr 1 [])),(16,(.data .ya t16))] [.row .ya x.2 0,.cell (.data .yf o1)]) (z12 (x30 N) 3 ⟨[17,7,2,1,3,16],[]⟩ kb k)=zln N t2 t1 t16 o1 (fun y=>kb [(17,(.data .ya y.1)),(7,(.ref 0 [] 0)),(2,(.data .ya t2)),(1,(.data .ya t1)),(3,(.bptr 1 [])),(16,(.data .ya t16))] [.row .ya y.2 0,.cell (.data .yf o1)])
  (fun y0=>k (.exit 0) (St.of [(7,(.ref 0 [] 0))] [.row .ya y0 0])) x:=by kernel_rfl
theorem l30_3 (N:Nat):z0f (x30 N) (z03 3 (z00 b30)):=
 z0b (G30_3 N) (by kernel_rfl) (by kernel_rfl) (by kernel_rfl) fun R k d=>
  z0a (st:=fun (x:Int×List Int)=>([(17,(.data .ya x.1)),(7,(.ref 0 [] 0)),(2,(.data .ya d.1.2.2.1)),(1,(.data .ya d.1.2.2.2.1)),(3,(.bptr 1 [])),(16,(.data .ya d.1.2.2.2.2.2.1))],[.row .ya x.2 0,.cell (.data .yf d.2.2.1)])) (s30_3 N k d.1.2.2.1 d.1.2.2.2.1 d.1.2.2.2.2.2.1 d.2.2.1) N (d.1.1,d.2.1)
theorem e30 (N:Nat) (a0:Yd) (a1:Int) (a2:Int):z1g (x30 N) [.yi] [.tmp 6] b30 (entry (.pr (.val .yf) (.pr (.val .ya) (.pr (.val .ya) .un))) (a0,(a1,(a2,()))))=f30 N a0 a1 a2:=by kernel_rfl
theorem k30 (N:Nat):z04 Go.Proofs.Tryz.prog 30 (c30 N):=
 z1h (fn:=Go.Proofs.Tryz.f30) (body:=b30) (c:=x30 N) Go.Proofs.Tryz.func30 (by kernel_rfl) (by kernel_rfl) ⟨ttL_ok,z0k,z0m,z0n,z0l,z02 (z01 (k32 N)) (z02 (z01 (k60 N)) (z09))⟩ mixed (by kernel_rfl) (zL (by kernel_rfl)) (by kernel_rfl) (by decide)
  (z06 (by kernel_rfl:z00 b30=[z03 3 (z00 b30)]) (.cons (l30_3 N) .nil)) fun d=>e30 N d.1 d.2.1 d.2.2.1
def zfe {R:Type} (N:Nat) (r8:Yd->Int->Ya->Yl->Option (Yan)) (t2_2:Int) (t31_1:Int) (t32_1:Int) (t11_1:Int) (t43:Int) (o2_1:Yd) (o3:List Int) (kb:Int×Int×Yl×List Int->Option R) (kx2:Int->Yl->Ya->Option R):Int×Int×Yl×List Int->Option R:=
 fun (t44,t14,o0_2,o1_2)=>
  cond (decide (t44 < t43))
   (chk (inb o3 t44) <|
   (idx o3 t44).bind fun x=>
   (r8 o2_1 x o1_2 o0_2).bind fun r_2=>
   kb ((z0g (t44+1)),(zky t14 r_2.1.2.2.1),r_2.2.2.1,r_2.2.1))
   (kx2 t14 o0_2 o1_2)
def zlb {R:Type} (N:Nat) (r8:Yd->Int->Ya->Yl->Option (Yan)) (t2_1:Int) (t31:Int) (o2:Yd) (kb:Int×Int×Yl×List Int->Option R) (kx0:Int->Ya->Yl->Option R):Int×Int×Yl×List Int->Option R:=
 fun (t32,t11,o0_1,o1_1)=>
  cond (decide (t32 < t31))
   ((f30 N o2 t2_1 t32).bind fun r_1=>
   cond (decide ((len r_1) < 2))
    (kb ((z0g (t32+1)),t11,o0_1,o1_1))
    (iter (fun w=>zfe N r8 t2_1 t31 t32 t11 (len r_1) o2 r_1 w
     (fun t14_1 o0_3 o1_3=>
      kb ((z0g (t32+1)),(zxc t11 (z0g (t14_1+1))),o0_3,o1_3))) N (0,0,o0_1,o1_1)))
   (kx0 t11 o1_1 o0_1)
def f8B (N:Nat) (r8:Yd->Int->Ya->Yl->Option (Yan)) (t0:Yd) (t2:Int) (o0:List Int) (o1:List Yh):Option (Yan):=
 cond (Option.isSome (z80 (z2t .ya) o1 t2))
  (some (((),((),((Option.getD (z80 (z2t .ya) o1 t2) 0),()))),(o0,(o1,()))))
  ((f29 N t0 o0 t2).bind fun r=>
  cond r
   (some (((),((),(0,()))),(o0,(o1,()))))
   (iter (fun w=>zlb N r8 t2 (len t0.2.1) t0 w
    (fun t11_2 o0_4 o1_4=>
     some (((),((),(t11_2,()))),(o0_4,((zb1 (z2t .ya) o1_4 t2 t11_2),()))))) N (0,1000,o1,o0)))
def fi8B:SForm:=⟨[(0,(.val .yf)),(1,(.ref 0)),(2,(.val .ya)),(3,(.mref 1))],[.row .ya,.map .ya .ya]⟩
def fo8B:SForm:=⟨[(1,(.ref 0)),(3,(.mref 1)),(8,(.val .ya))],[.row .ya,.map .ya .ya]⟩
def c8B (N:Nat) (r8:Yd->Int->Ya->Yl->Option (Yan)):Callee:=.mut fi8B [1,3] fo8B fun d=>f8B N r8 d.1.1 d.1.2.2.1 d.2.1 d.2.2.1
def F8B_14:SForm:=⟨[(44,(.val .ya)),(3,(.mref 0)),(1,(.ref 1)),(4,(.bptr 2 [])),(14,(.val .ya)),(42,(.ref 3)),(2,(.val .ya)),(31,(.val .ya)),(32,(.val .ya)),(11,(.val .ya)),(43,(.val .ya))],[.map .ya .ya,.row .ya,.cell (.val .yf),.row .ya]⟩
def zzs (N:Nat) (r8:Yd->Int->Ya->Yl->Option (Yan)):(R:Type)->F8B_14.den->(AExit->St->Option R)->Option R:=fun R d k=>iter (fun kb=>zfe N r8 d.1.2.2.2.2.2.2.1 d.1.2.2.2.2.2.2.2.1 d.1.2.2.2.2.2.2.2.2.1 d.1.2.2.2.2.2.2.2.2.2.1 d.1.2.2.2.2.2.2.2.2.2.2.1 d.2.2.2.1 d.2.2.2.2.1 kb
  (fun y3 y5 y6=>k (.exit 2) (St.of [(3,(.mref 0)),(1,(.ref 1 [] 0)),(4,(.bptr 2 [])),(2,(.data .ya d.1.2.2.2.2.2.2.1)),(31,(.data .ya d.1.2.2.2.2.2.2.2.1)),(32,(.data .ya d.1.2.2.2.2.2.2.2.2.1)),(14,(.data .ya y3)),(11,(.data .ya d.1.2.2.2.2.2.2.2.2.2.1))] [.map .ya .ya y5,.row .ya y6 0,.cell (.data .yf d.2.2.2.1)]))) N (d.1.1,d.1.2.2.2.2.1,d.2.1,d.2.2.1)
def F8B_8:SForm:=⟨[(32,(.val .ya)),(3,(.mref 0)),(1,(.ref 1)),(4,(.bptr 2 [])),(11,(.val .ya)),(2,(.val .ya)),(31,(.val .ya))],[.map .ya .ya,.row .ya,.cell (.val .yf)]⟩
def G8B_8 (N:Nat) (r8:Yd->Int->Ya->Yl->Option (Yan)):(R:Type)->F8B_8.den->(AExit->St->Option R)->Option R:=fun R d k=>iter (fun kb=>zlb N r8 d.1.2.2.2.2.2.1 d.1.2.2.2.2.2.2.1 d.2.2.2.1 kb
  (fun y0 y2 y3=>k (.exit 0) (St.of [(1,(.ref 0 [] 0)),(3,(.mref 1)),(11,(.data .ya y0)),(2,(.data .ya d.1.2.2.2.2.2.1))] [.row .ya y2 0,.map .ya .ya y3]))) N (d.1.1,d.1.2.2.2.2.1,d.2.1,d.2.2.1)
def lp8B (N:Nat) (r8:Yd->Int->Ya->Yl->Option (Yan)):Nat->Option z0h:=fun r=>cond (Nat.beq r 14) (some fun R sl os k=>F8B_14.take sl os fun d=>zzs N r8 R d k) (cond (Nat.beq r 8) (some fun R sl os k=>F8B_8.take sl os fun d=>G8B_8 N r8 R d k) (none))
def x8B (N:Nat) (r8:Yd->Int->Ya->Yl->Option (Yan)):Ctx:={ fuel:=N,tt:=z1k ttL,mt:=z1k mtL,ntmps:=65,env:=fun f=>(z1k [(29,[c29 N]),(30,[c30 N]),(8,[(.mut ⟨[(0,(.val .yf)),(1,(.ref 0)),(2,(.val .ya)),(3,(.mref 1))],[.row .ya,.map .ya .ya]⟩ [1,3] ⟨[(1,(.ref 0)),(3,(.mref 1)),(8,(.val .ya))],[.row .ya,.map .ya .ya]⟩ fun d=>r8 d.1.1 d.1.2.2.1 d.2.1 d.2.2.1)])] f).getD [],cut:=z1k [(8,⟨[32,3,1,4,11,2,31],[]⟩),(14,⟨[44,3,1,4,14,42,2,31,32,11,43],[]⟩)],exits:=fun r=>z1k ((z1k [(8,[(0,⟨[1,3,11,2],[]⟩)]),(14,[(2,⟨[3,1,4,2,31,32,14,11],[]⟩)])] r).getD []),res:=⟨[1,3,8],[]⟩,own:=fun _=>none,lp:=lp8B N r8,eqs:=fun T=>z2e T eqL,ct:=fun T=>z2e T ctL,ms:=z9k msL }
noncomputable def b8B:Code:=((Go.Proofs.Tryz.f8).body).getD .skip
theorem s8B_14 (N:Nat) (r8:Yd->Int->Ya->Yl->Option (Yan)) {R:Type} (k:AExit->St->Option R) (t2_2:Int) (t31_1:Int) (t32_1:Int) (t11_1:Int) (t43:Int) (o2_1:Yd) (o3:List Int) (kb:List Yo->List Obj->Option R) (x:Int×Int×Yl×List Int):z0q (x8B N r8) (z03 14 (z00 b8B)) (St.of [(44,(.data .ya x.1)),(3,(.mref 0)),(1,(.ref 1 [] 0)),(4,(.bptr 2 [])),(14,(.data .ya x.2.1)),(42,(.ref 3 [] 0)),(2,(.data .ya t2_2)),(31,(.data .ya t31_1)),(32,(.data .ya t32_1)),(11,(.data .ya t11_1)),(43,(.data .ya t43))] [.map .ya .ya x.2.2.1,.row .ya x.2.2.2 0,.cell (.data .yf o2_1),.row .ya o3 0]) (z12 (x8B N r8) 14 ⟨[44,3,1,4,14,42,2,31,32,11,43],[]⟩ kb k)=zfe N r8 t2_2 t31_1 t32_1 t11_1 t43 o2_1 o3 (fun y=>kb [(44,(.data .ya y.1)),(3,(.mref 0)),(1,(.ref 1 [] 0)),(4,(.bptr 2 [])),(14,(.data .ya y.2.1)),(42,(.ref 3 [] 0)),(2,(.data .ya t2_2)),(31,(.data .ya t31_1)),(32,(.data .ya t32_1)),(11,(.data .ya t11_1)),(43,(.data .ya t43))] [.map .ya .ya y.2.2.1,.row .ya y.2.2.2 0,.cell (.data .yf o2_1),.row .ya o3 0])
  (fun y3 y5 y6=>k (.exit 2) (St.of [(3,(.mref 0)),(1,(.ref 1 [] 0)),(4,(.bptr 2 [])),(2,(.data .ya t2_2)),(31,(.data .ya t31_1)),(32,(.data .ya t32_1)),(14,(.data .ya y3)),(11,(.data .ya t11_1))] [.map .ya .ya y5,.row .ya y6 0,.cell (.data .yf o2_1)])) x:=by kernel_rfl
theorem l8B_14 (N:Nat) (r8:Yd->Int->Ya->Yl->Option (Yan)):z0f (x8B N r8) (z03 14 (z00 b8B)):=
 z0b (zzs N r8) (by kernel_rfl) (by kernel_rfl) (by kernel_rfl) fun R k d=>
  z0a (st:=fun (x:Int×Int×Yl×List Int)=>([(44,(.data .ya x.1)),(3,(.mref 0)),(1,(.ref 1 [] 0)),(4,(.bptr 2 [])),(14,(.data .ya x.2.1)),(42,(.ref 3 [] 0)),(2,(.data .ya d.1.2.2.2.2.2.2.1)),(31,(.data .ya d.1.2.2.2.2.2.2.2.1)),(32,(.data .ya d.1.2.2.2.2.2.2.2.2.1)),(11,(.data .ya d.1.2.2.2.2.2.2.2.2.2.1)),(43,(.data .ya d.1.2.2.2.2.2.2.2.2.2.2.1))],[.map .ya .ya x.2.2.1,.row .ya x.2.2.2 0,.cell (.data .yf d.2.2.2.1),.row .ya d.2.2.2.2.1 0])) (s8B_14 N r8 k d.1.2.2.2.2.2.2.1 d.1.2.2.2.2.2.2.2.1 d.1.2.2.2.2.2.2.2.2.1 d.1.2.2.2.2.2.2.2.2.2.1 d.1.2.2.2.2.2.2.2.2.2.2.1 d.2.2.2.1 d.2.2.2.2.1) N (d.1.1,d.1.2.2.2.2.1,d.2.1,d.2.2.1)
theorem s8B_8 (N:Nat) (r8:Yd->Int->Ya->Yl->Option (Yan)) {R:Type} (k:AExit->St->Option R) (t2_1:Int) (t31:Int) (o2:Yd) (kb:List Yo->List Obj->Option R) (x:Int×Int×Yl×List Int):z0q (x8B N r8) (z03 8 (z00 b8B)) (St.of [(32,(.data .ya x.1)),(3,(.mref 0)),(1,(.ref 1 [] 0)),(4,(.bptr 2 [])),(11,(.data .ya x.2.1)),(2,(.data .ya t2_1)),(31,(.data .ya t31))] [.map .ya .ya x.2.2.1,.row .ya x.2.2.2 0,.cell (.data .yf o2)]) (z12 (x8B N r8) 8 ⟨[32,3,1,4,11,2,31],[]⟩ kb k)=zlb N r8 t2_1 t31 o2 (fun y=>kb [(32,(.data .ya y.1)),(3,(.mref 0)),(1,(.ref 1 [] 0)),(4,(.bptr 2 [])),(11,(.data .ya y.2.1)),(2,(.data .ya t2_1)),(31,(.data .ya t31))] [.map .ya .ya y.2.2.1,.row .ya y.2.2.2 0,.cell (.data .yf o2)])
  (fun y0 y2 y3=>k (.exit 0) (St.of [(1,(.ref 0 [] 0)),(3,(.mref 1)),(11,(.data .ya y0)),(2,(.data .ya t2_1))] [.row .ya y2 0,.map .ya .ya y3])) x:=by kernel_rfl
theorem l8B_8 (N:Nat) (r8:Yd->Int->Ya->Yl->Option (Yan)):z0f (x8B N r8) (z03 8 (z00 b8B)):=
 z0b (G8B_8 N r8) (by kernel_rfl) (by kernel_rfl) (by kernel_rfl) fun R k d=>
  z0a (st:=fun (x:Int×Int×Yl×List Int)=>([(32,(.data .ya x.1)),(3,(.mref 0)),(1,(.ref 1 [] 0)),(4,(.bptr 2 [])),(11,(.data .ya x.2.1)),(2,(.data .ya d.1.2.2.2.2.2.1)),(31,(.data .ya d.1.2.2.2.2.2.2.1))],[.map .ya .ya x.2.2.1,.row .ya x.2.2.2 0,.cell (.data .yf d.2.2.2.1)])) (s8B_8 N r8 k d.1.2.2.2.2.2.1 d.1.2.2.2.2.2.2.1 d.2.2.2.1) N (d.1.1,d.1.2.2.2.2.1,d.2.1,d.2.2.1)
theorem e8B (N:Nat) (r8:Yd->Int->Ya->Yl->Option (Yan)) (t0:Yd) (t2:Int) (o0:List Int) (o1:List Yh):z9m (x8B N r8) fo8B b8B (St.of [(0,(.data .yf t0)),(1,(.ref 0 [] 0)),(2,(.data .ya t2)),(3,(.mref 1))] [.row .ya o0 0,.map .ya .ya o1])=f8B N r8 t0 t2 o0 o1:=by kernel_rfl
theorem k8B (N:Nat) (r8:Yd->Int->Ya->Yl->Option (Yan)) (h8:z04 Go.Proofs.Tryz.prog 8 (.mut ⟨[(0,(.val .yf)),(1,(.ref 0)),(2,(.val .ya)),(3,(.mref 1))],[.row .ya,.map .ya .ya]⟩ [1,3] ⟨[(1,(.ref 0)),(3,(.mref 1)),(8,(.val .ya))],[.row .ya,.map .ya .ya]⟩ fun d=>r8 d.1.1 d.1.2.2.1 d.2.1 d.2.2.1)):z04 Go.Proofs.Tryz.prog 8 (c8B N r8):=
 z2a (fn:=Go.Proofs.Tryz.f8) (body:=b8B) (c:=x8B N r8) (rs:=[8]) Go.Proofs.Tryz.func8 (by kernel_rfl) (by kernel_rfl) ⟨ttL_ok,z0k,z0m,z0n,z0l,z02 (z01 (k29 N)) (z02 (z01 (k30 N)) (z02 (z01 (h8)) (z09)))⟩ mixed (by kernel_rfl) (zL (by kernel_rfl)) (by kernel_rfl) (by kernel_rfl) (by kernel_rfl) (z2o (by kernel_rfl))
  (z06 (by kernel_rfl:z00 b8B=[z03 8 (z00 b8B),z03 14 (z00 b8B)]) (.cons (l8B_8 N r8) (.cons (l8B_14 N r8) .nil))) fun d=>e8B N r8 d.1.1 d.1.2.2.1 d.2.1 d.2.2.1
def f8R (N:Nat) (M:Nat):Yd->Int->Ya->Yl->Option (Yan):=Nat.rec (motive:=fun _=>Yd->Int->Ya->Yl->Option (Yan)) (fun _ _ _ _=>none) (fun _ r=>f8B N r) M
def f8 (N:Nat) (a0:Yd) (a1:Int) (a2:List Int) (a3:List Yh):Option (Yan):=f8R N N a0 a1 a2 a3
def c8 (N:Nat):Callee:=(.mut ⟨[(0,(.val .yf)),(1,(.ref 0)),(2,(.val .ya)),(3,(.mref 1))],[.row .ya,.map .ya .ya]⟩ [1,3] ⟨[(1,(.ref 0)),(3,(.mref 1)),(8,(.val .ya))],[.row .ya,.map .ya .ya]⟩ fun d=>f8 N d.1.1 d.1.2.2.1 d.2.1 d.2.2.1)
theorem k8 (N:Nat):z04 Go.Proofs.Tryz.prog 8 (c8 N):=
 have h:∀ M:Nat,z04 Go.Proofs.Tryz.prog 8 (.mut ⟨[(0,(.val .yf)),(1,(.ref 0)),(2,(.val .ya)),(3,(.mref 1))],[.row .ya,.map .ya .ya]⟩ [1,3] ⟨[(1,(.ref 0)),(3,(.mref 1)),(8,(.val .ya))],[.row .ya,.map .ya .ya]⟩ fun d=>f8R N M d.1.1 d.1.2.2.1 d.2.1 d.2.2.1):=fun M=>Nat.rec (motive:=fun M=>z04 Go.Proofs.Tryz.prog 8 (.mut ⟨[(0,(.val .yf)),(1,(.ref 0)),(2,(.val .ya)),(3,(.mref 1))],[.row .ya,.map .ya .ya]⟩ [1,3] ⟨[(1,(.ref 0)),(3,(.mref 1)),(8,(.val .ya))],[.row .ya,.map .ya .ya]⟩ fun d=>f8R N M d.1.1 d.1.2.2.1 d.2.1 d.2.2.1)) (z3m fun _=>rfl) (fun M ih=>k8B N _ ih) M
 h N
def zhp {R:Type} (N:Nat) (t1_1:List Yk) (t5:Int) (t44:List Int) (t12_1:List Yk) (t13_1:Int) (t14_1:Int) (t45:Int) (o0_1:Yd) (kb:Int->Option R) (kret:Bool->Option R) (kx2:Unit->Option R):Int->Option R:=
 fun t46=>
  cond (decide (t46 < t45))
   ((idx t44 t46).bind fun x_2=>
   (cond (!(decide (x_2=(-1))))
     ((cond (decide (x_2≤t5))
       (some true)
       (some (decide ((len t1_1)≤x_2)))).bind fun b_2=>
     some b_2)
     (some false)).bind fun b_3=>
   cond b_3
    (kret false)
    (kb (z0g (t46+1))))
   (kx2 ())
def zhq {R:Type} (N:Nat) (t1:List Yk) (t12:List Yk) (t13:Int) (o0:Yd) (kb:Int->Option R) (kret:Bool->Option R) (kx0:Unit->Option R):Int->Option R:=
 fun t14=>
  cond (decide (t14 < t13))
   ((idx t12 t14).bind fun x=>
   (cond (decide (x.1 < 0))
     (some true)
     (some (decide ((len o0.2.1)≤x.1)))).bind fun b=>
   (cond b
     (some true)
     ((idx o0.2.1 x.1).bind fun x_1=>
     (f32 N x_1).bind fun r=>
     some (!(decide ((len x.2.1)=r))))).bind fun b_1=>
   cond b_1
    (kret false)
    (iter (fun w=>zhp N t1 t14 x.2.1 t12 t13 t14 (len x.2.1) o0 w
     (fun t4=>
      kret t4)
     (fun (_:Unit)=>
      kb (z0g (t14+1)))) N 0))
   (kx0 ())
def f11 (N:Nat) (a0:Yd) (a1:List Yk):Option (Bool):=
 cond (decide (256 < (len a1)))
  (some false)
  (iter (fun w=>zhq N a1 a1 (len a1) a0 w
   (fun t4_1=>
    some t4_1)
   (fun (_:Unit)=>
    some true)) N 0)
def c11 (N:Nat):Callee:=.pure (.pr (.val .yf) (.pr (.val .ym) .un)) [.bool] fun d=>f11 N d.1 d.2.1
def F11_9:SForm:=⟨[(46,(.val .ya)),(1,(.val .ym)),(5,(.val .ya)),(44,(.val .yb)),(2,(.bptr 0 [])),(12,(.val .ym)),(13,(.val .ya)),(14,(.val .ya)),(45,(.val .ya))],[.cell (.val .yf)]⟩
def G11_9 (N:Nat):(R:Type)->F11_9.den->(AExit->St->Option R)->Option R:=fun R d k=>iter (fun kb=>zhp N d.1.2.1 d.1.2.2.1 d.1.2.2.2.1 d.1.2.2.2.2.2.1 d.1.2.2.2.2.2.2.1 d.1.2.2.2.2.2.2.2.1 d.1.2.2.2.2.2.2.2.2.1 d.2.1 kb
  (fun y0=>k .ret (St.of [(4,(.data .bool y0))] []))
  (fun _=>k (.exit 2) (St.of [(1,(.data .ym d.1.2.1)),(2,(.bptr 0 [])),(12,(.data .ym d.1.2.2.2.2.2.1)),(13,(.data .ya d.1.2.2.2.2.2.2.1)),(14,(.data .ya d.1.2.2.2.2.2.2.2.1))] [.cell (.data .yf d.2.1)]))) N d.1.1
def F11_4:SForm:=⟨[(1,(.val .ym)),(14,(.val .ya)),(2,(.bptr 0 [])),(12,(.val .ym)),(13,(.val .ya))],[.cell (.val .yf)]⟩
def G11_4 (N:Nat):(R:Type)->F11_4.den->(AExit->St->Option R)->Option R:=fun R d k=>iter (fun kb=>zhq N d.1.1 d.1.2.2.2.1 d.1.2.2.2.2.1 d.2.1 kb
  (fun y0=>k .ret (St.of [(4,(.data .bool y0))] []))
  (fun _=>k (.exit 0) (St.of [] []))) N d.1.2.1
def lp11 (N:Nat):Nat->Option z0h:=fun r=>cond (Nat.beq r 9) (some fun R sl os k=>F11_9.take sl os fun d=>G11_9 N R d k) (cond (Nat.beq r 4) (some fun R sl os k=>F11_4.take sl os fun d=>G11_4 N R d k) (none))
def x11 (N:Nat):Ctx:=(mkX N 65 [(32,[c32 N])] [(4,⟨[1,14,2,12,13],[]⟩),(9,⟨[46,1,5,44,2,12,13,14,45],[]⟩)] [(4,[(0,⟨[],[]⟩)]),(9,[(2,⟨[1,2,12,13,14],[]⟩)])] ⟨[4],[]⟩ (fun _=>none) (lp11 N))
noncomputable def b11:Code:=((Go.Proofs.Tryz.f11).body).getD .skip
theorem s11_9 (N:Nat) {R:Type} (k:AExit->St->Option R) (t1_1:List Yk) (t5:Int) (t44:List Int) (t12_1:List Yk) (t13_1:Int) (t14_1:Int) (t45:Int) (o0_1:Yd) (kb:List Yo->List Obj->Option R) (x:Int):z0q (x11 N) (z03 9 (z00 b11)) (St.of [(46,(.data .ya x)),(1,(.data .ym t1_1)),(5,(.data .ya t5)),(44,(.data .yb t44)),(2,(.bptr 0 [])),(12,(.data .ym t12_1)),(13,(.data .ya t13_1)),(14,(.data .ya t14_1)),(45,(.data .ya t45))] [.cell (.data .yf o0_1)]) (z12 (x11 N) 9 ⟨[46,1,5,44,2,12,13,14,45],[]⟩ kb k)=zhp N t1_1 t5 t44 t12_1 t13_1 t14_1 t45 o0_1 (fun y=>kb [(46,(.data .ya y)),(1,(.data .ym t1_1)),(5,(.data .ya t5)),(44,(.data .yb t44)),(2,(.bptr 0 [])),(12,(.data .ym t12_1)),(13,(.data .ya t13_1)),(14,(.data .ya t14_1)),(45,(.data .ya t45))] [.cell (.data .yf o0_1)])
  (fun y0=>k .ret (St.of [(4,(.data .bool y0))] []))
  (fun _=>k (.exit 2) (St.of [(1,(.data .ym t1_1)),(2,(.bptr 0 [])),(12,(.data .ym t12_1)),(13,(.data .ya t13_1)),(14,(.data .ya t14_1))] [.cell (.data .yf o0_1)])) x:=by kernel_rfl
theorem l11_9 (N:Nat):z0f (x11 N) (z03 9 (z00 b11)):=
 z0b (G11_9 N) (by kernel_rfl) (by kernel_rfl) (by kernel_rfl) fun R k d=>
  z0a (st:=fun (x:Int)=>([(46,(.data .ya x)),(1,(.data .ym d.1.2.1)),(5,(.data .ya d.1.2.2.1)),(44,(.data .yb d.1.2.2.2.1)),(2,(.bptr 0 [])),(12,(.data .ym d.1.2.2.2.2.2.1)),(13,(.data .ya d.1.2.2.2.2.2.2.1)),(14,(.data .ya d.1.2.2.2.2.2.2.2.1)),(45,(.data .ya d.1.2.2.2.2.2.2.2.2.1))],[.cell (.data .yf d.2.1)])) (s11_9 N k d.1.2.1 d.1.2.2.1 d.1.2.2.2.1 d.1.2.2.2.2.2.1 d.1.2.2.2.2.2.2.1 d.1.2.2.2.2.2.2.2.1 d.1.2.2.2.2.2.2.2.2.1 d.2.1) N d.1.1
theorem s11_4 (N:Nat) {R:Type} (k:AExit->St->Option R) (t1:List Yk) (t12:List Yk) (t13:Int) (o0:Yd) (kb:List Yo->List Obj->Option R) (x:Int):z0q (x11 N) (z03 4 (z00 b11)) (St.of [(1,(.data .ym t1)),(14,(.data .ya x)),(2,(.bptr 0 [])),(12,(.data .ym t12)),(13,(.data .ya t13))] [.cell (.data .yf o0)]) (z12 (x11 N) 4 ⟨[1,14,2,12,13],[]⟩ kb k)=zhq N t1 t12 t13 o0 (fun y=>kb [(1,(.data .ym t1)),(14,(.data .ya y)),(2,(.bptr 0 [])),(12,(.data .ym t12)),(13,(.data .ya t13))] [.cell (.data .yf o0)])
  (fun y0=>k .ret (St.of [(4,(.data .bool y0))] []))
  (fun _=>k (.exit 0) (St.of [] [])) x:=by kernel_rfl
theorem l11_4 (N:Nat):z0f (x11 N) (z03 4 (z00 b11)):=
 z0b (G11_4 N) (by kernel_rfl) (by kernel_rfl) (by kernel_rfl) fun R k d=>
  z0a (st:=fun (x:Int)=>([(1,(.data .ym d.1.1)),(14,(.data .ya x)),(2,(.bptr 0 [])),(12,(.data .ym d.1.2.2.2.1)),(13,(.data .ya d.1.2.2.2.2.1))],[.cell (.data .yf d.2.1)])) (s11_4 N k d.1.1 d.1.2.2.2.1 d.1.2.2.2.2.1 d.2.1) N d.1.2.1
theorem e11 (N:Nat) (a0:Yd) (a1:List Yk):z1g (x11 N) [.bool] [.tmp 4] b11 (entry (.pr (.val .yf) (.pr (.val .ym) .un)) (a0,(a1,())))=f11 N a0 a1:=by kernel_rfl
theorem k11 (N:Nat):z04 Go.Proofs.Tryz.prog 11 (c11 N):=
 z1h (fn:=Go.Proofs.Tryz.f11) (body:=b11) (c:=x11 N) Go.Proofs.Tryz.func11 (by kernel_rfl) (by kernel_rfl) ⟨ttL_ok,z0k,z0m,z0n,z0l,z02 (z01 (k32 N)) (z09)⟩ mixed (by kernel_rfl) (zL (by kernel_rfl)) (by kernel_rfl) (by decide)
  (z06 (by kernel_rfl:z00 b11=[z03 4 (z00 b11),z03 9 (z00 b11)]) (.cons (l11_4 N) (.cons (l11_9 N) .nil))) fun d=>e11 N d.1 d.2.1
end
end Go.Kz
