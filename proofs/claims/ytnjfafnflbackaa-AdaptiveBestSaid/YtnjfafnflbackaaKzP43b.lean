/-
  The functions of the program as plain functions on lists and numbers, and the proofs that the program computes them. Printed by a program.
-/
import Derived.Test.YtnjfafnflbackaaKzP43
set_option linter.unusedSimpArgs false
set_option maxRecDepth 100000
set_option linter.unusedVariables false
namespace Go.Kz
open Go.Proofs
noncomputable section
def f98 (N:Nat) (a0:Int) (a1:Int):Option (Int×Int):=
 (f114 N a0 a1).bind fun r=>
 some (r.1,r.2)
def c98 (N:Nat):Callee:=.pure (.pr (.val .yq) (.pr (.val .yq) .un)) [.yq,.yq] fun d=>f98 N d.1 d.2.1
def lp98 (N:Nat):Nat->Option z0m:=fun r=>none
def x98 (N:Nat):Ctx:=(mkX N 30 [(114,[c114 N])] [] [] ⟨[4,5],[]⟩ (fun _=>none) (lp98 N))
noncomputable def b98:Code:=((Go.Proofs.Try.f98).body).getD .skip
theorem e98 (N:Nat) (a0:Int) (a1:Int):z1y (x98 N) [.yq,.yq] [.tmp 4,.tmp 5] b98 (entry (.pr (.val .yq) (.pr (.val .yq) .un)) (a0,(a1,())))=f98 N a0 a1:=by kernel_rfl
theorem k98 (N:Nat):z03 Go.Proofs.Try.prog 98 (c98 N):=
 z23 (fn:=Go.Proofs.Try.f98) (body:=b98) (c:=x98 N) Go.Proofs.Try.func98 (by kernel_rfl) (by kernel_rfl) ⟨ttL_ok,z0n,z0p,z0q,z0o,z02 (z01 (k114 N)) (z0e)⟩ mixed (by kernel_rfl) (zL (by kernel_rfl)) (by kernel_rfl) (by decide)
  (z0b (by kernel_rfl:z00 b98=[]) .nil) fun d=>e98 N d.1 d.2.1
def zxi {R:Type} (N:Nat) (kb:Int×List Int->Option R) (kx0:Ya->Option R):Int×List Int->Option R:=
 fun (t8,o0)=>
  cond (decide (t8 < (len o0)))
   (chk (((decide (0≤t8)) && (decide (t8≤(len o0)))) && (decide ((len o0)≤(len o0)))) <|
   chk ((decide (0≤t8)) && (decide (t8≤(len o0)))) <|
   kb ((z0l (t8+(zot (sub o0 0 t8) t8 (len o0)))),(z8n o0 t8 (len o0) (sub o0 0 t8))))
   (kx0 o0)
def f83 (N:Nat) (a0:List Int) (a1:Int):Option Ya:=
 cond (decide (a1 < 0))
  (none)
  ((f98 N (zpn (len a0)) (zpn a1)).bind fun r=>
  (cond (decide (0 < r.1))
    (some true)
    (some (decide (9223372036854775807 < r.2)))).bind fun b=>
  cond b
   (none)
   (chk (((decide (0≤(z0l r.2))) && (decide ((z0l r.2)≤(z0l r.2)))) && (decide ((z0l r.2)≤((z3e:Nat):Int)))) <|
   iter (fun w=>zxi N w
    (fun o0_1=>
     some o0_1)) N ((zot a0 0 (len (List.replicate (Int.toNat (z0l r.2)) 0:List Int))),(z8n (List.replicate (Int.toNat (z0l r.2)) 0:List Int) 0 (len (List.replicate (Int.toNat (z0l r.2)) 0:List Int)) a0))))
def c83 (N:Nat):Callee:=.pure (.pr (.val .yb) (.pr (.val .ya) .un)) [.yj] fun d=>f83 N d.1 d.2.1
def F83_8:SForm:=⟨[(8,(.val .ya)),(7,(.ref 0))],[.row .ya]⟩
def G83_8 (N:Nat):(R:Type)->F83_8.den->(AExit->St->Option R)->Option R:=fun R d k=>iter (fun kb=>zxi N kb
  (fun y0=>k (.exit 0) (St.of [(7,(.ref 0 [] 0))] [.row .ya y0 0]))) N (d.1.1,d.2.1)
def lp83 (N:Nat):Nat->Option z0m:=fun r=>cond (Nat.beq r 8) (some fun R sl os k=>F83_8.take sl os fun d=>G83_8 N R d k) (none)
def x83 (N:Nat):Ctx:=(mkX N 48 [(98,[c98 N])] [(8,⟨[8,7],[]⟩)] [(8,[(0,⟨[7],[]⟩)])] ⟨[4],[]⟩ (fun _=>none) (lp83 N))
noncomputable def b83:Code:=((Go.Proofs.Try.f83).body).getD .skip
theorem s83_8 (N:Nat) {R:Type} (k:AExit->St->Option R) (kb:List Yp->List Obj->Option R) (x:Int×List Int):z0z (x83 N) (z04 8 (z00 b83)) (St.of [(8,(.data .ya x.1)),(7,(.ref 0 [] 0))] [.row .ya x.2 0]) (z1q (x83 N) 8 ⟨[8,7],[]⟩ kb k)=zxi N (fun y=>kb [(8,(.data .ya y.1)),(7,(.ref 0 [] 0))] [.row .ya y.2 0])
  (fun y0=>k (.exit 0) (St.of [(7,(.ref 0 [] 0))] [.row .ya y0 0])) x:=by kernel_rfl
theorem l83_8 (N:Nat):z0r (x83 N) (z04 8 (z00 b83)):=
 z0i (G83_8 N) (by kernel_rfl) (by kernel_rfl) (by kernel_rfl) fun R k d=>
  z0g (st:=fun (x:Int×List Int)=>([(8,(.data .ya x.1)),(7,(.ref 0 [] 0))],[.row .ya x.2 0])) (s83_8 N k) N (d.1.1,d.2.1)
theorem e83 (N:Nat) (a0:List Int) (a1:Int):z1y (x83 N) [.yj] [.tmp 4] b83 (entry (.pr (.val .yb) (.pr (.val .ya) .un)) (a0,(a1,())))=f83 N a0 a1:=by kernel_rfl
theorem k83 (N:Nat):z03 Go.Proofs.Try.prog 83 (c83 N):=
 z23 (fn:=Go.Proofs.Try.f83) (body:=b83) (c:=x83 N) Go.Proofs.Try.func83 (by kernel_rfl) (by kernel_rfl) ⟨ttL_ok,z0n,z0p,z0q,z0o,z02 (z01 (k98 N)) (z0e)⟩ mixed (by kernel_rfl) (zL (by kernel_rfl)) (by kernel_rfl) (by decide)
  (z0b (by kernel_rfl:z00 b83=[z04 8 (z00 b83)]) (.cons (l83_8 N) .nil)) fun d=>e83 N d.1 d.2.1
def z9i {R:Type} (N:Nat) (r55v1:Yd->Ye->Yl->Yg->Yn->Option (Yab)) (o2_1:Yd) (o3:List Yk) (kb:Int×Ye×List Ya×Yg->Option R) (kx0:Int->Ye->Yl->Yg->Option R):Int×Ye×List Ya×Yg->Option R:=
 fun (t7,o0_1,o0'_1,o1_1)=>
  z4z [(f82 N (f53 N) o2_1 t7 o0_1 o0'_1 o1_1).bind fun r=>
   (f53 N o2_1 r.2.1.1 r.2.1.2.1 r.2.2.1).bind fun r_1=>
   cond (!(decide (r.1.2.1=r_1.1.2.1)))
    (kb ((z0l (t7+1)),r_1.2.1.1,r_1.2.1.2.1,r_1.2.2.1))
    (kx0 t7 r_1.2.1.1 r_1.2.1.2.1 r_1.2.2.1),
   (f82 N (f53 N) o2_1 t7 o0_1 o0'_1 o1_1).bind fun r_2=>
   (f53 N o2_1 r_2.2.1.1 r_2.2.1.2.1 r_2.2.2.1).bind fun r_3=>
   cond (!(decide (r_2.1.2.1=r_3.1.2.1)))
    (kb ((z0l (t7+1)),r_3.2.1.1,r_3.2.1.2.1,r_3.2.2.1))
    (kx0 t7 r_3.2.1.1 r_3.2.1.2.1 r_3.2.2.1)]
def z9h {R:Type} (N:Nat) (r55v1:Yd->Ye->Yl->Yg->Yn->Option (Yab)) (t8:Int) (t46:Int) (o3_1:Yd) (o4:List Int) (kb:Int×Yn×Ye×List Ya×Yg->Option R) (kx2:Ye->Yl->Yg->Yn->Option R):Int×Yn×Ye×List Ya×Yg->Option R:=
 fun (t47,o0_3,o1_3,o1',o2_2)=>
  cond (decide (t47 < t46))
   (chk (inb o4 t47) <|
   (idx o4 t47).bind fun x_1=>
   cond (decide (x_1=0))
    (kb ((z0l (t47+1)),o0_3,o1_3,o1',o2_2))
    ((f54 N (x_1,((z0l (o3_1.2.1-1)),())) o1_3 o1' o2_2).bind fun r_6=>
    cond r_6.1.2.1
     (kb ((z0l (t47+1)),o0_3,r_6.2.1.1,r_6.2.1.2.1,r_6.2.2.1))
     (chk (inb o0_3 t8) <|
     (idx o0_3 t8).bind fun x_2=>
     (idx o0_3 t8).bind fun x_3=>
     (idx o0_3 t8).bind fun x_4=>
     chk (inb x_4.2.1 t47) <|
     (idx o0_3 t8).bind fun x_5=>
     (idx x_5.2.1 t47).bind fun x_6=>
     (idx x_5.2.1 t47).bind fun x_7=>
     (idx o0_3 t8).bind fun x_8=>
     (r55v1 (x_1,((z0l (o3_1.2.1-1)),())) r_6.2.1.1 r_6.2.1.2.1 r_6.2.2.1 (zcx o0_3 t8 (x_8.1,((zcx x_5.2.1 t47 (len o0_3)),x_8.2.2)))).bind fun r_7=>
     kb ((z0l (t47+1)),r_7.2.2.2.1,r_7.2.1.1,r_7.2.1.2.1,r_7.2.2.1))))
   (kx2 o1_3 o1' o2_2 o0_3)
def zo2 (N:Nat) (r55v1:Yd->Ye->Yl->Yg->Yn->Option (Yab)) (t1:Yd) (o0:Ye) (o0':List Ya) (o1:List Yf) (o2:List Yk):Option (Yab):=
 iter (fun w=>z9i N r55v1 t1 o2 w
  (fun t7_1 o0_2 o0'_2 o1_2=>
   (idx o0_2.2.1 t7_1).bind fun x=>
   (f76 N x t1.1).bind fun r_4=>
   (f83 N ((-1) :: ([]:List Int)) (len r_4)).bind fun r_5=>
   chk (decide ((Nat.succ (List.length o2))≤z3e)) <|
   iter (fun w=>z9h N r55v1 (len o2) (len r_4) t1 r_4 w
    (fun o0_4 o0'_3 o1_4 o2_3=>
     some (((),((),())),((o0_4,(o0'_3,((),()))),(o1_4,(o2_3,())))))) N (0,(o2++((t7_1,(r_5,())) :: ([]:List Yk))),o0_2,o0'_2,o1_2))) N (0,o0,o0',o1)
def fi55v1B:SForm:=⟨[(0,(.bptr 0 [])),(1,(.val .ye)),(2,(.nv 2))],[.con (.agg (.pr (.val .yg) (.pr (.val .yc) (.pr (.mref 1) .un)))),.map .ye .ya,.nest .yl]⟩
def zxd:SForm:=⟨[(0,(.bptr 0 [])),(6,(.nv 2))],[.con (.agg (.pr (.val .yg) (.pr (.val .yc) (.pr (.mref 1) .un)))),.map .ye .ya,.nest .yl]⟩
def c55v1B (N:Nat) (r55v1:Yd->Ye->Yl->Yg->Yn->Option (Yab)):Callee:=.mut fi55v1B [0] zxd fun d=>zo2 N r55v1 d.1.2.1 d.2.1.1 d.2.1.2.1 d.2.2.1 d.2.2.2.1
def ztm:SForm:=⟨[(7,(.val .ya)),(0,(.bptr 0 [])),(4,(.bptr 2 [])),(2,(.nv 3))],[.con (.agg (.pr (.val .yg) (.pr (.val .yc) (.pr (.mref 1) .un)))),.map .ye .ya,.cell (.val .ye),.nest .yl]⟩
def ztj (N:Nat) (r55v1:Yd->Ye->Yl->Yg->Yn->Option (Yab)):(R:Type)->ztm.den->(AExit->St->Option R)->Option R:=fun R d k=>iter (fun kb=>z9i N r55v1 d.2.2.2.1 d.2.2.2.2.1 kb
  (fun y0 y1 y2 y3=>k (.exit 0) (St.of [(0,(.bptr 0 [])),(4,(.bptr 2 [])),(7,(.data .ya y0)),(2,(.nv false 3 [] 0))] [.cell (.tup (.agg (.pr (.data .yg y1) (.pr (.data .yc y2) (.pr (.mref 1) .un))))),.map .ye .ya y3,.cell (.data .ye d.2.2.2.1),.nest .yl d.2.2.2.2.1 0 0 none]))) N (d.1.1,d.2.1.1,d.2.1.2.1,d.2.2.1)
def ztl:SForm:=⟨[(47,(.val .ya)),(2,(.nv 0)),(0,(.bptr 1 [])),(8,(.val .ya)),(4,(.bptr 3 [])),(45,(.ref 4)),(46,(.val .ya))],[.nest .yl,.con (.agg (.pr (.val .yg) (.pr (.val .yc) (.pr (.mref 2) .un)))),.map .ye .ya,.cell (.val .ye),.row .ya]⟩
def zti (N:Nat) (r55v1:Yd->Ye->Yl->Yg->Yn->Option (Yab)):(R:Type)->ztl.den->(AExit->St->Option R)->Option R:=fun R d k=>iter (fun kb=>z9h N r55v1 d.1.2.2.2.1 d.1.2.2.2.2.2.2.1 d.2.2.2.2.1 d.2.2.2.2.2.1 kb
  (fun y0 y1 y2 y3=>k (.exit 2) (St.of [(0,(.bptr 0 [])),(2,(.nv false 2 [] 0))] [.cell (.tup (.agg (.pr (.data .yg y0) (.pr (.data .yc y1) (.pr (.mref 1) .un))))),.map .ye .ya y2,.nest .yl y3 0 0 none]))) N (d.1.1,d.2.1,d.2.2.1.1,d.2.2.1.2.1,d.2.2.2.1)
def lp55v1B (N:Nat) (r55v1:Yd->Ye->Yl->Yg->Yn->Option (Yab)):Nat->Option z0m:=fun r=>cond (Nat.beq r 2) (some fun R sl os k=>ztm.take sl os fun d=>ztj N r55v1 R d k) (cond (Nat.beq r 8) (some fun R sl os k=>ztl.take sl os fun d=>zti N r55v1 R d k) (none))
def zdo (N:Nat) (r55v1:Yd->Ye->Yl->Yg->Yn->Option (Yab)):Ctx:={ fuel:=N,tt:=z1v ttL,mt:=z1v mtL,ntmps:=79,env:=fun f=>(z1v [(82,[c82 N (f53 N)]),(53,[c53 N]),(76,[c76 N]),(83,[c83 N]),(54,[c54 N]),(55,[(.mut ⟨[(0,(.bptr 0 [])),(1,(.val .ye)),(2,(.nv 2))],[.con (.agg (.pr (.val .yg) (.pr (.val .yc) (.pr (.mref 1) .un)))),.map .ye .ya,.nest .yl]⟩ [0] ⟨[(0,(.bptr 0 [])),(6,(.nv 2))],[.con (.agg (.pr (.val .yg) (.pr (.val .yc) (.pr (.mref 1) .un)))),.map .ye .ya,.nest .yl]⟩ fun d=>r55v1 d.1.2.1 d.2.1.1 d.2.1.2.1 d.2.2.1 d.2.2.2.1)])] f).getD [],cut:=z1v [(2,⟨[7,0,4,2],[]⟩),(8,⟨[47,2,0,8,4,45,46],[]⟩)],exits:=fun r=>z1v ((z1v [(2,[(0,⟨[0,4,7,2],[]⟩)]),(8,[(2,⟨[0,2],[]⟩)])] r).getD []),res:=⟨[0,6],[]⟩,own:=z1v [(43,(.sl true .yl))],lp:=lp55v1B N r55v1,eqs:=fun T=>z2q T eqL,ct:=fun T=>z2q T ctL,ms:=zb6 msL }
noncomputable def zck:Code:=((Go.Proofs.Try.f55).body).getD .skip
theorem zzb (N:Nat) (r55v1:Yd->Ye->Yl->Yg->Yn->Option (Yab)) {R:Type} (k:AExit->St->Option R) (o2_1:Yd) (o3:List Yk) (kb:List Yp->List Obj->Option R) (x:Int×Ye×List Ya×Yg):z0z (zdo N r55v1) (z04 2 (z00 zck)) (St.of [(7,(.data .ya x.1)),(0,(.bptr 0 [])),(4,(.bptr 2 [])),(2,(.nv false 3 [] 0))] [.cell (.tup (.agg (.pr (.data .yg x.2.1) (.pr (.data .yc x.2.2.1) (.pr (.mref 1) .un))))),.map .ye .ya x.2.2.2,.cell (.data .ye o2_1),.nest .yl o3 0 0 none]) (z1q (zdo N r55v1) 2 ⟨[7,0,4,2],[]⟩ kb k)=z9i N r55v1 o2_1 o3 (fun y=>kb [(7,(.data .ya y.1)),(0,(.bptr 0 [])),(4,(.bptr 2 [])),(2,(.nv false 3 [] 0))] [.cell (.tup (.agg (.pr (.data .yg y.2.1) (.pr (.data .yc y.2.2.1) (.pr (.mref 1) .un))))),.map .ye .ya y.2.2.2,.cell (.data .ye o2_1),.nest .yl o3 0 0 none])
  (fun y0 y1 y2 y3=>k (.exit 0) (St.of [(0,(.bptr 0 [])),(4,(.bptr 2 [])),(7,(.data .ya y0)),(2,(.nv false 3 [] 0))] [.cell (.tup (.agg (.pr (.data .yg y1) (.pr (.data .yc y2) (.pr (.mref 1) .un))))),.map .ye .ya y3,.cell (.data .ye o2_1),.nest .yl o3 0 0 none])) x:=by kernel_rfl
theorem l55v1B_2 (N:Nat) (r55v1:Yd->Ye->Yl->Yg->Yn->Option (Yab)):z0r (zdo N r55v1) (z04 2 (z00 zck)):=
 z0i (ztj N r55v1) (by kernel_rfl) (by kernel_rfl) (by kernel_rfl) fun R k d=>
  z0g (st:=fun (x:Int×Ye×List Ya×Yg)=>([(7,(.data .ya x.1)),(0,(.bptr 0 [])),(4,(.bptr 2 [])),(2,(.nv false 3 [] 0))],[.cell (.tup (.agg (.pr (.data .yg x.2.1) (.pr (.data .yc x.2.2.1) (.pr (.mref 1) .un))))),.map .ye .ya x.2.2.2,.cell (.data .ye d.2.2.2.1),.nest .yl d.2.2.2.2.1 0 0 none])) (zzb N r55v1 k d.2.2.2.1 d.2.2.2.2.1) N (d.1.1,d.2.1.1,d.2.1.2.1,d.2.2.1)
theorem zza (N:Nat) (r55v1:Yd->Ye->Yl->Yg->Yn->Option (Yab)) {R:Type} (k:AExit->St->Option R) (t8:Int) (t46:Int) (o3_1:Yd) (o4:List Int) (kb:List Yp->List Obj->Option R) (x:Int×Yn×Ye×List Ya×Yg):z0z (zdo N r55v1) (z04 8 (z00 zck)) (St.of [(47,(.data .ya x.1)),(2,(.nv false 0 [] 0)),(0,(.bptr 1 [])),(8,(.data .ya t8)),(4,(.bptr 3 [])),(45,(.ref 4 [] 0)),(46,(.data .ya t46))] [.nest .yl x.2.1 0 0 none,.cell (.tup (.agg (.pr (.data .yg x.2.2.1) (.pr (.data .yc x.2.2.2.1) (.pr (.mref 2) .un))))),.map .ye .ya x.2.2.2.2,.cell (.data .ye o3_1),.row .ya o4 0]) (z1q (zdo N r55v1) 8 ⟨[47,2,0,8,4,45,46],[]⟩ kb k)=z9h N r55v1 t8 t46 o3_1 o4 (fun y=>kb [(47,(.data .ya y.1)),(2,(.nv false 0 [] 0)),(0,(.bptr 1 [])),(8,(.data .ya t8)),(4,(.bptr 3 [])),(45,(.ref 4 [] 0)),(46,(.data .ya t46))] [.nest .yl y.2.1 0 0 none,.cell (.tup (.agg (.pr (.data .yg y.2.2.1) (.pr (.data .yc y.2.2.2.1) (.pr (.mref 2) .un))))),.map .ye .ya y.2.2.2.2,.cell (.data .ye o3_1),.row .ya o4 0])
  (fun y0 y1 y2 y3=>k (.exit 2) (St.of [(0,(.bptr 0 [])),(2,(.nv false 2 [] 0))] [.cell (.tup (.agg (.pr (.data .yg y0) (.pr (.data .yc y1) (.pr (.mref 1) .un))))),.map .ye .ya y2,.nest .yl y3 0 0 none])) x:=by kernel_rfl
theorem l55v1B_8 (N:Nat) (r55v1:Yd->Ye->Yl->Yg->Yn->Option (Yab)):z0r (zdo N r55v1) (z04 8 (z00 zck)):=
 z0i (zti N r55v1) (by kernel_rfl) (by kernel_rfl) (by kernel_rfl) fun R k d=>
  z0g (st:=fun (x:Int×Yn×Ye×List Ya×Yg)=>([(47,(.data .ya x.1)),(2,(.nv false 0 [] 0)),(0,(.bptr 1 [])),(8,(.data .ya d.1.2.2.2.1)),(4,(.bptr 3 [])),(45,(.ref 4 [] 0)),(46,(.data .ya d.1.2.2.2.2.2.2.1))],[.nest .yl x.2.1 0 0 none,.cell (.tup (.agg (.pr (.data .yg x.2.2.1) (.pr (.data .yc x.2.2.2.1) (.pr (.mref 2) .un))))),.map .ye .ya x.2.2.2.2,.cell (.data .ye d.2.2.2.2.1),.row .ya d.2.2.2.2.2.1 0])) (zza N r55v1 k d.1.2.2.2.1 d.1.2.2.2.2.2.2.1 d.2.2.2.2.1 d.2.2.2.2.2.1) N (d.1.1,d.2.1,d.2.2.1.1,d.2.2.1.2.1,d.2.2.2.1)
theorem e55v1B (N:Nat) (r55v1:Yd->Ye->Yl->Yg->Yn->Option (Yab)) (t1:Yd) (o0:Ye) (o0':List Ya) (o1:List Yf) (o2:List Yk):zch (zdo N r55v1) zxd zck (St.of [(0,(.bptr 0 [])),(1,(.data .ye t1)),(2,(.nv false 2 [] 0))] [.cell (.tup (.agg (.pr (.data .yg o0) (.pr (.data .yc o0') (.pr (.mref 1) .un))))),.map .ye .ya o1,.nest .yl o2 0 0 none])=zo2 N r55v1 t1 o0 o0' o1 o2:=by kernel_rfl
theorem k55v1B (N:Nat) (r55v1:Yd->Ye->Yl->Yg->Yn->Option (Yab)) (h55v1:z03 Go.Proofs.Try.prog 55 (.mut ⟨[(0,(.bptr 0 [])),(1,(.val .ye)),(2,(.nv 2))],[.con (.agg (.pr (.val .yg) (.pr (.val .yc) (.pr (.mref 1) .un)))),.map .ye .ya,.nest .yl]⟩ [0] ⟨[(0,(.bptr 0 [])),(6,(.nv 2))],[.con (.agg (.pr (.val .yg) (.pr (.val .yc) (.pr (.mref 1) .un)))),.map .ye .ya,.nest .yl]⟩ fun d=>r55v1 d.1.2.1 d.2.1.1 d.2.1.2.1 d.2.2.1 d.2.2.2.1)):z03 Go.Proofs.Try.prog 55 (c55v1B N r55v1):=
 z35 (fn:=Go.Proofs.Try.f55) (body:=zck) (c:=zdo N r55v1) (rs:=[6]) Go.Proofs.Try.func55 (by kernel_rfl) (by kernel_rfl) ⟨ttL_ok,z0n,z0p,z0q,z0o,z02 (z01 (k82 N (f53 N) (k53 N))) (z02 (z01 (k53 N)) (z02 (z01 (k76 N)) (z02 (z01 (k83 N)) (z02 (z01 (k54 N)) (z02 (z01 (h55v1)) (z0e))))))⟩ mixed (by kernel_rfl) (zL (by kernel_rfl)) (by kernel_rfl) (by kernel_rfl) (by kernel_rfl) (z3q (by kernel_rfl))
  (z0b (by kernel_rfl:z00 zck=[z04 2 (z00 zck),z04 8 (z00 zck)]) (.cons (l55v1B_2 N r55v1) (.cons (l55v1B_8 N r55v1) .nil))) fun d=>e55v1B N r55v1 d.1.2.1 d.2.1.1 d.2.1.2.1 d.2.2.1 d.2.2.2.1
def zjk (N:Nat) (M:Nat):Yd->Ye->Yl->Yg->Yn->Option (Yab):=Nat.rec (motive:=fun _=>Yd->Ye->Yl->Yg->Yn->Option (Yab)) (fun _ _ _ _ _=>none) (fun _ r=>zo2 N r) M
def f55v1 (N:Nat) (a0:Yd) (a1:Ye) (a2:List Ya) (a3:List Yf) (a4:List Yk):Option (Yab):=zjk N N a0 a1 a2 a3 a4
def c55v1 (N:Nat):Callee:=(.mut ⟨[(0,(.bptr 0 [])),(1,(.val .ye)),(2,(.nv 2))],[.con (.agg (.pr (.val .yg) (.pr (.val .yc) (.pr (.mref 1) .un)))),.map .ye .ya,.nest .yl]⟩ [0] ⟨[(0,(.bptr 0 [])),(6,(.nv 2))],[.con (.agg (.pr (.val .yg) (.pr (.val .yc) (.pr (.mref 1) .un)))),.map .ye .ya,.nest .yl]⟩ fun d=>f55v1 N d.1.2.1 d.2.1.1 d.2.1.2.1 d.2.2.1 d.2.2.2.1)
theorem k55v1 (N:Nat):z03 Go.Proofs.Try.prog 55 (c55v1 N):=
 have h:∀ M:Nat,z03 Go.Proofs.Try.prog 55 (.mut ⟨[(0,(.bptr 0 [])),(1,(.val .ye)),(2,(.nv 2))],[.con (.agg (.pr (.val .yg) (.pr (.val .yc) (.pr (.mref 1) .un)))),.map .ye .ya,.nest .yl]⟩ [0] ⟨[(0,(.bptr 0 [])),(6,(.nv 2))],[.con (.agg (.pr (.val .yg) (.pr (.val .yc) (.pr (.mref 1) .un)))),.map .ye .ya,.nest .yl]⟩ fun d=>zjk N M d.1.2.1 d.2.1.1 d.2.1.2.1 d.2.2.1 d.2.2.2.1):=fun M=>Nat.rec (motive:=fun M=>z03 Go.Proofs.Try.prog 55 (.mut ⟨[(0,(.bptr 0 [])),(1,(.val .ye)),(2,(.nv 2))],[.con (.agg (.pr (.val .yg) (.pr (.val .yc) (.pr (.mref 1) .un)))),.map .ye .ya,.nest .yl]⟩ [0] ⟨[(0,(.bptr 0 [])),(6,(.nv 2))],[.con (.agg (.pr (.val .yg) (.pr (.val .yc) (.pr (.mref 1) .un)))),.map .ye .ya,.nest .yl]⟩ fun d=>zjk N M d.1.2.1 d.2.1.1 d.2.1.2.1 d.2.2.1 d.2.2.2.1)) (z4i fun _=>rfl) (fun M ih=>k55v1B N _ ih) M
 h N
def zo4 {R:Type} (N:Nat) (o2:Yd) (kb:Int×Ye×List Ya×Yg->Option R) (kx0:Int->Ye->Yl->Yg->Option R):Int×Ye×List Ya×Yg->Option R:=
 fun (t7,o0_1,o0'_1,o1_1)=>
  z4z [(f82 N (f53 N) o2 t7 o0_1 o0'_1 o1_1).bind fun r=>
   (f53 N o2 r.2.1.1 r.2.1.2.1 r.2.2.1).bind fun r_1=>
   cond (!(decide (r.1.2.1=r_1.1.2.1)))
    (kb ((z0l (t7+1)),r_1.2.1.1,r_1.2.1.2.1,r_1.2.2.1))
    (kx0 t7 r_1.2.1.1 r_1.2.1.2.1 r_1.2.2.1),
   (f82 N (f53 N) o2 t7 o0_1 o0'_1 o1_1).bind fun r_2=>
   (f53 N o2 r_2.2.1.1 r_2.2.1.2.1 r_2.2.2.1).bind fun r_3=>
   cond (!(decide (r_2.1.2.1=r_3.1.2.1)))
    (kb ((z0l (t7+1)),r_3.2.1.1,r_3.2.1.2.1,r_3.2.2.1))
    (kx0 t7 r_3.2.1.1 r_3.2.1.2.1 r_3.2.2.1)]
def zo3 {R:Type} (N:Nat) (t8:Int) (t46:Int) (o3:Yd) (o4:List Int) (kb:Int×Yn×Ye×List Ya×Yg->Option R) (kx2:Ye->Yl->Yg->Yn->Option R):Int×Yn×Ye×List Ya×Yg->Option R:=
 fun (t47,o0_3,o1_3,o1',o2_1)=>
  cond (decide (t47 < t46))
   (chk (inb o4 t47) <|
   (idx o4 t47).bind fun x_1=>
   cond (decide (x_1=0))
    (kb ((z0l (t47+1)),o0_3,o1_3,o1',o2_1))
    ((f54 N (x_1,((z0l (o3.2.1-1)),())) o1_3 o1' o2_1).bind fun r_6=>
    cond r_6.1.2.1
     (kb ((z0l (t47+1)),o0_3,r_6.2.1.1,r_6.2.1.2.1,r_6.2.2.1))
     (chk (inb o0_3 t8) <|
     (idx o0_3 t8).bind fun x_2=>
     (idx o0_3 t8).bind fun x_3=>
     (idx o0_3 t8).bind fun x_4=>
     chk (inb x_4.2.1 t47) <|
     (idx o0_3 t8).bind fun x_5=>
     (idx x_5.2.1 t47).bind fun x_6=>
     (idx x_5.2.1 t47).bind fun x_7=>
     (idx o0_3 t8).bind fun x_8=>
     (f55v1 N (x_1,((z0l (o3.2.1-1)),())) r_6.2.1.1 r_6.2.1.2.1 r_6.2.2.1 (zcx o0_3 t8 (x_8.1,((zcx x_5.2.1 t47 (len o0_3)),x_8.2.2)))).bind fun r_7=>
     kb ((z0l (t47+1)),r_7.2.2.2.1,r_7.2.1.1,r_7.2.1.2.1,r_7.2.2.1))))
   (kx2 o1_3 o1' o2_1 o0_3)
def f55 (N:Nat) (t1:Yd) (o0:Ye) (o0':List Ya) (o1:List Yf):Option (Yab):=
 iter (fun w=>zo4 N t1 w
  (fun t7_1 o0_2 o0'_2 o1_2=>
   (idx o0_2.2.1 t7_1).bind fun x=>
   (f76 N x t1.1).bind fun r_4=>
   (f83 N ((-1) :: ([]:List Int)) (len r_4)).bind fun r_5=>
   iter (fun w=>zo3 N 0 (len r_4) t1 r_4 w
    (fun o0_4 o0'_3 o1_4 o2_2=>
     some (((),((),())),((o0_4,(o0'_3,((),()))),(o1_4,(o2_2,())))))) N (0,((t7_1,(r_5,())) :: ([]:List Yk)),o0_2,o0'_2,o1_2))) N (0,o0,o0',o1)
def fi55:SForm:=⟨[(0,(.bptr 0 [])),(1,(.val .ye)),(2,.nilS)],[.con (.agg (.pr (.val .yg) (.pr (.val .yc) (.pr (.mref 1) .un)))),.map .ye .ya]⟩
def fo55:SForm:=⟨[(0,(.bptr 0 [])),(6,(.nv 2))],[.con (.agg (.pr (.val .yg) (.pr (.val .yc) (.pr (.mref 1) .un)))),.map .ye .ya,.nest .yl]⟩
def c55 (N:Nat):Callee:=.mut fi55 [0] fo55 fun d=>f55 N d.1.2.1 d.2.1.1 d.2.1.2.1 d.2.2.1
def F55_2:SForm:=⟨[(7,(.val .ya)),(0,(.bptr 0 [])),(4,(.bptr 2 [])),(2,.nilS)],[.con (.agg (.pr (.val .yg) (.pr (.val .yc) (.pr (.mref 1) .un)))),.map .ye .ya,.cell (.val .ye)]⟩
def G55_2 (N:Nat):(R:Type)->F55_2.den->(AExit->St->Option R)->Option R:=fun R d k=>iter (fun kb=>zo4 N d.2.2.2.1 kb
  (fun y0 y1 y2 y3=>k (.exit 0) (St.of [(0,(.bptr 0 [])),(4,(.bptr 2 [])),(7,(.data .ya y0)),(2,.nilS)] [.cell (.tup (.agg (.pr (.data .yg y1) (.pr (.data .yc y2) (.pr (.mref 1) .un))))),.map .ye .ya y3,.cell (.data .ye d.2.2.2.1)]))) N (d.1.1,d.2.1.1,d.2.1.2.1,d.2.2.1)
def F55_8:SForm:=⟨[(47,(.val .ya)),(2,(.nv 0)),(0,(.bptr 1 [])),(8,(.val .ya)),(4,(.bptr 3 [])),(45,(.ref 4)),(46,(.val .ya))],[.nest .yl,.con (.agg (.pr (.val .yg) (.pr (.val .yc) (.pr (.mref 2) .un)))),.map .ye .ya,.cell (.val .ye),.row .ya]⟩
def G55_8 (N:Nat):(R:Type)->F55_8.den->(AExit->St->Option R)->Option R:=fun R d k=>iter (fun kb=>zo3 N d.1.2.2.2.1 d.1.2.2.2.2.2.2.1 d.2.2.2.2.1 d.2.2.2.2.2.1 kb
  (fun y0 y1 y2 y3=>k (.exit 2) (St.of [(0,(.bptr 0 [])),(2,(.nv false 2 [] 0))] [.cell (.tup (.agg (.pr (.data .yg y0) (.pr (.data .yc y1) (.pr (.mref 1) .un))))),.map .ye .ya y2,.nest .yl y3 0 0 none]))) N (d.1.1,d.2.1,d.2.2.1.1,d.2.2.1.2.1,d.2.2.2.1)
def lp55 (N:Nat):Nat->Option z0m:=fun r=>cond (Nat.beq r 2) (some fun R sl os k=>F55_2.take sl os fun d=>G55_2 N R d k) (cond (Nat.beq r 8) (some fun R sl os k=>F55_8.take sl os fun d=>G55_8 N R d k) (none))
def x55 (N:Nat):Ctx:=(mkX N 79 [(82,[c82 N (f53 N)]),(53,[c53 N]),(76,[c76 N]),(83,[c83 N]),(54,[c54 N]),(55,[c55v1 N])] [(2,⟨[7,0,4,2],[]⟩),(8,⟨[47,2,0,8,4,45,46],[]⟩)] [(2,[(0,⟨[0,4,7,2],[]⟩)]),(8,[(2,⟨[0,2],[]⟩)])] ⟨[0,6],[]⟩ (z1v [(43,(.sl true .yl))]) (lp55 N))
noncomputable def b55:Code:=((Go.Proofs.Try.f55).body).getD .skip
theorem s55_2 (N:Nat) {R:Type} (k:AExit->St->Option R) (o2:Yd) (kb:List Yp->List Obj->Option R) (x:Int×Ye×List Ya×Yg):z0z (x55 N) (z04 2 (z00 b55)) (St.of [(7,(.data .ya x.1)),(0,(.bptr 0 [])),(4,(.bptr 2 [])),(2,.nilS)] [.cell (.tup (.agg (.pr (.data .yg x.2.1) (.pr (.data .yc x.2.2.1) (.pr (.mref 1) .un))))),.map .ye .ya x.2.2.2,.cell (.data .ye o2)]) (z1q (x55 N) 2 ⟨[7,0,4,2],[]⟩ kb k)=zo4 N o2 (fun y=>kb [(7,(.data .ya y.1)),(0,(.bptr 0 [])),(4,(.bptr 2 [])),(2,.nilS)] [.cell (.tup (.agg (.pr (.data .yg y.2.1) (.pr (.data .yc y.2.2.1) (.pr (.mref 1) .un))))),.map .ye .ya y.2.2.2,.cell (.data .ye o2)])
  (fun y0 y1 y2 y3=>k (.exit 0) (St.of [(0,(.bptr 0 [])),(4,(.bptr 2 [])),(7,(.data .ya y0)),(2,.nilS)] [.cell (.tup (.agg (.pr (.data .yg y1) (.pr (.data .yc y2) (.pr (.mref 1) .un))))),.map .ye .ya y3,.cell (.data .ye o2)])) x:=by kernel_rfl
theorem l55_2 (N:Nat):z0r (x55 N) (z04 2 (z00 b55)):=
 z0i (G55_2 N) (by kernel_rfl) (by kernel_rfl) (by kernel_rfl) fun R k d=>
  z0g (st:=fun (x:Int×Ye×List Ya×Yg)=>([(7,(.data .ya x.1)),(0,(.bptr 0 [])),(4,(.bptr 2 [])),(2,.nilS)],[.cell (.tup (.agg (.pr (.data .yg x.2.1) (.pr (.data .yc x.2.2.1) (.pr (.mref 1) .un))))),.map .ye .ya x.2.2.2,.cell (.data .ye d.2.2.2.1)])) (s55_2 N k d.2.2.2.1) N (d.1.1,d.2.1.1,d.2.1.2.1,d.2.2.1)
theorem s55_8 (N:Nat) {R:Type} (k:AExit->St->Option R) (t8:Int) (t46:Int) (o3:Yd) (o4:List Int) (kb:List Yp->List Obj->Option R) (x:Int×Yn×Ye×List Ya×Yg):z0z (x55 N) (z04 8 (z00 b55)) (St.of [(47,(.data .ya x.1)),(2,(.nv false 0 [] 0)),(0,(.bptr 1 [])),(8,(.data .ya t8)),(4,(.bptr 3 [])),(45,(.ref 4 [] 0)),(46,(.data .ya t46))] [.nest .yl x.2.1 0 0 none,.cell (.tup (.agg (.pr (.data .yg x.2.2.1) (.pr (.data .yc x.2.2.2.1) (.pr (.mref 2) .un))))),.map .ye .ya x.2.2.2.2,.cell (.data .ye o3),.row .ya o4 0]) (z1q (x55 N) 8 ⟨[47,2,0,8,4,45,46],[]⟩ kb k)=zo3 N t8 t46 o3 o4 (fun y=>kb [(47,(.data .ya y.1)),(2,(.nv false 0 [] 0)),(0,(.bptr 1 [])),(8,(.data .ya t8)),(4,(.bptr 3 [])),(45,(.ref 4 [] 0)),(46,(.data .ya t46))] [.nest .yl y.2.1 0 0 none,.cell (.tup (.agg (.pr (.data .yg y.2.2.1) (.pr (.data .yc y.2.2.2.1) (.pr (.mref 2) .un))))),.map .ye .ya y.2.2.2.2,.cell (.data .ye o3),.row .ya o4 0])
  (fun y0 y1 y2 y3=>k (.exit 2) (St.of [(0,(.bptr 0 [])),(2,(.nv false 2 [] 0))] [.cell (.tup (.agg (.pr (.data .yg y0) (.pr (.data .yc y1) (.pr (.mref 1) .un))))),.map .ye .ya y2,.nest .yl y3 0 0 none])) x:=by kernel_rfl
theorem l55_8 (N:Nat):z0r (x55 N) (z04 8 (z00 b55)):=
 z0i (G55_8 N) (by kernel_rfl) (by kernel_rfl) (by kernel_rfl) fun R k d=>
  z0g (st:=fun (x:Int×Yn×Ye×List Ya×Yg)=>([(47,(.data .ya x.1)),(2,(.nv false 0 [] 0)),(0,(.bptr 1 [])),(8,(.data .ya d.1.2.2.2.1)),(4,(.bptr 3 [])),(45,(.ref 4 [] 0)),(46,(.data .ya d.1.2.2.2.2.2.2.1))],[.nest .yl x.2.1 0 0 none,.cell (.tup (.agg (.pr (.data .yg x.2.2.1) (.pr (.data .yc x.2.2.2.1) (.pr (.mref 2) .un))))),.map .ye .ya x.2.2.2.2,.cell (.data .ye d.2.2.2.2.1),.row .ya d.2.2.2.2.2.1 0])) (s55_8 N k d.1.2.2.2.1 d.1.2.2.2.2.2.2.1 d.2.2.2.2.1 d.2.2.2.2.2.1) N (d.1.1,d.2.1,d.2.2.1.1,d.2.2.1.2.1,d.2.2.2.1)
theorem e55 (N:Nat) (t1:Yd) (o0:Ye) (o0':List Ya) (o1:List Yf):zch (x55 N) fo55 b55 (St.of [(0,(.bptr 0 [])),(1,(.data .ye t1)),(2,.nilS)] [.cell (.tup (.agg (.pr (.data .yg o0) (.pr (.data .yc o0') (.pr (.mref 1) .un))))),.map .ye .ya o1])=f55 N t1 o0 o0' o1:=by kernel_rfl
theorem k55 (N:Nat):z03 Go.Proofs.Try.prog 55 (c55 N):=
 z35 (fn:=Go.Proofs.Try.f55) (body:=b55) (c:=x55 N) (rs:=[6]) Go.Proofs.Try.func55 (by kernel_rfl) (by kernel_rfl) ⟨ttL_ok,z0n,z0p,z0q,z0o,z02 (z01 (k82 N (f53 N) (k53 N))) (z02 (z01 (k53 N)) (z02 (z01 (k76 N)) (z02 (z01 (k83 N)) (z02 (z01 (k54 N)) (z02 (z01 (k55v1 N)) (z0e))))))⟩ mixed (by kernel_rfl) (zL (by kernel_rfl)) (by kernel_rfl) (by kernel_rfl) (by kernel_rfl) (z3q (by kernel_rfl))
  (z0b (by kernel_rfl:z00 b55=[z04 2 (z00 b55),z04 8 (z00 b55)]) (.cons (l55_2 N) (.cons (l55_8 N) .nil))) fun d=>e55 N d.1.2.1 d.2.1.1 d.2.1.2.1 d.2.2.1
def f92 (N:Nat) (a0:Int):Option (Bool):=
 some (!(decide (a0=a0)))
def c92 (N:Nat):Callee:=.pure (.pr (.val .ya) .un) [.bool] fun d=>f92 N d.1
def lp92 (N:Nat):Nat->Option z0m:=fun r=>none
def x92 (N:Nat):Ctx:=(mkX N 6 [] [] [] ⟨[2],[]⟩ (fun _=>none) (lp92 N))
noncomputable def b92:Code:=((Go.Proofs.Try.f92).body).getD .skip
theorem e92 (N:Nat) (a0:Int):z1y (x92 N) [.bool] [.tmp 2] b92 (entry (.pr (.val .ya) .un) (a0,()))=f92 N a0:=by kernel_rfl
theorem k92 (N:Nat):z03 Go.Proofs.Try.prog 92 (c92 N):=
 z23 (fn:=Go.Proofs.Try.f92) (body:=b92) (c:=x92 N) Go.Proofs.Try.func92 (by kernel_rfl) (by kernel_rfl) ⟨ttL_ok,z0n,z0p,z0q,z0o,z0e⟩ mixed (by kernel_rfl) (zL (by kernel_rfl)) (by kernel_rfl) (by decide)
  (z0b (by kernel_rfl:z00 b92=[]) .nil) fun d=>e92 N d.1
def f75 (N:Nat) (a0:Int) (a1:Int):Option (Int):=
 (f92 N a0).bind fun r=>
 (f92 N a1).bind fun r_1=>
 cond r
  (cond r_1
   (some 0)
   (some (-1)))
  (cond r_1
   (some 1)
   (cond (decide (a0 < a1))
    (some (-1))
    (cond (decide (a1 < a0))
     (some 1)
     (some 0))))
def c75 (N:Nat):Callee:=.pure (.pr (.val .ya) (.pr (.val .ya) .un)) [.ya] fun d=>f75 N d.1 d.2.1
def lp75 (N:Nat):Nat->Option z0m:=fun r=>none
def x75 (N:Nat):Ctx:=(mkX N 20 [(92,[c92 N])] [] [] ⟨[4],[]⟩ (fun _=>none) (lp75 N))
noncomputable def b75:Code:=((Go.Proofs.Try.f75).body).getD .skip
theorem e75 (N:Nat) (a0:Int) (a1:Int):z1y (x75 N) [.ya] [.tmp 4] b75 (entry (.pr (.val .ya) (.pr (.val .ya) .un)) (a0,(a1,())))=f75 N a0 a1:=by kernel_rfl
theorem k75 (N:Nat):z03 Go.Proofs.Try.prog 75 (c75 N):=
 z23 (fn:=Go.Proofs.Try.f75) (body:=b75) (c:=x75 N) Go.Proofs.Try.func75 (by kernel_rfl) (by kernel_rfl) ⟨ttL_ok,z0n,z0p,z0q,z0o,z02 (z01 (k92 N)) (z0e)⟩ mixed (by kernel_rfl) (zL (by kernel_rfl)) (by kernel_rfl) (by decide)
  (z0b (by kernel_rfl:z00 b75=[]) .nil) fun d=>e75 N d.1 d.2.1
def zjh {R:Type} (N:Nat) (t3:Int) (t6:List Int) (t7:Int) (kb:Int->Option R) (kret:Int->Option R) (kx0:Unit->Option R):Int->Option R:=
 fun t8=>
  cond (decide (t8 < t7))
   ((idx t6 t8).bind fun x=>
   cond (!(decide (x=t3)))
    (kret x)
    (kb (z0l (t8+1))))
   (kx0 ())
def f74 (N:Nat) (a0:List Int):Option (Int):=
 iter (fun w=>zjh N 0 a0 (len a0) w
  (fun t2=>
   some t2)
  (fun (_:Unit)=>
   some 0)) N 0
def c74 (N:Nat):Callee:=.pure (.pr (.val .yb) .un) [.ya] fun d=>f74 N d.1
def F74_3:SForm:=⟨[(8,(.val .ya)),(3,(.val .ya)),(6,(.val .yb)),(7,(.val .ya))],[]⟩
def G74_3 (N:Nat):(R:Type)->F74_3.den->(AExit->St->Option R)->Option R:=fun R d k=>iter (fun kb=>zjh N d.1.2.1 d.1.2.2.1 d.1.2.2.2.1 kb
  (fun y0=>k .ret (St.of [(2,(.data .ya y0))] []))
  (fun _=>k (.exit 0) (St.of [(3,(.data .ya d.1.2.1))] []))) N d.1.1
def lp74 (N:Nat):Nat->Option z0m:=fun r=>cond (Nat.beq r 3) (some fun R sl os k=>F74_3.take sl os fun d=>G74_3 N R d k) (none)
def x74 (N:Nat):Ctx:=(mkX N 18 [] [(3,⟨[8,3,6,7],[]⟩)] [(3,[(0,⟨[3],[]⟩)])] ⟨[2],[]⟩ (fun _=>none) (lp74 N))
noncomputable def b74:Code:=((Go.Proofs.Try.f74).body).getD .skip
theorem s74_3 (N:Nat) {R:Type} (k:AExit->St->Option R) (t3:Int) (t6:List Int) (t7:Int) (kb:List Yp->List Obj->Option R) (x:Int):z0z (x74 N) (z04 3 (z00 b74)) (St.of [(8,(.data .ya x)),(3,(.data .ya t3)),(6,(.data .yb t6)),(7,(.data .ya t7))] []) (z1q (x74 N) 3 ⟨[8,3,6,7],[]⟩ kb k)=zjh N t3 t6 t7 (fun y=>kb [(8,(.data .ya y)),(3,(.data .ya t3)),(6,(.data .yb t6)),(7,(.data .ya t7))] [])
  (fun y0=>k .ret (St.of [(2,(.data .ya y0))] []))
  (fun _=>k (.exit 0) (St.of [(3,(.data .ya t3))] [])) x:=by kernel_rfl
theorem l74_3 (N:Nat):z0r (x74 N) (z04 3 (z00 b74)):=
 z0i (G74_3 N) (by kernel_rfl) (by kernel_rfl) (by kernel_rfl) fun R k d=>
  z0g (st:=fun (x:Int)=>([(8,(.data .ya x)),(3,(.data .ya d.1.2.1)),(6,(.data .yb d.1.2.2.1)),(7,(.data .ya d.1.2.2.2.1))],[])) (s74_3 N k d.1.2.1 d.1.2.2.1 d.1.2.2.2.1) N d.1.1
theorem e74 (N:Nat) (a0:List Int):z1y (x74 N) [.ya] [.tmp 2] b74 (entry (.pr (.val .yb) .un) (a0,()))=f74 N a0:=by kernel_rfl
theorem k74 (N:Nat):z03 Go.Proofs.Try.prog 74 (c74 N):=
 z23 (fn:=Go.Proofs.Try.f74) (body:=b74) (c:=x74 N) Go.Proofs.Try.func74 (by kernel_rfl) (by kernel_rfl) ⟨ttL_ok,z0n,z0p,z0q,z0o,z0e⟩ mixed (by kernel_rfl) (zL (by kernel_rfl)) (by kernel_rfl) (by decide)
  (z0b (by kernel_rfl:z00 b74=[z04 3 (z00 b74)]) (.cons (l74_3 N) .nil)) fun d=>e74 N d.1
def f34 (N:Nat) (a0:Yr) (a1:Yr):Option (Int):=
 (f75 N a1.2.1 a0.2.1).bind fun r=>
 (f75 N a0.1 a1.1).bind fun r_1=>
 (f74 N (r :: (r_1 :: ([]:List Int)))).bind fun r_2=>
 some r_2
def c34 (N:Nat):Callee:=.pure (.pr (.val .yh) (.pr (.val .yh) .un)) [.ya] fun d=>f34 N d.1 d.2.1
def lp34 (N:Nat):Nat->Option z0m:=fun r=>none
def x34 (N:Nat):Ctx:=(mkX N 17 [(75,[c75 N]),(74,[c74 N])] [] [] ⟨[4],[]⟩ (fun _=>none) (lp34 N))
noncomputable def b34:Code:=((Go.Proofs.Try.f34).body).getD .skip
theorem e34 (N:Nat) (a0:Yr) (a1:Yr):z1y (x34 N) [.ya] [.tmp 4] b34 (entry (.pr (.val .yh) (.pr (.val .yh) .un)) (a0,(a1,())))=f34 N a0 a1:=by kernel_rfl
theorem k34 (N:Nat):z03 Go.Proofs.Try.prog 34 (c34 N):=
 z23 (fn:=Go.Proofs.Try.f34) (body:=b34) (c:=x34 N) Go.Proofs.Try.func34 (by kernel_rfl) (by kernel_rfl) ⟨ttL_ok,z0n,z0p,z0q,z0o,z02 (z01 (k75 N)) (z02 (z01 (k74 N)) (z0e))⟩ mixed (by kernel_rfl) (zL (by kernel_rfl)) (by kernel_rfl) (by decide)
  (z0b (by kernel_rfl:z00 b34=[]) .nil) fun d=>e34 N d.1 d.2.1
def f60 (N:Nat) (a1:Unit) (o0:List Yr):Option (Yi×(Yai×Unit)):=(zpz .yh (fun x y=>f34 N x y) o0).map fun l=>(((),()),(l,()))
def c60 (N:Nat):Callee:=.mut ⟨[(0,.ref 0),(1,.val (.fn 34 .unit))],[.row .yh]⟩ [0] ⟨[(0,.ref 0)],[.row .yh]⟩ fun d=>f60 N d.1.2.1 d.2.1
theorem k60 (N:Nat):z03 Go.Proofs.Try.prog 60 (c60 N):=
 zds Go.Proofs.Try.sortL60 (t:=.yh) (by kernel_rfl) (by kernel_rfl) (fun w=>Go.Proofs.Try.isAgg55 w) (fun w=>Go.Proofs.Try.sizeOf55 w) (Go.Proofs.enters_of Go.Proofs.Try.func34 (by kernel_rfl) rfl) (k34 N)
def zjj {R:Type} (N:Nat) (o3':Int) (kb:Ye×List Ya×Yg×Yai×List Int×Int->Option R) (kx0:Ye->Yl->Yg->Yai->Option R):Ye×List Ya×Yg×Yai×List Int×Int->Option R:=
 fun (o0_1,o0'_1,o1_1,o2,o3'',o3''')=>
  chk (decide (o3'=(len o1_1))) <|
  ze1 o3'' (kx0 o0_1 o0'_1 o1_1 o2) fun j rest=>
  (idx o1_1 j).bind fun x=>
  chk (decide (o3'=(len o1_1))) <|
  (idx o1_1 j).bind fun x_1=>
  z4z [z4z [(f53 N x_1.1 o0_1 o0'_1 o1_1).bind fun r=>
    chk (decide ((Nat.succ (List.length o2))≤z3e)) <|
    kb (r.2.1.1,r.2.1.2.1,r.2.2.1,(o2++((x_1.1.1,(x_1.1.2.1,(r.1.2.1,()))) :: ([]:List Yr))),rest,j),
    (f53 N x_1.1 o0_1 o0'_1 o1_1).bind fun r_1=>
    chk (decide ((Nat.succ (List.length o2))≤z3e)) <|
    kb (r_1.2.1.1,r_1.2.1.2.1,r_1.2.2.1,(o2++((x_1.1.1,(x_1.1.2.1,(r_1.1.2.1,()))) :: ([]:List Yr))),rest,j)],
   z4z [(f53 N x_1.1 o0_1 o0'_1 o1_1).bind fun r_2=>
    chk (decide ((Nat.succ (List.length o2))≤z3e)) <|
    kb (r_2.2.1.1,r_2.2.1.2.1,r_2.2.2.1,(o2++((x_1.1.1,(x_1.1.2.1,(r_2.1.2.1,()))) :: ([]:List Yr))),rest,j),
    (f53 N x_1.1 o0_1 o0'_1 o1_1).bind fun r_3=>
    chk (decide ((Nat.succ (List.length o2))≤z3e)) <|
    kb (r_3.2.1.1,r_3.2.1.2.1,r_3.2.2.1,(o2++((x_1.1.1,(x_1.1.2.1,(r_3.1.2.1,()))) :: ([]:List Yr))),rest,j)],
   (f53 N x_1.1 o0_1 o0'_1 o1_1).bind fun r_4=>
   chk (decide ((Nat.succ (List.length o2))≤z3e)) <|
   kb (r_4.2.1.1,r_4.2.1.2.1,r_4.2.2.1,(o2++((x_1.1.1,(x_1.1.2.1,(r_4.1.2.1,()))) :: ([]:List Yr))),rest,j)]
def f56 (N:Nat) (o0:Ye) (o0':List Ya) (o1:List Yf):Option ((Yq×(Ym×(Yg×(Yai×Unit))))):=
 iter (fun w=>zjj N (len o1) w
  (fun o0_2 o0'_2 o1_2 o2_1=>
   (f60 N () o2_1).bind fun r_5=>
   some (((),((),())),((o0_2,(o0'_2,((),()))),(o1_2,(r_5.2.1,())))))) N (o0,o0',o1,([]:List Yr),(zm6 (List.length o1)),(-1))
def fi56:SForm:=⟨[(0,(.bptr 0 []))],[.con (.agg (.pr (.val .yg) (.pr (.val .yc) (.pr (.mref 1) .un)))),.map .ye .ya]⟩
def fo56:SForm:=⟨[(0,(.bptr 0 [])),(2,(.ref 2))],[.con (.agg (.pr (.val .yg) (.pr (.val .yc) (.pr (.mref 1) .un)))),.map .ye .ya,.row .yh]⟩
def c56 (N:Nat):Callee:=.mut fi56 [0] fo56 fun d=>f56 N d.2.1.1 d.2.1.2.1 d.2.2.1
def F56_3:SForm:=⟨[(0,(.bptr 0 [])),(3,(.ref 2)),(9,(.bptr 3 []))],[.con (.agg (.pr (.val .yg) (.pr (.val .yc) (.pr (.mref 1) .un)))),.map .ye .ya,.row .yh,.iter 1]⟩
def G56_3 (N:Nat):(R:Type)->F56_3.den->(AExit->St->Option R)->Option R:=fun R d k=>iter (fun kb=>zjj N d.2.2.2.2.1.1 kb
  (fun y0 y1 y2 y3=>k (.exit 0) (St.of [(0,(.bptr 0 [])),(3,(.ref 2 [] 0))] [.cell (.tup (.agg (.pr (.data .yg y0) (.pr (.data .yc y1) (.pr (.mref 1) .un))))),.map .ye .ya y2,.row .yh y3 0]))) N (d.2.1.1,d.2.1.2.1,d.2.2.1,d.2.2.2.1,d.2.2.2.2.1.2.1,d.2.2.2.2.1.2.2)
def lp56 (N:Nat):Nat->Option z0m:=fun r=>cond (Nat.beq r 3) (some fun R sl os k=>F56_3.take sl os fun d=>G56_3 N R d k) (none)
def x56 (N:Nat):Ctx:=(mkX N 28 [(53,[c53 N]),(60,[c60 N])] [(3,⟨[0,3,9],[(3,none,.row .yh)]⟩)] [(3,[(0,⟨[0,3],[]⟩)])] ⟨[0,2],[]⟩ (fun _=>none) (lp56 N))
noncomputable def b56:Code:=((Go.Proofs.Try.f56).body).getD .skip
theorem s56_3 (N:Nat) {R:Type} (k:AExit->St->Option R) (o3':Int) (kb:List Yp->List Obj->Option R) (x:Ye×List Ya×Yg×Yai×List Int×Int):z0z (x56 N) (z04 3 (z00 b56)) (St.of [(0,(.bptr 0 [])),(3,(.ref 2 [] 0)),(9,(.bptr 3 []))] [.cell (.tup (.agg (.pr (.data .yg x.1) (.pr (.data .yc x.2.1) (.pr (.mref 1) .un))))),.map .ye .ya x.2.2.1,.row .yh x.2.2.2.1 0,.cell (.tup (.pr (.mref 1) (.pr (.data .ya o3') (.pr (.data .yb x.2.2.2.2.1) (.pr (.data .ya x.2.2.2.2.2) .un)))))]) (z1q (x56 N) 3 ⟨[0,3,9],[(3,none,.row .yh)]⟩ kb k)=zjj N o3' (fun y=>kb [(0,(.bptr 0 [])),(3,(.ref 2 [] 0)),(9,(.bptr 3 []))] [.cell (.tup (.agg (.pr (.data .yg y.1) (.pr (.data .yc y.2.1) (.pr (.mref 1) .un))))),.map .ye .ya y.2.2.1,.row .yh y.2.2.2.1 0,.cell (.tup (.pr (.mref 1) (.pr (.data .ya o3') (.pr (.data .yb y.2.2.2.2.1) (.pr (.data .ya y.2.2.2.2.2) .un)))))])
  (fun y0 y1 y2 y3=>k (.exit 0) (St.of [(0,(.bptr 0 [])),(3,(.ref 2 [] 0))] [.cell (.tup (.agg (.pr (.data .yg y0) (.pr (.data .yc y1) (.pr (.mref 1) .un))))),.map .ye .ya y2,.row .yh y3 0])) x:=by kernel_rfl
theorem l56_3 (N:Nat):z0r (x56 N) (z04 3 (z00 b56)):=
 z0i (G56_3 N) (by kernel_rfl) (by kernel_rfl) (by kernel_rfl) fun R k d=>
  z0g (st:=fun (x:Ye×List Ya×Yg×Yai×List Int×Int)=>([(0,(.bptr 0 [])),(3,(.ref 2 [] 0)),(9,(.bptr 3 []))],[.cell (.tup (.agg (.pr (.data .yg x.1) (.pr (.data .yc x.2.1) (.pr (.mref 1) .un))))),.map .ye .ya x.2.2.1,.row .yh x.2.2.2.1 0,.cell (.tup (.pr (.mref 1) (.pr (.data .ya d.2.2.2.2.1.1) (.pr (.data .yb x.2.2.2.2.1) (.pr (.data .ya x.2.2.2.2.2) .un)))))])) (s56_3 N k d.2.2.2.2.1.1) N (d.2.1.1,d.2.1.2.1,d.2.2.1,d.2.2.2.1,d.2.2.2.2.1.2.1,d.2.2.2.2.1.2.2)
theorem e56 (N:Nat) (o0:Ye) (o0':List Ya) (o1:List Yf):zch (x56 N) fo56 b56 (St.of [(0,(.bptr 0 []))] [.cell (.tup (.agg (.pr (.data .yg o0) (.pr (.data .yc o0') (.pr (.mref 1) .un))))),.map .ye .ya o1])=f56 N o0 o0' o1:=by kernel_rfl
theorem k56 (N:Nat):z03 Go.Proofs.Try.prog 56 (c56 N):=
 z35 (fn:=Go.Proofs.Try.f56) (body:=b56) (c:=x56 N) (rs:=[2]) Go.Proofs.Try.func56 (by kernel_rfl) (by kernel_rfl) ⟨ttL_ok,z0n,z0p,z0q,z0o,z02 (z01 (k53 N)) (z02 (z01 (k60 N)) (z0e))⟩ mixed (by kernel_rfl) (zL (by kernel_rfl)) (by kernel_rfl) (by kernel_rfl) (by kernel_rfl) (z3q (by kernel_rfl))
  (z0b (by kernel_rfl:z00 b56=[z04 3 (z00 b56)]) (.cons (l56_3 N) .nil)) fun d=>e56 N d.2.1.1 d.2.1.2.1 d.2.2.1
def f20 (N:Nat) (a0:Ye) (a1:List Ya) (a2:Int):Option (Int×Yn×Yai×Int):=
 (f33 N a0 a1 a2).bind fun r=>
 cond (!(decide (r=0)))
  (some (0,(([]:List Yk),(([]:List Yr),r))))
  (cond (decide (12 < a0.1))
   (some (0,(([]:List Yk),(([]:List Yr),4))))
   ((f35 N a0).bind fun r_1=>
   (f52 N (r_1,(a2,())) a0 a1 ([]:List Yf)).bind fun r_2=>
   cond (!r_2.1.2.1)
    (some (0,(([]:List Yk),(([]:List Yr),4))))
    ((f53 N (r_1,(a2,())) r_2.2.1.1 r_2.2.1.2.1 r_2.2.2.1).bind fun r_3=>
    (f54 N (r_1,(a2,())) r_3.2.1.1 r_3.2.1.2.1 r_3.2.2.1).bind fun r_4=>
    cond (!r_4.1.2.1)
     ((f55 N (r_1,(a2,())) r_4.2.1.1 r_4.2.1.2.1 r_4.2.2.1).bind fun r_5=>
     (f56 N r_5.2.1.1 r_5.2.1.2.1 r_5.2.2.1).bind fun r_6=>
     some (r_3.1.2.1,(r_5.2.2.2.1,(r_6.2.2.2.1,0))))
     ((f56 N r_4.2.1.1 r_4.2.1.2.1 r_4.2.2.1).bind fun r_7=>
     some (r_3.1.2.1,(([]:List Yk),(r_7.2.2.2.1,0)))))))
def c20 (N:Nat):Callee:=.pure (.pr (.val .yg) (.pr (.val .yc) (.pr (.val .ya) .un))) [.ya,.yp,(.sl true .yh),.ya] fun d=>f20 N d.1 d.2.1 d.2.2.1
def lp20 (N:Nat):Nat->Option z0m:=fun r=>none
def x20 (N:Nat):Ctx:=(mkX N 52 [(33,[c33 N]),(35,[c35 N]),(52,[c52 N]),(53,[c53 N]),(54,[c54 N]),(55,[c55 N]),(56,[c56 N])] [] [] ⟨[6,7,8,9],[]⟩ (fun _=>none) (lp20 N))
noncomputable def b20:Code:=((Go.Proofs.Try.f20).body).getD .skip
theorem e20 (N:Nat) (a0:Ye) (a1:List Ya) (a2:Int):z1y (x20 N) [.ya,.yp,(.sl true .yh),.ya] [.tmp 6,.tmp 7,.tmp 8,.tmp 9] b20 (entry (.pr (.val .yg) (.pr (.val .yc) (.pr (.val .ya) .un))) (a0,(a1,(a2,()))))=f20 N a0 a1 a2:=by kernel_rfl
theorem k20 (N:Nat):z03 Go.Proofs.Try.prog 20 (c20 N):=
 z23 (fn:=Go.Proofs.Try.f20) (body:=b20) (c:=x20 N) Go.Proofs.Try.func20 (by kernel_rfl) (by kernel_rfl) ⟨ttL_ok,z0n,z0p,z0q,z0o,z02 (z01 (k33 N)) (z02 (z01 (k35 N)) (z02 (z01 (k52 N)) (z02 (z01 (k53 N)) (z02 (z01 (k54 N)) (z02 (z01 (k55 N)) (z02 (z01 (k56 N)) (z0e)))))))⟩ mixed (by kernel_rfl) (zL (by kernel_rfl)) (by kernel_rfl) (by decide)
  (z0b (by kernel_rfl:z00 b20=[]) .nil) fun d=>e20 N d.1 d.2.1 d.2.2.1
def zss {R:Type} (N:Nat) (t13:List Int) (t14:Int) (kb:Int×List Int×(List (Int×Int))->Option R) (kx0:Ya->Option R):Int×List Int×(List (Int×Int))->Option R:=
 fun (t15,o0,o1)=>
  cond (decide (t15 < t14))
   ((idx t13 t15).bind fun x=>
   cond (!(Option.isSome (z9a (z42 .ya) o1 x)))
    (chk (decide ((List.length o1)≤z3e)) <|
    chk (decide ((Nat.succ (List.length o0))≤z3e)) <|
    kb ((z0l (t15+1)),(o0++((len o1) :: ([]:List Int))),(zcp (z42 .ya) o1 x (len o1))))
    (chk (decide ((Nat.succ (List.length o0))≤z3e)) <|
    kb ((z0l (t15+1)),(o0++((Option.getD (z9a (z42 .ya) o1 x) 0) :: ([]:List Int))),o1)))
   (kx0 o0)
def f78 (N:Nat) (a0:List Int):Option Ya:=
 chk ((decide (0≤(len a0))) && (decide ((len a0)≤((z3e:Nat):Int)))) <|
 iter (fun w=>zss N a0 (len a0) w
  (fun o0_1=>
   some o0_1)) N (0,(List.replicate (Int.toNat 0) 0:List Int),([]:List (Int×Int)))
def c78 (N:Nat):Callee:=.pure (.pr (.val .yb) .un) [.yj] fun d=>f78 N d.1
def F78_4:SForm:=⟨[(15,(.val .ya)),(4,(.ref 0)),(3,(.mref 1)),(13,(.val .yb)),(14,(.val .ya))],[.row .ya,.map .ya .ya]⟩
def G78_4 (N:Nat):(R:Type)->F78_4.den->(AExit->St->Option R)->Option R:=fun R d k=>iter (fun kb=>zss N d.1.2.2.2.1 d.1.2.2.2.2.1 kb
  (fun y0=>k (.exit 0) (St.of [(4,(.ref 0 [] 0))] [.row .ya y0 0]))) N (d.1.1,d.2.1,d.2.2.1)
def lp78 (N:Nat):Nat->Option z0m:=fun r=>cond (Nat.beq r 4) (some fun R sl os k=>F78_4.take sl os fun d=>G78_4 N R d k) (none)
def x78 (N:Nat):Ctx:=(mkX N 38 [] [(4,⟨[15,4,3,13,14],[]⟩)] [(4,[(0,⟨[4],[]⟩)])] ⟨[2],[]⟩ (fun _=>none) (lp78 N))
noncomputable def b78:Code:=((Go.Proofs.Try.f78).body).getD .skip
theorem s78_4 (N:Nat) {R:Type} (k:AExit->St->Option R) (t13:List Int) (t14:Int) (kb:List Yp->List Obj->Option R) (x:Int×List Int×(List (Int×Int))):z0z (x78 N) (z04 4 (z00 b78)) (St.of [(15,(.data .ya x.1)),(4,(.ref 0 [] 0)),(3,(.mref 1)),(13,(.data .yb t13)),(14,(.data .ya t14))] [.row .ya x.2.1 0,.map .ya .ya x.2.2]) (z1q (x78 N) 4 ⟨[15,4,3,13,14],[]⟩ kb k)=zss N t13 t14 (fun y=>kb [(15,(.data .ya y.1)),(4,(.ref 0 [] 0)),(3,(.mref 1)),(13,(.data .yb t13)),(14,(.data .ya t14))] [.row .ya y.2.1 0,.map .ya .ya y.2.2])
  (fun y0=>k (.exit 0) (St.of [(4,(.ref 0 [] 0))] [.row .ya y0 0])) x:=by kernel_rfl
theorem l78_4 (N:Nat):z0r (x78 N) (z04 4 (z00 b78)):=
 z0i (G78_4 N) (by kernel_rfl) (by kernel_rfl) (by kernel_rfl) fun R k d=>
  z0g (st:=fun (x:Int×List Int×(List (Int×Int)))=>([(15,(.data .ya x.1)),(4,(.ref 0 [] 0)),(3,(.mref 1)),(13,(.data .yb d.1.2.2.2.1)),(14,(.data .ya d.1.2.2.2.2.1))],[.row .ya x.2.1 0,.map .ya .ya x.2.2])) (s78_4 N k d.1.2.2.2.1 d.1.2.2.2.2.1) N (d.1.1,d.2.1,d.2.2.1)
theorem e78 (N:Nat) (a0:List Int):z1y (x78 N) [.yj] [.tmp 2] b78 (entry (.pr (.val .yb) .un) (a0,()))=f78 N a0:=by kernel_rfl
theorem k78 (N:Nat):z03 Go.Proofs.Try.prog 78 (c78 N):=
 z23 (fn:=Go.Proofs.Try.f78) (body:=b78) (c:=x78 N) Go.Proofs.Try.func78 (by kernel_rfl) (by kernel_rfl) ⟨ttL_ok,z0n,z0p,z0q,z0o,z0e⟩ mixed (by kernel_rfl) (zL (by kernel_rfl)) (by kernel_rfl) (by decide)
  (z0b (by kernel_rfl:z00 b78=[z04 4 (z00 b78)]) (.cons (l78_4 N) .nil)) fun d=>e78 N d.1
def zo6 {R:Type} (N:Nat) (t19:List Int) (t1:List Int) (t20:Int) (o0:Ye) (kb:Int->Option R) (kret:Int->Option R) (kx0:Unit->Option R):Int->Option R:=
 fun t21=>
  cond (decide (t21 < t20))
   ((idx t19 t21).bind fun x=>
   (cond (decide (x < 0))
     (some true)
     (some (decide ((len o0.2.1)≤x)))).bind fun b=>
   cond b
    (kret 3)
    (kb (z0l (t21+1))))
   (kx0 ())
def zdc {R:Type} (N:Nat) (t48:List Int) (t38_1:List Int) (t39_1:Int) (t40_1:Int) (t49:Int) (o0_2:Ye) (kb:Int×List Int->Option R) (kx4:Ya->Option R):Int×List Int->Option R:=
 fun (t50,o1_1)=>
  cond (decide (t50 < t49))
   ((idx t48 t50).bind fun x_3=>
   chk (inb o1_1 t50) <|
   (idx o1_1 t50).bind fun x_4=>
   chk (inb o1_1 t50) <|
   (idx o1_1 t50).bind fun x_5=>
   (idx o1_1 t50).bind fun x_6=>
   kb ((z0l (t50+1)),(zcx o1_1 t50 (z0l ((z0l (x_4*o0_2.1))+x_3)))))
   (kx4 o1_1)
def zgv {R:Type} (N:Nat) (t38:List Int) (t39:Int) (o0_1:Ye) (kb:Int×List Int->Option R) (kx2:Ya->Option R):Int×List Int->Option R:=
 fun (t40,o1)=>
  cond (decide (t40 < t39))
   ((idx t38 t40).bind fun x_1=>
   (idx o0_1.2.1 x_1).bind fun x_2=>
   iter (fun w=>zdc N x_2 t38 t39 t40 (len x_2) o0_1 w
    (fun o1_2=>
     (f78 N o1_2).bind fun r_1=>
     kb ((z0l (t40+1)),r_1))) N (0,o1))
   (kx2 o1)
def f49 (N:Nat) (a0:Ye) (a1:List Int):Option (List Int×Int):=
 (f68 N a0).bind fun r=>
 cond (!(decide (r=0)))
  (some (([]:List Int),r))
  (iter (fun w=>zo6 N a1 a1 (len a1) a0 w
   (fun t5=>
    some (([]:List Int),t5))
   (fun (_:Unit)=>
    chk (((decide (0≤a0.1)) && (decide (a0.1≤a0.1))) && (decide (a0.1≤((z3e:Nat):Int)))) <|
    iter (fun w=>zgv N a1 (len a1) a0 w
     (fun o0_3=>
      (f78 N o0_3).bind fun r_2=>
      some (r_2,0))) N (0,(List.replicate (Int.toNat a0.1) 0:List Int)))) N 0)
def c49 (N:Nat):Callee:=.pure (.pr (.val .yg) (.pr (.val .yb) .un)) [.yj,.ya] fun d=>f49 N d.1 d.2.1
def F49_5:SForm:=⟨[(21,(.val .ya)),(2,(.bptr 0 [])),(19,(.val .yb)),(1,(.val .yb)),(20,(.val .ya))],[.cell (.val .yg)]⟩
def G49_5 (N:Nat):(R:Type)->F49_5.den->(AExit->St->Option R)->Option R:=fun R d k=>iter (fun kb=>zo6 N d.1.2.2.1 d.1.2.2.2.1 d.1.2.2.2.2.1 d.2.1 kb
  (fun y0=>k .ret (St.of [(4,.nilS),(5,(.data .ya y0))] []))
  (fun _=>k (.exit 0) (St.of [(2,(.bptr 0 [])),(1,(.data .yb d.1.2.2.2.1))] [.cell (.data .yg d.2.1)]))) N d.1.1
def F49_15:SForm:=⟨[(50,(.val .ya)),(2,(.bptr 0 [])),(9,(.ref 1)),(48,(.val .yb)),(38,(.val .yb)),(39,(.val .ya)),(40,(.val .ya)),(49,(.val .ya))],[.cell (.val .yg),.row .ya]⟩
def G49_15 (N:Nat):(R:Type)->F49_15.den->(AExit->St->Option R)->Option R:=fun R d k=>iter (fun kb=>zdc N d.1.2.2.2.1 d.1.2.2.2.2.1 d.1.2.2.2.2.2.1 d.1.2.2.2.2.2.2.1 d.1.2.2.2.2.2.2.2.1 d.2.1 kb
  (fun y4=>k (.exit 4) (St.of [(2,(.bptr 0 [])),(38,(.data .yb d.1.2.2.2.2.1)),(39,(.data .ya d.1.2.2.2.2.2.1)),(40,(.data .ya d.1.2.2.2.2.2.2.1)),(9,(.ref 1 [] 0))] [.cell (.data .yg d.2.1),.row .ya y4 0]))) N (d.1.1,d.2.2.1)
def F49_12:SForm:=⟨[(2,(.bptr 0 [])),(9,(.ref 1)),(40,(.val .ya)),(38,(.val .yb)),(39,(.val .ya))],[.cell (.val .yg),.row .ya]⟩
def G49_12 (N:Nat):(R:Type)->F49_12.den->(AExit->St->Option R)->Option R:=fun R d k=>iter (fun kb=>zgv N d.1.2.2.2.1 d.1.2.2.2.2.1 d.2.1 kb
  (fun y0=>k (.exit 2) (St.of [(9,(.ref 0 [] 0))] [.row .ya y0 0]))) N (d.1.2.2.1,d.2.2.1)
def lp49 (N:Nat):Nat->Option z0m:=fun r=>cond (Nat.beq r 5) (some fun R sl os k=>F49_5.take sl os fun d=>G49_5 N R d k) (cond (Nat.beq r 15) (some fun R sl os k=>F49_15.take sl os fun d=>G49_15 N R d k) (cond (Nat.beq r 12) (some fun R sl os k=>F49_12.take sl os fun d=>G49_12 N R d k) (none)))
def x49 (N:Nat):Ctx:=(mkX N 73 [(68,[c68 N]),(78,[c78 N])] [(5,⟨[21,2,19,1,20],[]⟩),(12,⟨[2,9,40,38,39],[]⟩),(15,⟨[50,2,9,48,38,39,40,49],[]⟩)] [(5,[(0,⟨[2,1],[]⟩)]),(12,[(2,⟨[9],[]⟩)]),(15,[(4,⟨[2,38,39,40,9],[]⟩)])] ⟨[4,5],[]⟩ (fun _=>none) (lp49 N))
noncomputable def b49:Code:=((Go.Proofs.Try.f49).body).getD .skip
theorem s49_5 (N:Nat) {R:Type} (k:AExit->St->Option R) (t19:List Int) (t1:List Int) (t20:Int) (o0:Ye) (kb:List Yp->List Obj->Option R) (x:Int):z0z (x49 N) (z04 5 (z00 b49)) (St.of [(21,(.data .ya x)),(2,(.bptr 0 [])),(19,(.data .yb t19)),(1,(.data .yb t1)),(20,(.data .ya t20))] [.cell (.data .yg o0)]) (z1q (x49 N) 5 ⟨[21,2,19,1,20],[]⟩ kb k)=zo6 N t19 t1 t20 o0 (fun y=>kb [(21,(.data .ya y)),(2,(.bptr 0 [])),(19,(.data .yb t19)),(1,(.data .yb t1)),(20,(.data .ya t20))] [.cell (.data .yg o0)])
  (fun y0=>k .ret (St.of [(4,.nilS),(5,(.data .ya y0))] []))
  (fun _=>k (.exit 0) (St.of [(2,(.bptr 0 [])),(1,(.data .yb t1))] [.cell (.data .yg o0)])) x:=by kernel_rfl
theorem l49_5 (N:Nat):z0r (x49 N) (z04 5 (z00 b49)):=
 z0i (G49_5 N) (by kernel_rfl) (by kernel_rfl) (by kernel_rfl) fun R k d=>
  z0g (st:=fun (x:Int)=>([(21,(.data .ya x)),(2,(.bptr 0 [])),(19,(.data .yb d.1.2.2.1)),(1,(.data .yb d.1.2.2.2.1)),(20,(.data .ya d.1.2.2.2.2.1))],[.cell (.data .yg d.2.1)])) (s49_5 N k d.1.2.2.1 d.1.2.2.2.1 d.1.2.2.2.2.1 d.2.1) N d.1.1
theorem s49_15 (N:Nat) {R:Type} (k:AExit->St->Option R) (t48:List Int) (t38_1:List Int) (t39_1:Int) (t40_1:Int) (t49:Int) (o0_2:Ye) (kb:List Yp->List Obj->Option R) (x:Int×List Int):z0z (x49 N) (z04 15 (z00 b49)) (St.of [(50,(.data .ya x.1)),(2,(.bptr 0 [])),(9,(.ref 1 [] 0)),(48,(.data .yb t48)),(38,(.data .yb t38_1)),(39,(.data .ya t39_1)),(40,(.data .ya t40_1)),(49,(.data .ya t49))] [.cell (.data .yg o0_2),.row .ya x.2 0]) (z1q (x49 N) 15 ⟨[50,2,9,48,38,39,40,49],[]⟩ kb k)=zdc N t48 t38_1 t39_1 t40_1 t49 o0_2 (fun y=>kb [(50,(.data .ya y.1)),(2,(.bptr 0 [])),(9,(.ref 1 [] 0)),(48,(.data .yb t48)),(38,(.data .yb t38_1)),(39,(.data .ya t39_1)),(40,(.data .ya t40_1)),(49,(.data .ya t49))] [.cell (.data .yg o0_2),.row .ya y.2 0])
  (fun y4=>k (.exit 4) (St.of [(2,(.bptr 0 [])),(38,(.data .yb t38_1)),(39,(.data .ya t39_1)),(40,(.data .ya t40_1)),(9,(.ref 1 [] 0))] [.cell (.data .yg o0_2),.row .ya y4 0])) x:=by kernel_rfl
theorem l49_15 (N:Nat):z0r (x49 N) (z04 15 (z00 b49)):=
 z0i (G49_15 N) (by kernel_rfl) (by kernel_rfl) (by kernel_rfl) fun R k d=>
  z0g (st:=fun (x:Int×List Int)=>([(50,(.data .ya x.1)),(2,(.bptr 0 [])),(9,(.ref 1 [] 0)),(48,(.data .yb d.1.2.2.2.1)),(38,(.data .yb d.1.2.2.2.2.1)),(39,(.data .ya d.1.2.2.2.2.2.1)),(40,(.data .ya d.1.2.2.2.2.2.2.1)),(49,(.data .ya d.1.2.2.2.2.2.2.2.1))],[.cell (.data .yg d.2.1),.row .ya x.2 0])) (s49_15 N k d.1.2.2.2.1 d.1.2.2.2.2.1 d.1.2.2.2.2.2.1 d.1.2.2.2.2.2.2.1 d.1.2.2.2.2.2.2.2.1 d.2.1) N (d.1.1,d.2.2.1)
theorem s49_12 (N:Nat) {R:Type} (k:AExit->St->Option R) (t38:List Int) (t39:Int) (o0_1:Ye) (kb:List Yp->List Obj->Option R) (x:Int×List Int):z0z (x49 N) (z04 12 (z00 b49)) (St.of [(2,(.bptr 0 [])),(9,(.ref 1 [] 0)),(40,(.data .ya x.1)),(38,(.data .yb t38)),(39,(.data .ya t39))] [.cell (.data .yg o0_1),.row .ya x.2 0]) (z1q (x49 N) 12 ⟨[2,9,40,38,39],[]⟩ kb k)=zgv N t38 t39 o0_1 (fun y=>kb [(2,(.bptr 0 [])),(9,(.ref 1 [] 0)),(40,(.data .ya y.1)),(38,(.data .yb t38)),(39,(.data .ya t39))] [.cell (.data .yg o0_1),.row .ya y.2 0])
  (fun y0=>k (.exit 2) (St.of [(9,(.ref 0 [] 0))] [.row .ya y0 0])) x:=by kernel_rfl
theorem l49_12 (N:Nat):z0r (x49 N) (z04 12 (z00 b49)):=
 z0i (G49_12 N) (by kernel_rfl) (by kernel_rfl) (by kernel_rfl) fun R k d=>
  z0g (st:=fun (x:Int×List Int)=>([(2,(.bptr 0 [])),(9,(.ref 1 [] 0)),(40,(.data .ya x.1)),(38,(.data .yb d.1.2.2.2.1)),(39,(.data .ya d.1.2.2.2.2.1))],[.cell (.data .yg d.2.1),.row .ya x.2 0])) (s49_12 N k d.1.2.2.2.1 d.1.2.2.2.2.1 d.2.1) N (d.1.2.2.1,d.2.2.1)
theorem e49 (N:Nat) (a0:Ye) (a1:List Int):z1y (x49 N) [.yj,.ya] [.tmp 4,.tmp 5] b49 (entry (.pr (.val .yg) (.pr (.val .yb) .un)) (a0,(a1,())))=f49 N a0 a1:=by kernel_rfl
theorem k49 (N:Nat):z03 Go.Proofs.Try.prog 49 (c49 N):=
 z23 (fn:=Go.Proofs.Try.f49) (body:=b49) (c:=x49 N) Go.Proofs.Try.func49 (by kernel_rfl) (by kernel_rfl) ⟨ttL_ok,z0n,z0p,z0q,z0o,z02 (z01 (k68 N)) (z02 (z01 (k78 N)) (z0e))⟩ mixed (by kernel_rfl) (zL (by kernel_rfl)) (by kernel_rfl) (by decide)
  (z0b (by kernel_rfl:z00 b49=[z04 5 (z00 b49),z04 12 (z00 b49),z04 15 (z00 b49)]) (.cons (l49_5 N) (.cons (l49_12 N) (.cons (l49_15 N) .nil)))) fun d=>e49 N d.1 d.2.1
def f51 (N:Nat) (a0:List Int):Option Ya:=chk (decide (0+List.length a0≤z3e)) (some a0)
def c51 (N:Nat):Callee:=.pure (.pr (.val .yb) .un) [.yj] fun d=>f51 N d.1
def x51 (N:Nat):Ctx:={ fuel:=N,tt:=z1v ttL,mt:=z1v mtL,ntmps:=8,env:=fun f=>(z1v [] f).getD [],cut:=fun _=>none,exits:=fun _ _=>none,res:=⟨[2],[]⟩,own:=fun _=>none,lp:=fun _=>none,eqs:=fun T=>z2q T eqL,ct:=fun T=>z2q T ctL,ms:=zb6 msL }
theorem k51 (N:Nat):z03 Go.Proofs.Try.prog 51 (c51 N):=
 zxf (fn:=Go.Proofs.Try.f51) (c:=x51 N) (p:=.pr (.val .yb) .un) (ts:=[.yj]) (t:=.ya) (σ0:=fun d=>⟨(entry (.pr (.val .yb) .un) d |>.set 2 .nilS).slots,fun _=>none,8⟩) Go.Proofs.Try.func51 (by kernel_rfl) rfl ⟨ttL_ok,z0n,z0p,z0q,z0o,z0e⟩ mixed (by kernel_rfl) (zL (by kernel_rfl)) (by kernel_rfl)
  (AllL.mem .nil) (AllL.mem .nil) (AllL.mem .nil) (fun d=>by kernel_rfl) rfl rfl rfl rfl rfl rfl (zL (by kernel_rfl)) (zL (by kernel_rfl)) (by kernel_rfl:(x51 N).tt 40=some .yb) (fun d=>d.1) (fun d=>by kernel_rfl)
  (fun d b hb=>match d,b,hb with
   | (a0,u),false,_=>by kernel_rfl
   | ([],u),true,_=>by kernel_rfl
   | (_ :: _,u),true,hb=>nomatch hb rfl)
def zcf {R:Type} (N:Nat) (r48v2:Int->Int->Ya->Ye->Yl->Int->Ya->Option (Yap)) (t0_1:Int) (o0_1:List Int) (kb:Int×Ye×List Ya×Int×List Int->Option R) (kx0:Ye->Yl->Int->Ya->Option R):Int×Ye×List Ya×Int×List Int->Option R:=
 fun (t15,o2_1,o3_1,o4,o6)=>
  cond (decide (t15 < (len o2_1.2.1)))
   (z4z [z4z [(f51 N o0_1).bind fun r_3=>
     chk (decide ((Nat.succ (List.length r_3))≤z3e)) <|
     (r48v2 (z0l (t0_1-1)) (z0l (t15+1)) (r_3++(t15 :: ([]:List Int))) o2_1 o3_1 o4 o6).bind fun r_4=>
     kb ((z0l (t15+1)),r_4.2.2.1,r_4.2.2.2.1,r_4.2.2.2.2.1,r_4.2.2.2.2.2.2.1),
     (f51 N o0_1).bind fun r_5=>
     chk (decide ((Nat.succ (List.length r_5))≤z3e)) <|
     (r48v2 (z0l (t0_1-1)) (z0l (t15+1)) (r_5++(t15 :: ([]:List Int))) o2_1 o3_1 o4 o6).bind fun r_6=>
     kb ((z0l (t15+1)),r_6.2.2.1,r_6.2.2.2.1,r_6.2.2.2.2.1,r_6.2.2.2.2.2.2.1)],
    (f51 N o0_1).bind fun r_7=>
    z4z [chk (decide ((Nat.succ (List.length r_7))≤z3e)) <|
     (r48v2 (z0l (t0_1-1)) (z0l (t15+1)) (r_7++(t15 :: ([]:List Int))) o2_1 o3_1 o4 o6).bind fun r_8=>
     kb ((z0l (t15+1)),r_8.2.2.1,r_8.2.2.2.1,r_8.2.2.2.2.1,r_8.2.2.2.2.2.2.1),
     z4z [chk (decide ((Nat.succ (List.length r_7))≤z3e)) <|
      (r48v2 (z0l (t0_1-1)) (z0l (t15+1)) (r_7++(t15 :: ([]:List Int))) o2_1 o3_1 o4 o6).bind fun r_9=>
      kb ((z0l (t15+1)),r_9.2.2.1,r_9.2.2.2.1,r_9.2.2.2.2.1,r_9.2.2.2.2.2.2.1),
      chk (decide ((Nat.succ (List.length r_7))≤z3e)) <|
      (r48v2 (z0l (t0_1-1)) (z0l (t15+1)) (r_7++(t15 :: ([]:List Int))) o2_1 o3_1 o4 o6).bind fun r_10=>
      kb ((z0l (t15+1)),r_10.2.2.1,r_10.2.2.2.1,r_10.2.2.2.2.1,r_10.2.2.2.2.2.2.1)]],
    z4z [(f51 N o0_1).bind fun r_11=>
     chk (decide ((Nat.succ (List.length r_11))≤z3e)) <|
     (r48v2 (z0l (t0_1-1)) (z0l (t15+1)) (r_11++(t15 :: ([]:List Int))) o2_1 o3_1 o4 o6).bind fun r_12=>
     kb ((z0l (t15+1)),r_12.2.2.1,r_12.2.2.2.1,r_12.2.2.2.2.1,r_12.2.2.2.2.2.2.1),
     (f51 N o0_1).bind fun r_13=>
     z4z [chk (decide ((Nat.succ (List.length r_13))≤z3e)) <|
      (r48v2 (z0l (t0_1-1)) (z0l (t15+1)) (r_13++(t15 :: ([]:List Int))) o2_1 o3_1 o4 o6).bind fun r_14=>
      kb ((z0l (t15+1)),r_14.2.2.1,r_14.2.2.2.1,r_14.2.2.2.2.1,r_14.2.2.2.2.2.2.1),
      chk (decide ((Nat.succ (List.length r_13))≤z3e)) <|
      (r48v2 (z0l (t0_1-1)) (z0l (t15+1)) (r_13++(t15 :: ([]:List Int))) o2_1 o3_1 o4 o6).bind fun r_15=>
      kb ((z0l (t15+1)),r_15.2.2.1,r_15.2.2.2.1,r_15.2.2.2.2.1,r_15.2.2.2.2.2.2.1)]]])
   (kx0 o2_1 o3_1 o4 o6)
def zo8 (N:Nat) (r48v2:Int->Int->Ya->Ye->Yl->Int->Ya->Option (Yap)) (t0:Int) (t1:Int) (o0:List Int) (o1:Ye) (o2:List Ya) (o3:Int) (o5:List Int):Option (Yap):=
 cond (decide (t0=0))
  ((f49 N o1 o0).bind fun r=>
  (f50 N o1 o2 r.1).bind fun r_1=>
  cond (decide (o3 < r_1.1))
   ((f51 N o0).bind fun r_2=>
   some (((),((),((),((),((),((),())))))),(o0,(o1,(o2,(r_1.1,((),(r_2,(((),((),((),((),((),()))))),())))))))))
   (some (((),((),((),((),((),((),())))))),(o0,(o1,(o2,(o3,((),(o5,(((),((),((),((),((),()))))),()))))))))))
  (iter (fun w=>zcf N r48v2 t0 o0 w
   (fun o1_1 o2_2 o3_2 o5_1=>
    some (((),((),((),((),((),((),())))))),(o0,(o1_1,(o2_2,(o3_2,((),(o5_1,(((),((),((),((),((),()))))),())))))))))) N (t1,o1,o2,o3,o5))
def fi48v2B:SForm:=⟨[(0,(.val .ya)),(1,(.val .ya)),(2,(.ref 0)),(3,(.bptr 1 [])),(4,(.bptr 2 [])),(5,(.bptr 3 [])),(6,(.bptr 4 [])),(7,(.bptr 6 []))],[.row .ya,.cell (.val .yg),.cell (.val .yc),.cell (.val .ya),.cell (.ref 5),.row .ya,.cell (.clos 48 (.pr (.bptr 1 []) (.pr (.bptr 2 []) (.pr (.bptr 3 []) (.pr (.bptr 4 []) (.pr (.bptr 6 []) .un))))))]⟩
def zxe:SForm:=⟨[(2,(.ref 0)),(3,(.bptr 1 [])),(4,(.bptr 2 [])),(5,(.bptr 3 [])),(6,(.bptr 4 [])),(7,(.bptr 6 []))],[.row .ya,.cell (.val .yg),.cell (.val .yc),.cell (.val .ya),.cell (.ref 5),.row .ya,.cell (.clos 48 (.pr (.bptr 1 []) (.pr (.bptr 2 []) (.pr (.bptr 3 []) (.pr (.bptr 4 []) (.pr (.bptr 6 []) .un))))))]⟩
def c48v2B (N:Nat) (r48v2:Int->Int->Ya->Ye->Yl->Int->Ya->Option (Yap)):Callee:=.mut fi48v2B [2,3,4,5,6,7] zxe fun d=>zo8 N r48v2 d.1.1 d.1.2.1 d.2.1 d.2.2.1 d.2.2.2.1 d.2.2.2.2.1 d.2.2.2.2.2.2.1
def ztn:SForm:=⟨[(15,(.val .ya)),(2,(.ref 0)),(0,(.val .ya)),(7,(.bptr 1 [])),(3,(.bptr 2 [])),(4,(.bptr 3 [])),(5,(.bptr 4 [])),(6,(.bptr 5 []))],[.row .ya,.cell (.clos 48 (.pr (.bptr 2 []) (.pr (.bptr 3 []) (.pr (.bptr 4 []) (.pr (.bptr 5 []) (.pr (.bptr 1 []) .un)))))),.cell (.val .yg),.cell (.val .yc),.cell (.val .ya),.cell (.ref 6),.row .ya]⟩
def ztk (N:Nat) (r48v2:Int->Int->Ya->Ye->Yl->Int->Ya->Option (Yap)):(R:Type)->ztn.den->(AExit->St->Option R)->Option R:=fun R d k=>iter (fun kb=>zcf N r48v2 d.1.2.2.1 d.2.1 kb
  (fun y1 y2 y3 y4=>k (.exit 0) (St.of [(2,(.ref 0 [] 0)),(3,(.bptr 1 [])),(4,(.bptr 2 [])),(5,(.bptr 3 [])),(6,(.bptr 4 [])),(7,(.bptr 6 []))] [.row .ya d.2.1 0,.cell (.data .yg y1),.cell (.data .yc y2),.cell (.data .ya y3),.cell (.ref 5 [] 0),.row .ya y4 0,.cell (.clos 48 (.pr (.bptr 1 []) (.pr (.bptr 2 []) (.pr (.bptr 3 []) (.pr (.bptr 4 []) (.pr (.bptr 6 []) .un))))))]))) N (d.1.1,d.2.2.2.1,d.2.2.2.2.1,d.2.2.2.2.2.1,d.2.2.2.2.2.2.2.1)
def lp48v2B (N:Nat) (r48v2:Int->Int->Ya->Ye->Yl->Int->Ya->Option (Yap)):Nat->Option z0m:=fun r=>cond (Nat.beq r 6) (some fun R sl os k=>ztn.take sl os fun d=>ztk N r48v2 R d k) (none)
def zm0 (N:Nat) (r48v2:Int->Int->Ya->Ye->Yl->Int->Ya->Option (Yap)):Ctx:={ fuel:=N,tt:=z1v ttL,mt:=z1v mtL,ntmps:=56,env:=fun f=>(z1v [(49,[c49 N]),(50,[c50 N]),(51,[c51 N]),(48,[(.mut ⟨[(0,(.val .ya)),(1,(.val .ya)),(2,(.ref 0)),(3,(.bptr 1 [])),(4,(.bptr 2 [])),(5,(.bptr 3 [])),(6,(.bptr 4 [])),(7,(.bptr 6 []))],[.row .ya,.cell (.val .yg),.cell (.val .yc),.cell (.val .ya),.cell (.ref 5),.row .ya,.cell (.clos 48 (.pr (.bptr 1 []) (.pr (.bptr 2 []) (.pr (.bptr 3 []) (.pr (.bptr 4 []) (.pr (.bptr 6 []) .un))))))]⟩ [2,3,4,5,6,7] ⟨[(2,(.ref 0)),(3,(.bptr 1 [])),(4,(.bptr 2 [])),(5,(.bptr 3 [])),(6,(.bptr 4 [])),(7,(.bptr 6 []))],[.row .ya,.cell (.val .yg),.cell (.val .yc),.cell (.val .ya),.cell (.ref 5),.row .ya,.cell (.clos 48 (.pr (.bptr 1 []) (.pr (.bptr 2 []) (.pr (.bptr 3 []) (.pr (.bptr 4 []) (.pr (.bptr 6 []) .un))))))]⟩ fun d=>r48v2 d.1.1 d.1.2.1 d.2.1 d.2.2.1 d.2.2.2.1 d.2.2.2.2.1 d.2.2.2.2.2.2.1)])] f).getD [],cut:=z1v [(6,⟨[15,2,0,7,3,4,5,6],[]⟩)],exits:=fun r=>z1v ((z1v [(6,[(0,⟨[2,3,4,5,6,7],[]⟩)])] r).getD []),res:=⟨[2,3,4,5,6,7],[]⟩,own:=fun _=>none,lp:=lp48v2B N r48v2,eqs:=fun T=>z2q T eqL,ct:=fun T=>z2q T ctL,ms:=zb6 msL }
noncomputable def zk2:Code:=((Go.Proofs.Try.f48).body).getD .skip
theorem zzc (N:Nat) (r48v2:Int->Int->Ya->Ye->Yl->Int->Ya->Option (Yap)) {R:Type} (k:AExit->St->Option R) (t0_1:Int) (o0_1:List Int) (kb:List Yp->List Obj->Option R) (x:Int×Ye×List Ya×Int×List Int):z0z (zm0 N r48v2) (z04 6 (z00 zk2)) (St.of [(15,(.data .ya x.1)),(2,(.ref 0 [] 0)),(0,(.data .ya t0_1)),(7,(.bptr 1 [])),(3,(.bptr 2 [])),(4,(.bptr 3 [])),(5,(.bptr 4 [])),(6,(.bptr 5 []))] [.row .ya o0_1 0,.cell (.clos 48 (.pr (.bptr 2 []) (.pr (.bptr 3 []) (.pr (.bptr 4 []) (.pr (.bptr 5 []) (.pr (.bptr 1 []) .un)))))),.cell (.data .yg x.2.1),.cell (.data .yc x.2.2.1),.cell (.data .ya x.2.2.2.1),.cell (.ref 6 [] 0),.row .ya x.2.2.2.2 0]) (z1q (zm0 N r48v2) 6 ⟨[15,2,0,7,3,4,5,6],[]⟩ kb k)=zcf N r48v2 t0_1 o0_1 (fun y=>kb [(15,(.data .ya y.1)),(2,(.ref 0 [] 0)),(0,(.data .ya t0_1)),(7,(.bptr 1 [])),(3,(.bptr 2 [])),(4,(.bptr 3 [])),(5,(.bptr 4 [])),(6,(.bptr 5 []))] [.row .ya o0_1 0,.cell (.clos 48 (.pr (.bptr 2 []) (.pr (.bptr 3 []) (.pr (.bptr 4 []) (.pr (.bptr 5 []) (.pr (.bptr 1 []) .un)))))),.cell (.data .yg y.2.1),.cell (.data .yc y.2.2.1),.cell (.data .ya y.2.2.2.1),.cell (.ref 6 [] 0),.row .ya y.2.2.2.2 0])
  (fun y1 y2 y3 y4=>k (.exit 0) (St.of [(2,(.ref 0 [] 0)),(3,(.bptr 1 [])),(4,(.bptr 2 [])),(5,(.bptr 3 [])),(6,(.bptr 4 [])),(7,(.bptr 6 []))] [.row .ya o0_1 0,.cell (.data .yg y1),.cell (.data .yc y2),.cell (.data .ya y3),.cell (.ref 5 [] 0),.row .ya y4 0,.cell (.clos 48 (.pr (.bptr 1 []) (.pr (.bptr 2 []) (.pr (.bptr 3 []) (.pr (.bptr 4 []) (.pr (.bptr 6 []) .un))))))])) x:=by kernel_rfl
theorem l48v2B_6 (N:Nat) (r48v2:Int->Int->Ya->Ye->Yl->Int->Ya->Option (Yap)):z0r (zm0 N r48v2) (z04 6 (z00 zk2)):=
 z0i (ztk N r48v2) (by kernel_rfl) (by kernel_rfl) (by kernel_rfl) fun R k d=>
  z0g (st:=fun (x:Int×Ye×List Ya×Int×List Int)=>([(15,(.data .ya x.1)),(2,(.ref 0 [] 0)),(0,(.data .ya d.1.2.2.1)),(7,(.bptr 1 [])),(3,(.bptr 2 [])),(4,(.bptr 3 [])),(5,(.bptr 4 [])),(6,(.bptr 5 []))],[.row .ya d.2.1 0,.cell (.clos 48 (.pr (.bptr 2 []) (.pr (.bptr 3 []) (.pr (.bptr 4 []) (.pr (.bptr 5 []) (.pr (.bptr 1 []) .un)))))),.cell (.data .yg x.2.1),.cell (.data .yc x.2.2.1),.cell (.data .ya x.2.2.2.1),.cell (.ref 6 [] 0),.row .ya x.2.2.2.2 0])) (zzc N r48v2 k d.1.2.2.1 d.2.1) N (d.1.1,d.2.2.2.1,d.2.2.2.2.1,d.2.2.2.2.2.1,d.2.2.2.2.2.2.2.1)
theorem e48v2B (N:Nat) (r48v2:Int->Int->Ya->Ye->Yl->Int->Ya->Option (Yap)) (t0:Int) (t1:Int) (o0:List Int) (o1:Ye) (o2:List Ya) (o3:Int) (o5:List Int):zch (zm0 N r48v2) zxe zk2 (St.of [(0,(.data .ya t0)),(1,(.data .ya t1)),(2,(.ref 0 [] 0)),(3,(.bptr 1 [])),(4,(.bptr 2 [])),(5,(.bptr 3 [])),(6,(.bptr 4 [])),(7,(.bptr 6 []))] [.row .ya o0 0,.cell (.data .yg o1),.cell (.data .yc o2),.cell (.data .ya o3),.cell (.ref 5 [] 0),.row .ya o5 0,.cell (.clos 48 (.pr (.bptr 1 []) (.pr (.bptr 2 []) (.pr (.bptr 3 []) (.pr (.bptr 4 []) (.pr (.bptr 6 []) .un))))))])=zo8 N r48v2 t0 t1 o0 o1 o2 o3 o5:=by kernel_rfl
theorem k48v2B (N:Nat) (r48v2:Int->Int->Ya->Ye->Yl->Int->Ya->Option (Yap)) (h48v2:z03 Go.Proofs.Try.prog 48 (.mut ⟨[(0,(.val .ya)),(1,(.val .ya)),(2,(.ref 0)),(3,(.bptr 1 [])),(4,(.bptr 2 [])),(5,(.bptr 3 [])),(6,(.bptr 4 [])),(7,(.bptr 6 []))],[.row .ya,.cell (.val .yg),.cell (.val .yc),.cell (.val .ya),.cell (.ref 5),.row .ya,.cell (.clos 48 (.pr (.bptr 1 []) (.pr (.bptr 2 []) (.pr (.bptr 3 []) (.pr (.bptr 4 []) (.pr (.bptr 6 []) .un))))))]⟩ [2,3,4,5,6,7] ⟨[(2,(.ref 0)),(3,(.bptr 1 [])),(4,(.bptr 2 [])),(5,(.bptr 3 [])),(6,(.bptr 4 [])),(7,(.bptr 6 []))],[.row .ya,.cell (.val .yg),.cell (.val .yc),.cell (.val .ya),.cell (.ref 5),.row .ya,.cell (.clos 48 (.pr (.bptr 1 []) (.pr (.bptr 2 []) (.pr (.bptr 3 []) (.pr (.bptr 4 []) (.pr (.bptr 6 []) .un))))))]⟩ fun d=>r48v2 d.1.1 d.1.2.1 d.2.1 d.2.2.1 d.2.2.2.1 d.2.2.2.2.1 d.2.2.2.2.2.2.1)):z03 Go.Proofs.Try.prog 48 (c48v2B N r48v2):=
 z35 (fn:=Go.Proofs.Try.f48) (body:=zk2) (c:=zm0 N r48v2) (rs:=[]) Go.Proofs.Try.func48 (by kernel_rfl) (by kernel_rfl) ⟨ttL_ok,z0n,z0p,z0q,z0o,z02 (z01 (k49 N)) (z02 (z01 (k50 N)) (z02 (z01 (k51 N)) (z02 (z01 (h48v2)) (z0e))))⟩ mixed (by kernel_rfl) (zL (by kernel_rfl)) (by kernel_rfl) (by kernel_rfl) (by kernel_rfl) (z3q (by kernel_rfl))
  (z0b (by kernel_rfl:z00 zk2=[z04 6 (z00 zk2)]) (.cons (l48v2B_6 N r48v2) .nil)) fun d=>e48v2B N r48v2 d.1.1 d.1.2.1 d.2.1 d.2.2.1 d.2.2.2.1 d.2.2.2.2.1 d.2.2.2.2.2.2.1
def zjl (N:Nat) (M:Nat):Int->Int->Ya->Ye->Yl->Int->Ya->Option (Yap):=Nat.rec (motive:=fun _=>Int->Int->Ya->Ye->Yl->Int->Ya->Option (Yap)) (fun _ _ _ _ _ _ _=>none) (fun _ r=>zo8 N r) M
def zi2 (N:Nat) (a0:Int) (a1:Int) (a2:List Int) (a3:Ye) (a4:List Ya) (a5:Int) (a6:List Int):Option (Yap):=zjl N N a0 a1 a2 a3 a4 a5 a6
def c48v2 (N:Nat):Callee:=(.mut ⟨[(0,(.val .ya)),(1,(.val .ya)),(2,(.ref 0)),(3,(.bptr 1 [])),(4,(.bptr 2 [])),(5,(.bptr 3 [])),(6,(.bptr 4 [])),(7,(.bptr 6 []))],[.row .ya,.cell (.val .yg),.cell (.val .yc),.cell (.val .ya),.cell (.ref 5),.row .ya,.cell (.clos 48 (.pr (.bptr 1 []) (.pr (.bptr 2 []) (.pr (.bptr 3 []) (.pr (.bptr 4 []) (.pr (.bptr 6 []) .un))))))]⟩ [2,3,4,5,6,7] ⟨[(2,(.ref 0)),(3,(.bptr 1 [])),(4,(.bptr 2 [])),(5,(.bptr 3 [])),(6,(.bptr 4 [])),(7,(.bptr 6 []))],[.row .ya,.cell (.val .yg),.cell (.val .yc),.cell (.val .ya),.cell (.ref 5),.row .ya,.cell (.clos 48 (.pr (.bptr 1 []) (.pr (.bptr 2 []) (.pr (.bptr 3 []) (.pr (.bptr 4 []) (.pr (.bptr 6 []) .un))))))]⟩ fun d=>zi2 N d.1.1 d.1.2.1 d.2.1 d.2.2.1 d.2.2.2.1 d.2.2.2.2.1 d.2.2.2.2.2.2.1)
theorem k48v2 (N:Nat):z03 Go.Proofs.Try.prog 48 (c48v2 N):=
 have h:∀ M:Nat,z03 Go.Proofs.Try.prog 48 (.mut ⟨[(0,(.val .ya)),(1,(.val .ya)),(2,(.ref 0)),(3,(.bptr 1 [])),(4,(.bptr 2 [])),(5,(.bptr 3 [])),(6,(.bptr 4 [])),(7,(.bptr 6 []))],[.row .ya,.cell (.val .yg),.cell (.val .yc),.cell (.val .ya),.cell (.ref 5),.row .ya,.cell (.clos 48 (.pr (.bptr 1 []) (.pr (.bptr 2 []) (.pr (.bptr 3 []) (.pr (.bptr 4 []) (.pr (.bptr 6 []) .un))))))]⟩ [2,3,4,5,6,7] ⟨[(2,(.ref 0)),(3,(.bptr 1 [])),(4,(.bptr 2 [])),(5,(.bptr 3 [])),(6,(.bptr 4 [])),(7,(.bptr 6 []))],[.row .ya,.cell (.val .yg),.cell (.val .yc),.cell (.val .ya),.cell (.ref 5),.row .ya,.cell (.clos 48 (.pr (.bptr 1 []) (.pr (.bptr 2 []) (.pr (.bptr 3 []) (.pr (.bptr 4 []) (.pr (.bptr 6 []) .un))))))]⟩ fun d=>zjl N M d.1.1 d.1.2.1 d.2.1 d.2.2.1 d.2.2.2.1 d.2.2.2.2.1 d.2.2.2.2.2.2.1):=fun M=>Nat.rec (motive:=fun M=>z03 Go.Proofs.Try.prog 48 (.mut ⟨[(0,(.val .ya)),(1,(.val .ya)),(2,(.ref 0)),(3,(.bptr 1 [])),(4,(.bptr 2 [])),(5,(.bptr 3 [])),(6,(.bptr 4 [])),(7,(.bptr 6 []))],[.row .ya,.cell (.val .yg),.cell (.val .yc),.cell (.val .ya),.cell (.ref 5),.row .ya,.cell (.clos 48 (.pr (.bptr 1 []) (.pr (.bptr 2 []) (.pr (.bptr 3 []) (.pr (.bptr 4 []) (.pr (.bptr 6 []) .un))))))]⟩ [2,3,4,5,6,7] ⟨[(2,(.ref 0)),(3,(.bptr 1 [])),(4,(.bptr 2 [])),(5,(.bptr 3 [])),(6,(.bptr 4 [])),(7,(.bptr 6 []))],[.row .ya,.cell (.val .yg),.cell (.val .yc),.cell (.val .ya),.cell (.ref 5),.row .ya,.cell (.clos 48 (.pr (.bptr 1 []) (.pr (.bptr 2 []) (.pr (.bptr 3 []) (.pr (.bptr 4 []) (.pr (.bptr 6 []) .un))))))]⟩ fun d=>zjl N M d.1.1 d.1.2.1 d.2.1 d.2.2.1 d.2.2.2.1 d.2.2.2.2.1 d.2.2.2.2.2.2.1)) (z4i fun _=>rfl) (fun M ih=>k48v2B N _ ih) M
 h N
end
end Go.Kz
