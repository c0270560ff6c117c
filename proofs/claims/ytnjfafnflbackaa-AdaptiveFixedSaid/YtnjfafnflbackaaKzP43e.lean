/-
  The functions of the program as plain functions on lists and numbers, and the proofs that the program computes them. Printed by a program.
-/
import Derived.Test.YtnjfafnflbackaaKzP43d
set_option linter.unusedSimpArgs false
set_option maxRecDepth 100000
set_option linter.unusedVariables false
namespace Go.Kz
open Go.Proofs
noncomputable section
def zsa {R:Type} (N:Nat) (t1:List Int) (t9:List Int) (t0:List Int) (t10:Int) (kb:Int->Option R) (kret:Int->Option R) (kx0:Unit->Option R):Int->Option R:=
 fun t11=>
  cond (decide (t11 < t10))
   ((idx t9 t11).bind fun x=>
   cond (decide ((len t1)≤t11))
    (kret 1)
    ((idx t1 t11).bind fun x_1=>
    (f75 N x x_1).bind fun r=>
    cond (!(decide (r=0)))
     (kret r)
     (kb (z0l (t11+1)))))
   (kx0 ())
def f66 (N:Nat) (a0:List Int) (a1:List Int):Option (Int):=
 iter (fun w=>zsa N a1 a0 a0 (len a0) w
  (fun t4=>
   some t4)
  (fun (_:Unit)=>
   cond (decide ((len a0) < (len a1)))
    (some (-1))
    (some 0))) N 0
def c66 (N:Nat):Callee:=.pure (.pr (.val .yb) (.pr (.val .yb) .un)) [.ya] fun d=>f66 N d.1 d.2.1
def F66_2:SForm:=⟨[(11,(.val .ya)),(1,(.val .yb)),(9,(.val .yb)),(0,(.val .yb)),(10,(.val .ya))],[]⟩
def G66_2 (N:Nat):(R:Type)->F66_2.den->(AExit->St->Option R)->Option R:=fun R d k=>iter (fun kb=>zsa N d.1.2.1 d.1.2.2.1 d.1.2.2.2.1 d.1.2.2.2.2.1 kb
  (fun y0=>k .ret (St.of [(4,(.data .ya y0))] []))
  (fun _=>k (.exit 0) (St.of [(1,(.data .yb d.1.2.1)),(0,(.data .yb d.1.2.2.2.1))] []))) N d.1.1
def lp66 (N:Nat):Nat->Option z0q:=fun r=>cond (Nat.beq r 2) (some fun R sl os k=>F66_2.take sl os fun d=>G66_2 N R d k) (none)
def x66 (N:Nat):Ctx:=(mkX N 36 [(75,[c75 N])] [(2,⟨[11,1,9,0,10],[]⟩)] [(2,[(0,⟨[1,0],[]⟩)])] ⟨[4],[]⟩ (fun _=>none) (lp66 N))
noncomputable def b66:Code:=((Go.Proofs.Try.f66).body).getD .skip
theorem s66_2 (N:Nat) {R:Type} (k:AExit->St->Option R) (t1:List Int) (t9:List Int) (t0:List Int) (t10:Int) (kb:List Yl->List Obj->Option R) (x:Int):z0y (x66 N) (z02 2 (z00 b66)) (St.of [(11,(.data .ya x)),(1,(.data .yb t1)),(9,(.data .yb t9)),(0,(.data .yb t0)),(10,(.data .ya t10))] []) (z1p (x66 N) 2 ⟨[11,1,9,0,10],[]⟩ kb k)=zsa N t1 t9 t0 t10 (fun y=>kb [(11,(.data .ya y)),(1,(.data .yb t1)),(9,(.data .yb t9)),(0,(.data .yb t0)),(10,(.data .ya t10))] [])
  (fun y0=>k .ret (St.of [(4,(.data .ya y0))] []))
  (fun _=>k (.exit 0) (St.of [(1,(.data .yb t1)),(0,(.data .yb t0))] [])) x:=by kernel_rfl
theorem l66_2 (N:Nat):z0m (x66 N) (z02 2 (z00 b66)):=
 z0i (G66_2 N) (by kernel_rfl) (by kernel_rfl) (by kernel_rfl) fun R k d=>
  z0h (st:=fun (x:Int)=>([(11,(.data .ya x)),(1,(.data .yb d.1.2.1)),(9,(.data .yb d.1.2.2.1)),(0,(.data .yb d.1.2.2.2.1)),(10,(.data .ya d.1.2.2.2.2.1))],[])) (s66_2 N k d.1.2.1 d.1.2.2.1 d.1.2.2.2.1 d.1.2.2.2.2.1) N d.1.1
theorem e66 (N:Nat) (a0:List Int) (a1:List Int):z27 (x66 N) [.ya] [.tmp 4] b66 (entry (.pr (.val .yb) (.pr (.val .yb) .un)) (a0,(a1,())))=f66 N a0 a1:=by kernel_rfl
theorem k66 (N:Nat):z04 Go.Proofs.Try.prog 66 (c66 N):=
 z2a (fn:=Go.Proofs.Try.f66) (body:=b66) (c:=x66 N) Go.Proofs.Try.func66 (by kernel_rfl) (by kernel_rfl) ⟨ttL_ok,z0r,z0t,z0u,z0s,z03 (z01 (k75 N)) (z0f)⟩ mixed (by kernel_rfl) (zL (by kernel_rfl)) (by kernel_rfl) (by decide)
  (z0a (by kernel_rfl:z00 b66=[z02 2 (z00 b66)]) (.cons (l66_2 N) .nil)) fun d=>e66 N d.1 d.2.1
def znz {R:Type} (N:Nat) (t10:Int) (t8_1:Int) (t1_1:List Ya) (t2_1:Int) (t18_1:Int) (t19_1:Int) (t25:Int) (o1_1:List Int) (o2:Ye) (kb:Int×List Int->Option R) (kx2:Ya->Option R):Int×List Int->Option R:=
 fun (t26,o0_1)=>
  cond (decide (t26 < t25))
   ((f65 N t10 t26).bind fun r=>
   cond r
    (chk (decide ((Nat.succ (List.length o0_1))≤z3g)) <|
    kb ((z0l (t26+1)),(o0_1++(t26 :: ([]:List Int)))))
    (kb ((z0l (t26+1)),o0_1)))
   (kx2 o0_1)
def zo0 {R:Type} (N:Nat) (t1:List Ya) (t2:Int) (t18:Int) (o1:Ye) (kb:Int×Int×List Int->Option R) (kx0:Int->Ya->Option R):Int×Int×List Int->Option R:=
 fun (t19,t8,o0)=>
  cond (decide (t19 < t18))
   (iter (fun w=>znz N t19 t8 t1 t2 t18 t19 (len o1.2.1) o0 o1 w
    (fun o2_1=>
     cond (decide (t2 < (len o2_1)))
      (kb ((z0l (t19+1)),t8,o0))
      ((f57 N o1 o2_1).bind fun r_1=>
      (f18 N o1 t1 r_1).bind fun r_2=>
      (cond (decide (t8 < r_2))
        (some true)
        ((cond (decide (r_2=t8))
          ((cond (decide ((len o2_1) < (len o0)))
            (some true)
            ((cond (decide ((len o2_1)=(len o0)))
              ((f66 N o2_1 o0).bind fun r_3=>
              some (decide (r_3 < 0)))
              (some false)).bind fun b=>
            some b)).bind fun b_1=>
          some b_1)
          (some false)).bind fun b_2=>
        some b_2)).bind fun b_3=>
      cond b_3
       (kb ((z0l (t19+1)),r_2,o2_1))
       (kb ((z0l (t19+1)),t8,o0))))) N (0,([]:List Int)))
   (kx0 t8 o0)
def f26 (N:Nat) (a0:Ye) (a1:List Ya) (a2:Int):Option (Int×List Int):=
 cond (decide ((len a0.2.1) < 0))
  (none)
  (iter (fun w=>zo0 N a1 a2 (z0l (1*(2 ^ (min (Int.toNat (len a0.2.1)) 64)))) a0 w
   (fun t8_2 o0_2=>
    some (t8_2,o0_2))) N (0,(-1),([]:List Int)))
def c26 (N:Nat):Callee:=.pure (.pr (.val .yg) (.pr (.val .yc) (.pr (.val .ya) .un))) [.ya,.yj] fun d=>f26 N d.1 d.2.1 d.2.2.1
def F26_7:SForm:=⟨[(26,(.val .ya)),(11,(.ref 0)),(10,(.val .ya)),(9,(.ref 1)),(8,(.val .ya)),(3,(.bptr 2 [])),(1,(.val .yc)),(2,(.val .ya)),(18,(.val .ya)),(19,(.val .ya)),(25,(.val .ya))],[.row .ya,.row .ya,.cell (.val .yg)]⟩
def G26_7 (N:Nat):(R:Type)->F26_7.den->(AExit->St->Option R)->Option R:=fun R d k=>iter (fun kb=>znz N d.1.2.2.1 d.1.2.2.2.2.1 d.1.2.2.2.2.2.2.1 d.1.2.2.2.2.2.2.2.1 d.1.2.2.2.2.2.2.2.2.1 d.1.2.2.2.2.2.2.2.2.2.1 d.1.2.2.2.2.2.2.2.2.2.2.1 d.2.2.1 d.2.2.2.1 kb
  (fun y7=>k (.exit 2) (St.of [(9,(.ref 0 [] 0)),(8,(.data .ya d.1.2.2.2.2.1)),(3,(.bptr 1 [])),(1,(.data .yc d.1.2.2.2.2.2.2.1)),(2,(.data .ya d.1.2.2.2.2.2.2.2.1)),(18,(.data .ya d.1.2.2.2.2.2.2.2.2.1)),(19,(.data .ya d.1.2.2.2.2.2.2.2.2.2.1)),(11,(.ref 2 [] 0))] [.row .ya d.2.2.1 0,.cell (.data .yg d.2.2.2.1),.row .ya y7 0]))) N (d.1.1,d.2.1)
def F26_3:SForm:=⟨[(19,(.val .ya)),(9,(.ref 0)),(8,(.val .ya)),(3,(.bptr 1 [])),(1,(.val .yc)),(2,(.val .ya)),(18,(.val .ya))],[.row .ya,.cell (.val .yg)]⟩
def G26_3 (N:Nat):(R:Type)->F26_3.den->(AExit->St->Option R)->Option R:=fun R d k=>iter (fun kb=>zo0 N d.1.2.2.2.2.1 d.1.2.2.2.2.2.1 d.1.2.2.2.2.2.2.1 d.2.2.1 kb
  (fun y0 y1=>k (.exit 0) (St.of [(9,(.ref 0 [] 0)),(8,(.data .ya y0))] [.row .ya y1 0]))) N (d.1.1,d.1.2.2.1,d.2.1)
def lp26 (N:Nat):Nat->Option z0q:=fun r=>cond (Nat.beq r 7) (some fun R sl os k=>F26_7.take sl os fun d=>G26_7 N R d k) (cond (Nat.beq r 3) (some fun R sl os k=>F26_3.take sl os fun d=>G26_3 N R d k) (none))
def x26 (N:Nat):Ctx:=(mkX N 80 [(65,[c65 N]),(57,[c57 N]),(18,[c18 N]),(66,[c66 N])] [(3,⟨[19,9,8,3,1,2,18],[]⟩),(7,⟨[26,11,10,9,8,3,1,2,18,19,25],[]⟩)] [(3,[(0,⟨[9,8],[]⟩)]),(7,[(2,⟨[9,8,3,1,2,18,19,11],[]⟩)])] ⟨[6,7],[]⟩ (fun _=>none) (lp26 N))
noncomputable def b26:Code:=((Go.Proofs.Try.f26).body).getD .skip
theorem s26_7 (N:Nat) {R:Type} (k:AExit->St->Option R) (t10:Int) (t8_1:Int) (t1_1:List Ya) (t2_1:Int) (t18_1:Int) (t19_1:Int) (t25:Int) (o1_1:List Int) (o2:Ye) (kb:List Yl->List Obj->Option R) (x:Int×List Int):z0y (x26 N) (z02 7 (z00 b26)) (St.of [(26,(.data .ya x.1)),(11,(.ref 0 [] 0)),(10,(.data .ya t10)),(9,(.ref 1 [] 0)),(8,(.data .ya t8_1)),(3,(.bptr 2 [])),(1,(.data .yc t1_1)),(2,(.data .ya t2_1)),(18,(.data .ya t18_1)),(19,(.data .ya t19_1)),(25,(.data .ya t25))] [.row .ya x.2 0,.row .ya o1_1 0,.cell (.data .yg o2)]) (z1p (x26 N) 7 ⟨[26,11,10,9,8,3,1,2,18,19,25],[]⟩ kb k)=znz N t10 t8_1 t1_1 t2_1 t18_1 t19_1 t25 o1_1 o2 (fun y=>kb [(26,(.data .ya y.1)),(11,(.ref 0 [] 0)),(10,(.data .ya t10)),(9,(.ref 1 [] 0)),(8,(.data .ya t8_1)),(3,(.bptr 2 [])),(1,(.data .yc t1_1)),(2,(.data .ya t2_1)),(18,(.data .ya t18_1)),(19,(.data .ya t19_1)),(25,(.data .ya t25))] [.row .ya y.2 0,.row .ya o1_1 0,.cell (.data .yg o2)])
  (fun y7=>k (.exit 2) (St.of [(9,(.ref 0 [] 0)),(8,(.data .ya t8_1)),(3,(.bptr 1 [])),(1,(.data .yc t1_1)),(2,(.data .ya t2_1)),(18,(.data .ya t18_1)),(19,(.data .ya t19_1)),(11,(.ref 2 [] 0))] [.row .ya o1_1 0,.cell (.data .yg o2),.row .ya y7 0])) x:=by kernel_rfl
theorem l26_7 (N:Nat):z0m (x26 N) (z02 7 (z00 b26)):=
 z0i (G26_7 N) (by kernel_rfl) (by kernel_rfl) (by kernel_rfl) fun R k d=>
  z0h (st:=fun (x:Int×List Int)=>([(26,(.data .ya x.1)),(11,(.ref 0 [] 0)),(10,(.data .ya d.1.2.2.1)),(9,(.ref 1 [] 0)),(8,(.data .ya d.1.2.2.2.2.1)),(3,(.bptr 2 [])),(1,(.data .yc d.1.2.2.2.2.2.2.1)),(2,(.data .ya d.1.2.2.2.2.2.2.2.1)),(18,(.data .ya d.1.2.2.2.2.2.2.2.2.1)),(19,(.data .ya d.1.2.2.2.2.2.2.2.2.2.1)),(25,(.data .ya d.1.2.2.2.2.2.2.2.2.2.2.1))],[.row .ya x.2 0,.row .ya d.2.2.1 0,.cell (.data .yg d.2.2.2.1)])) (s26_7 N k d.1.2.2.1 d.1.2.2.2.2.1 d.1.2.2.2.2.2.2.1 d.1.2.2.2.2.2.2.2.1 d.1.2.2.2.2.2.2.2.2.1 d.1.2.2.2.2.2.2.2.2.2.1 d.1.2.2.2.2.2.2.2.2.2.2.1 d.2.2.1 d.2.2.2.1) N (d.1.1,d.2.1)
theorem s26_3 (N:Nat) {R:Type} (k:AExit->St->Option R) (t1:List Ya) (t2:Int) (t18:Int) (o1:Ye) (kb:List Yl->List Obj->Option R) (x:Int×Int×List Int):z0y (x26 N) (z02 3 (z00 b26)) (St.of [(19,(.data .ya x.1)),(9,(.ref 0 [] 0)),(8,(.data .ya x.2.1)),(3,(.bptr 1 [])),(1,(.data .yc t1)),(2,(.data .ya t2)),(18,(.data .ya t18))] [.row .ya x.2.2 0,.cell (.data .yg o1)]) (z1p (x26 N) 3 ⟨[19,9,8,3,1,2,18],[]⟩ kb k)=zo0 N t1 t2 t18 o1 (fun y=>kb [(19,(.data .ya y.1)),(9,(.ref 0 [] 0)),(8,(.data .ya y.2.1)),(3,(.bptr 1 [])),(1,(.data .yc t1)),(2,(.data .ya t2)),(18,(.data .ya t18))] [.row .ya y.2.2 0,.cell (.data .yg o1)])
  (fun y0 y1=>k (.exit 0) (St.of [(9,(.ref 0 [] 0)),(8,(.data .ya y0))] [.row .ya y1 0])) x:=by kernel_rfl
theorem l26_3 (N:Nat):z0m (x26 N) (z02 3 (z00 b26)):=
 z0i (G26_3 N) (by kernel_rfl) (by kernel_rfl) (by kernel_rfl) fun R k d=>
  z0h (st:=fun (x:Int×Int×List Int)=>([(19,(.data .ya x.1)),(9,(.ref 0 [] 0)),(8,(.data .ya x.2.1)),(3,(.bptr 1 [])),(1,(.data .yc d.1.2.2.2.2.1)),(2,(.data .ya d.1.2.2.2.2.2.1)),(18,(.data .ya d.1.2.2.2.2.2.2.1))],[.row .ya x.2.2 0,.cell (.data .yg d.2.2.1)])) (s26_3 N k d.1.2.2.2.2.1 d.1.2.2.2.2.2.1 d.1.2.2.2.2.2.2.1 d.2.2.1) N (d.1.1,d.1.2.2.1,d.2.1)
theorem e26 (N:Nat) (a0:Ye) (a1:List Ya) (a2:Int):z27 (x26 N) [.ya,.yj] [.tmp 6,.tmp 7] b26 (entry (.pr (.val .yg) (.pr (.val .yc) (.pr (.val .ya) .un))) (a0,(a1,(a2,()))))=f26 N a0 a1 a2:=by kernel_rfl
theorem k26 (N:Nat):z04 Go.Proofs.Try.prog 26 (c26 N):=
 z2a (fn:=Go.Proofs.Try.f26) (body:=b26) (c:=x26 N) Go.Proofs.Try.func26 (by kernel_rfl) (by kernel_rfl) ⟨ttL_ok,z0r,z0t,z0u,z0s,z03 (z01 (k65 N)) (z03 (z01 (k57 N)) (z03 (z01 (k18 N)) (z03 (z01 (k66 N)) (z0f))))⟩ mixed (by kernel_rfl) (zL (by kernel_rfl)) (by kernel_rfl) (by decide)
  (z0a (by kernel_rfl:z00 b26=[z02 3 (z00 b26),z02 7 (z00 b26)]) (.cons (l26_3 N) (.cons (l26_7 N) .nil))) fun d=>e26 N d.1 d.2.1 d.2.2.1
def f8 (N:Nat) (a0:Ye) (a1:List Ya) (a2:Int):Option (Bool):=
 (f11 N).bind fun r=>
 cond (!r)
  (some false)
  ((f12 N a0 a1 8 5).bind fun r_1=>
  cond (!r_1)
   (some true)
   ((f19 N a0 a1 a2).bind fun r_2=>
   (f15 N a0 a1 a2).bind fun r_3=>
   cond (!r_3)
    ((cond (decide (r_2.2.2=1))
      (some (decide (r_2.1=0)))
      (some false)).bind fun b=>
    (cond b
      (some (decide ((len r_2.2.1)=0)))
      (some false)).bind fun b_1=>
    some b_1)
    ((f26 N a0 a1 a2).bind fun r_4=>
    (cond (decide (r_2.2.2=0))
      (some (decide (r_2.1=r_4.1)))
      (some false)).bind fun b_2=>
    (cond b_2
      ((f27 N r_2.2.1 r_4.2).bind fun r_5=>
      some r_5)
      (some false)).bind fun b_3=>
    some b_3)))
def c8 (N:Nat):Callee:=.pure (.pr (.val .yg) (.pr (.val .yc) (.pr (.val .ya) .un))) [.bool] fun d=>f8 N d.1 d.2.1 d.2.2.1
def lp8 (N:Nat):Nat->Option z0q:=fun r=>none
def x8 (N:Nat):Ctx:=(mkX N 61 [(11,[c11 N]),(12,[c12 N]),(19,[c19 N]),(15,[c15 N]),(26,[c26 N]),(27,[c27 N])] [] [] ⟨[6],[]⟩ (fun _=>none) (lp8 N))
noncomputable def b8:Code:=((Go.Proofs.Try.f8).body).getD .skip
theorem e8 (N:Nat) (a0:Ye) (a1:List Ya) (a2:Int):z27 (x8 N) [.bool] [.tmp 6] b8 (entry (.pr (.val .yg) (.pr (.val .yc) (.pr (.val .ya) .un))) (a0,(a1,(a2,()))))=f8 N a0 a1 a2:=by kernel_rfl
theorem k8 (N:Nat):z04 Go.Proofs.Try.prog 8 (c8 N):=
 z2a (fn:=Go.Proofs.Try.f8) (body:=b8) (c:=x8 N) Go.Proofs.Try.func8 (by kernel_rfl) (by kernel_rfl) ⟨ttL_ok,z0r,z0t,z0u,z0s,z03 (z01 (k11 N)) (z03 (z01 (k12 N)) (z03 (z01 (k19 N)) (z03 (z01 (k15 N)) (z03 (z01 (k26 N)) (z03 (z01 (k27 N)) (z0f))))))⟩ mixed (by kernel_rfl) (zL (by kernel_rfl)) (by kernel_rfl) (by decide)
  (z0a (by kernel_rfl:z00 b8=[]) .nil) fun d=>e8 N d.1 d.2.1 d.2.2.1
end
end Go.Kz
