/-
  The functions of the program as plain functions on lists and numbers, and the proofs that the program computes them. Printed by a program.
-/
import Derived.Test.YtnjfafnflbackaaKzAR
import Derived.Test.YtnjfafnflbackaaKzAS
import Derived.Test.YtnjfafnflbackaaKzL43
import Derived.Test.YtnjfafnflbackaaProg
set_option linter.unusedSimpArgs false
set_option maxRecDepth 100000
set_option linter.unusedVariables false
namespace Go.Kz
open Go.Proofs
noncomputable section
abbrev Ty.ya:Ty:=.int .i64
abbrev Ty.yb:Ty:=.sl false .ya
abbrev Ty.yc:Ty:=.sl false .yb
abbrev Ty.yd:Ty:=.pair .ya .unit
abbrev Ty.ye:Ty:=.pair .ya .yd
abbrev Ty.yf:Ty:=.pair .yc .unit
abbrev Ty.yg:Ty:=.pair .ya .yf
abbrev Ty.yh:Ty:=.pair .ya .ye
abbrev Ty.yi:Ty:=.fn 0 .unit
abbrev Ty.yj:Ty:=.sl true .ya
abbrev Ty.yk:Ty:=.pair .yj .unit
abbrev Ty.yl:Ty:=.pair .ya .yk
abbrev Ty.ym:Ty:=.sl false .yh
abbrev Ty.yn:Ty:=.pair .yb .unit
abbrev Ty.yo:Ty:=.pair .ya .yn
abbrev Ty.yp:Ty:=.sl false .yo
abbrev Ty.yq:Ty:=.int .u64
abbrev Ty.yr:Ty:=.sl false .ye
abbrev Ty.ys:Ty:=.fn 999983 .unit
abbrev Ty.yt:Ty:=.fn 96 .unit
abbrev Ya:=List Int
abbrev Yb:=List Ya×Unit
abbrev Yc:=Int×Unit
abbrev Yd:=Int×Yc
abbrev Ye:=Int×Yb
abbrev Yf:=Yd×Int
abbrev Yg:=List Yf
abbrev Yh:=List Int×Unit
abbrev Yi:=Unit×Unit
abbrev Yj:=List Ya×Yi
abbrev Yk:=Int×Yh
abbrev Yl:=List Ya
abbrev Ym:=Ye×Yj
abbrev Yn:=List Yk
abbrev Yo:=Yg×Unit
abbrev Yp:=Nat×AVal
abbrev Yq:=Unit×Yi
abbrev Yr:=Int×Yd
abbrev Ys:=Unit×Yc
abbrev Yt:=Ym×Yo
abbrev Yu:=Yn×Unit
abbrev Yv:=Ys×Yt
abbrev Yw:=Unit×Yq
abbrev Yx:=Unit×Yw
abbrev Yy:=Unit×Yx
abbrev Yz:=Yg×Yu
abbrev Yaa:=Ym×Yz
abbrev Yab:=Yq×Yaa
abbrev Yac:=Bool×Unit
abbrev Yad:=Unit×Yac
abbrev Yae:=Yad×Yt
abbrev Yaf:=Yy×Unit
abbrev Yag:=Unit×Yy
abbrev Yah:=List Yd
abbrev Yai:=List Yr
abbrev Yaj:=Ya×Yaf
abbrev Yak:=Unit×Yaj
abbrev Yal:=Int×Yak
abbrev Yam:=List Ya×Yal
abbrev Yan:=Ye×Yam
abbrev Yao:=Ya×Yan
abbrev Yap:=Yag×Yao
def ttL:List (Nat×Ty):=[(1,.yi),(2,.ya),(3,.ya),(4,.bool),(5,(.int .u8)),(6,(.int .u8)),(7,(.pair .ya (.pair .ya (.pair .bool (.pair (.int .u8) .unit))))),(8,(.pair .ya (.pair .ya (.pair .bool (.pair (.int .u8) .unit))))),(9,.str),(10,.str),(11,.str),(12,.yq),(13,(.pair .str (.pair .yq .unit))),(14,(.pair .str (.pair .yq .unit))),(21,(.int .i32)),(22,.yc),(23,.yg),(24,.yg),(25,.yc),(26,.ym),(27,(.pair .ya (.pair .ym .yd))),(28,(.pair .ya (.pair .ym .yd))),(29,.yi),(30,.yi),(31,.ya),(32,.yi),(33,.yi),(34,.yp),(35,.yp),(36,(.pair (.pair .ya (.pair .ym .yd)) (.pair .yp .unit))),(37,(.pair (.pair .ya (.pair .ym .yd)) (.pair .yp .unit))),(38,.yi),(39,.yi),(40,.yb),(42,.yi),(43,.yi),(44,.yi),(46,.yi),(48,.yi),(49,.yi),(51,.yi),(52,.yi),(53,.yi),(54,.yh),(55,.yh),(56,.yr),(57,.yi),(59,.yi),(60,.yi),(61,.yr),(62,(.pair .yr (.pair .ya (.pair .yp .unit)))),(63,(.pair .yr (.pair .ya (.pair .yp .unit)))),(64,.yi),(65,.yi),(66,.yi),(67,.yi),(68,.yi),(69,.yi),(70,.yo),(71,.yo),(72,.yi),(73,.yi),(74,.ys),(75,.yi),(76,.yi),(77,.ye),(78,.ye),(79,.yi),(81,.yi),(82,.yi),(83,.yi),(84,.yi),(85,.yi),(86,.yi),(87,(.sl false .yr)),(88,.yr),(89,.yi),(90,.yi),(91,.ye),(92,.ye),(93,.yi),(94,.yi),(96,.yi),(98,.yi),(100,(.pair .yg (.pair .yc (.pair .ys .unit)))),(101,(.pair .yg (.pair .yc (.pair .ys .unit)))),(102,.yi),(103,.yi),(104,.yi),(105,.yi),(106,.yi),(108,.ys),(109,(.pair .yg (.pair .yc (.pair .ys .unit)))),(110,(.pair .yg (.pair .yc (.pair .ys .unit)))),(111,.yi),(112,.yi),(113,.ye),(114,.ye),(115,.yi),(116,.yi),(117,.yi),(118,.yi),(119,.yi),(120,.yi),(121,.yi),(122,.yi),(123,.ys),(124,.ye),(125,.ye),(126,.yi),(127,.yi),(128,.yi),(129,.yi),(130,.yi),(131,.yi),(132,.yi),(133,.yi),(134,.yi),(135,.yi),(136,.yi),(137,.yi),(138,.yq),(139,.yi),(140,.yi),(141,.yi),(142,.yi),(144,.yi),(145,.yi),(146,.yi),(147,.ya),(149,.yi),(150,.yi),(151,.yi),(152,.yi),(153,.yi),(154,(.int .u32)),(155,.yi),(156,.yq),(157,.yi),(158,.yi),(159,.yi),(161,.yi),(163,.yi),(164,.yq),(165,.yi),(166,.yi),(167,.yi),(169,.yi),(172,.yi),(173,.yi),(179,.yi),(180,(.int .u8)),(181,(.int .u8)),(182,.yi),(184,(.int .i32)),(185,(.int .i32))]
def mtL:List (Nat×Ty×Ty):=[(74,.ye,.ya),(108,.ye,.ya),(123,.ya,.ya)]
def eqL:List Nat:=[7,8,54,55,77,78,91,92,113,114,124,125]
def ctL:List Nat:=[]
def msL:List (Nat×String×Nat×Option Nat):=[]
theorem ttL_ok:zbd Go.Proofs.Try.prog (z1v ttL):=ttB_ok (by kernel_rfl)
theorem z0n:MtOK Go.Proofs.Try.prog (z1v mtL):=mtB_ok (by kernel_rfl)
theorem z0p:EqsOK Go.Proofs.Try.prog (fun T=>z2q T eqL):=zqv (by kernel_rfl)
theorem z0q:CtOK Go.Proofs.Try.prog (fun T=>z2q T ctL):=ctB_ok (by kernel_rfl)
theorem z0o:MsOK Go.Proofs.Try.prog (zb6 msL):=msB_ok (by kernel_rfl)
theorem mixed:Go.Proofs.Try.prog.follows .mixedOrders=true:=by kernel_rfl
def f31 (N:Nat):Option (Ye):=
 some (4,(((0 :: (0 :: (1 :: (1 :: ([]:List Int))))) :: ((0 :: (1 :: (1 :: (0 :: ([]:List Int))))) :: ((0 :: (1 :: (2 :: (2 :: ([]:List Int))))) :: ([]:List Ya)))),()))
def c31 (N:Nat):Callee:=.pure .un [.yg] fun d=>f31 N
def lp31 (N:Nat):Nat->Option z0m:=fun r=>none
def mkX (N n:Nat) (e:List (Nat×List Callee)) (c:List (Nat×Cut)) (x:List (Nat×List (Nat×Cut))) (r:Cut) (o:Nat->Option Ty) (l:Nat->Option z0m):Ctx:={ fuel:=N,tt:=z1v ttL,mt:=z1v mtL,ntmps:=n,env:=fun f=>(z1v e f).getD [],cut:=z1v c,exits:=fun r=>z1v ((z1v x r).getD []),res:=r,own:=o,lp:=l,eqs:=fun T=>z2q T eqL,ct:=fun T=>z2q T ctL,ms:=zb6 msL }
def x31 (N:Nat):Ctx:=(mkX N 6 [] [] [] ⟨[0],[]⟩ (fun _=>none) (lp31 N))
noncomputable def b31:Code:=((Go.Proofs.Try.f31).body).getD .skip
theorem e31 (N:Nat):z1y (x31 N) [.yg] [.cell 0 24] b31 (entry .un ())=f31 N:=by kernel_rfl
theorem k31 (N:Nat):z03 Go.Proofs.Try.prog 31 (c31 N):=
 z23 (fn:=Go.Proofs.Try.f31) (body:=b31) (c:=x31 N) Go.Proofs.Try.func31 (by kernel_rfl) (by kernel_rfl) ⟨ttL_ok,z0n,z0p,z0q,z0o,z0e⟩ mixed (by kernel_rfl) (zL (by kernel_rfl)) (by kernel_rfl) (by decide)
  (z0b (by kernel_rfl:z00 b31=[]) .nil) fun d=>e31 N
def zxv {R:Type} (N:Nat) (t0:Int) (t7:Int) (kb:Int×List Ya->Option R) (kx0:Yl->Option R):Int×List Ya->Option R:=
 fun (t8,o0)=>
  cond (decide (t8 < t7))
   (chk (((decide (0≤t0)) && (decide (t0≤t0))) && (decide (t0≤((z3e:Nat):Int)))) <|
   chk (inb (List.replicate (Int.toNat t0) 0:List Int) t8) <|
   (idx (List.replicate (Int.toNat t0) 0:List Int) t8).bind fun x=>
   (idx (List.replicate (Int.toNat t0) 0:List Int) t8).bind fun x_1=>
   chk (decide ((Nat.succ (List.length o0))≤z3e)) <|
   kb ((z0l (t8+1)),(o0++((zcx (List.replicate (Int.toNat t0) 0:List Int) t8 1) :: ([]:List Ya)))))
   (kx0 o0)
def f32 (N:Nat) (a0:Int):Option Yl:=
 iter (fun w=>zxv N a0 a0 w
  (fun o0_1=>
   some o0_1)) N (0,([]:List Ya))
def c32 (N:Nat):Callee:=.pure (.pr (.val .ya) .un) [.yc] fun d=>f32 N d.1
def F32_3:SForm:=⟨[(8,(.val .ya)),(3,(.ref 0)),(0,(.val .ya)),(7,(.val .ya))],[.row .yb]⟩
def G32_3 (N:Nat):(R:Type)->F32_3.den->(AExit->St->Option R)->Option R:=fun R d k=>iter (fun kb=>zxv N d.1.2.2.1 d.1.2.2.2.1 kb
  (fun y0=>k (.exit 0) (St.of [(3,(.ref 0 [] 0))] [.row .yb y0 0]))) N (d.1.1,d.2.1)
def lp32 (N:Nat):Nat->Option z0m:=fun r=>cond (Nat.beq r 3) (some fun R sl os k=>F32_3.take sl os fun d=>G32_3 N R d k) (none)
def x32 (N:Nat):Ctx:=(mkX N 22 [] [(3,⟨[8,3,0,7],[]⟩)] [(3,[(0,⟨[3],[]⟩)])] ⟨[2],[]⟩ (fun _=>none) (lp32 N))
noncomputable def b32:Code:=((Go.Proofs.Try.f32).body).getD .skip
theorem s32_3 (N:Nat) {R:Type} (k:AExit->St->Option R) (t0:Int) (t7:Int) (kb:List Yp->List Obj->Option R) (x:Int×List Ya):z0z (x32 N) (z04 3 (z00 b32)) (St.of [(8,(.data .ya x.1)),(3,(.ref 0 [] 0)),(0,(.data .ya t0)),(7,(.data .ya t7))] [.row .yb x.2 0]) (z1q (x32 N) 3 ⟨[8,3,0,7],[]⟩ kb k)=zxv N t0 t7 (fun y=>kb [(8,(.data .ya y.1)),(3,(.ref 0 [] 0)),(0,(.data .ya t0)),(7,(.data .ya t7))] [.row .yb y.2 0])
  (fun y0=>k (.exit 0) (St.of [(3,(.ref 0 [] 0))] [.row .yb y0 0])) x:=by kernel_rfl
theorem l32_3 (N:Nat):z0r (x32 N) (z04 3 (z00 b32)):=
 z0i (G32_3 N) (by kernel_rfl) (by kernel_rfl) (by kernel_rfl) fun R k d=>
  z0g (st:=fun (x:Int×List Ya)=>([(8,(.data .ya x.1)),(3,(.ref 0 [] 0)),(0,(.data .ya d.1.2.2.1)),(7,(.data .ya d.1.2.2.2.1))],[.row .yb x.2 0])) (s32_3 N k d.1.2.2.1 d.1.2.2.2.1) N (d.1.1,d.2.1)
theorem e32 (N:Nat) (a0:Int):z1y (x32 N) [.yc] [.tmp 2] b32 (entry (.pr (.val .ya) .un) (a0,()))=f32 N a0:=by kernel_rfl
theorem k32 (N:Nat):z03 Go.Proofs.Try.prog 32 (c32 N):=
 z23 (fn:=Go.Proofs.Try.f32) (body:=b32) (c:=x32 N) Go.Proofs.Try.func32 (by kernel_rfl) (by kernel_rfl) ⟨ttL_ok,z0n,z0p,z0q,z0o,z0e⟩ mixed (by kernel_rfl) (zL (by kernel_rfl)) (by kernel_rfl) (by decide)
  (z0b (by kernel_rfl:z00 b32=[z04 3 (z00 b32)]) (.cons (l32_3 N) .nil)) fun d=>e32 N d.1
def zsr {R:Type} (N:Nat) (t6:List Int) (t7:Int) (kb:Int×Int->Option R) (kret:Bool->Option R) (kx0:Unit->Option R):Int×Int->Option R:=
 fun (t8,t3)=>
  cond (decide (t8 < t7))
   ((idx t6 t8).bind fun x=>
   (cond (decide (x < 0))
     (some true)
     (some (decide (t3 < x)))).bind fun b=>
   cond b
    (kret false)
    (kb ((z0l (t8+1)),(zsa t3 (z0l (x+1))))))
   (kx0 ())
def f80 (N:Nat) (a0:List Int):Option (Bool):=
 iter (fun w=>zsr N a0 (len a0) w
  (fun t2=>
   some t2)
  (fun (_:Unit)=>
   some true)) N (0,0)
def c80 (N:Nat):Callee:=.pure (.pr (.val .yb) .un) [.bool] fun d=>f80 N d.1
def F80_3:SForm:=⟨[(8,(.val .ya)),(3,(.val .ya)),(6,(.val .yb)),(7,(.val .ya))],[]⟩
def G80_3 (N:Nat):(R:Type)->F80_3.den->(AExit->St->Option R)->Option R:=fun R d k=>iter (fun kb=>zsr N d.1.2.2.1 d.1.2.2.2.1 kb
  (fun y0=>k .ret (St.of [(2,(.data .bool y0))] []))
  (fun _=>k (.exit 0) (St.of [] []))) N (d.1.1,d.1.2.1)
def lp80 (N:Nat):Nat->Option z0m:=fun r=>cond (Nat.beq r 3) (some fun R sl os k=>F80_3.take sl os fun d=>G80_3 N R d k) (none)
def x80 (N:Nat):Ctx:=(mkX N 24 [] [(3,⟨[8,3,6,7],[]⟩)] [(3,[(0,⟨[],[]⟩)])] ⟨[2],[]⟩ (fun _=>none) (lp80 N))
noncomputable def b80:Code:=((Go.Proofs.Try.f80).body).getD .skip
theorem s80_3 (N:Nat) {R:Type} (k:AExit->St->Option R) (t6:List Int) (t7:Int) (kb:List Yp->List Obj->Option R) (x:Int×Int):z0z (x80 N) (z04 3 (z00 b80)) (St.of [(8,(.data .ya x.1)),(3,(.data .ya x.2)),(6,(.data .yb t6)),(7,(.data .ya t7))] []) (z1q (x80 N) 3 ⟨[8,3,6,7],[]⟩ kb k)=zsr N t6 t7 (fun y=>kb [(8,(.data .ya y.1)),(3,(.data .ya y.2)),(6,(.data .yb t6)),(7,(.data .ya t7))] [])
  (fun y0=>k .ret (St.of [(2,(.data .bool y0))] []))
  (fun _=>k (.exit 0) (St.of [] [])) x:=by kernel_rfl
theorem l80_3 (N:Nat):z0r (x80 N) (z04 3 (z00 b80)):=
 z0i (G80_3 N) (by kernel_rfl) (by kernel_rfl) (by kernel_rfl) fun R k d=>
  z0g (st:=fun (x:Int×Int)=>([(8,(.data .ya x.1)),(3,(.data .ya x.2)),(6,(.data .yb d.1.2.2.1)),(7,(.data .ya d.1.2.2.2.1))],[])) (s80_3 N k d.1.2.2.1 d.1.2.2.2.1) N (d.1.1,d.1.2.1)
theorem e80 (N:Nat) (a0:List Int):z1y (x80 N) [.bool] [.tmp 2] b80 (entry (.pr (.val .yb) .un) (a0,()))=f80 N a0:=by kernel_rfl
theorem k80 (N:Nat):z03 Go.Proofs.Try.prog 80 (c80 N):=
 z23 (fn:=Go.Proofs.Try.f80) (body:=b80) (c:=x80 N) Go.Proofs.Try.func80 (by kernel_rfl) (by kernel_rfl) ⟨ttL_ok,z0n,z0p,z0q,z0o,z0e⟩ mixed (by kernel_rfl) (zL (by kernel_rfl)) (by kernel_rfl) (by decide)
  (z0b (by kernel_rfl:z00 b80=[z04 3 (z00 b80)]) (.cons (l80_3 N) .nil)) fun d=>e80 N d.1
def znz {R:Type} (N:Nat) (t20:List Ya) (t21:Int) (o0:Ye) (kb:Int->Option R) (kret:Int->Option R) (kx0:Unit->Option R):Int->Option R:=
 fun t22=>
  cond (decide (t22 < t21))
   ((idx t20 t22).bind fun x=>
   (cond (!(decide ((len x)=o0.1)))
     (some true)
     ((f80 N x).bind fun r=>
     some (!r))).bind fun b_2=>
   cond b_2
    (kret 1)
    (kb (z0l (t22+1))))
   (kx0 ())
def f68 (N:Nat) (a0:Ye):Option (Int):=
 (cond (decide (a0.1 < 1))
   (some true)
   (some (decide (62 < a0.1)))).bind fun b=>
 (cond b
   (some true)
   (some (decide (8 < (len a0.2.1))))).bind fun b_1=>
 cond b_1
  (some 1)
  (iter (fun w=>znz N a0.2.1 (len a0.2.1) a0 w
   (fun t2=>
    some t2)
   (fun (_:Unit)=>
    some 0)) N 0)
def c68 (N:Nat):Callee:=.pure (.pr (.val .yg) .un) [.ya] fun d=>f68 N d.1
def F68_4:SForm:=⟨[(22,(.val .ya)),(1,(.bptr 0 [])),(20,(.val .yc)),(21,(.val .ya))],[.cell (.val .yg)]⟩
def G68_4 (N:Nat):(R:Type)->F68_4.den->(AExit->St->Option R)->Option R:=fun R d k=>iter (fun kb=>znz N d.1.2.2.1 d.1.2.2.2.1 d.2.1 kb
  (fun y0=>k .ret (St.of [(2,(.data .ya y0))] []))
  (fun _=>k (.exit 0) (St.of [] []))) N d.1.1
def lp68 (N:Nat):Nat->Option z0m:=fun r=>cond (Nat.beq r 4) (some fun R sl os k=>F68_4.take sl os fun d=>G68_4 N R d k) (none)
def x68 (N:Nat):Ctx:=(mkX N 37 [(80,[c80 N])] [(4,⟨[22,1,20,21],[]⟩)] [(4,[(0,⟨[],[]⟩)])] ⟨[2],[]⟩ (fun _=>none) (lp68 N))
noncomputable def b68:Code:=((Go.Proofs.Try.f68).body).getD .skip
theorem s68_4 (N:Nat) {R:Type} (k:AExit->St->Option R) (t20:List Ya) (t21:Int) (o0:Ye) (kb:List Yp->List Obj->Option R) (x:Int):z0z (x68 N) (z04 4 (z00 b68)) (St.of [(22,(.data .ya x)),(1,(.bptr 0 [])),(20,(.data .yc t20)),(21,(.data .ya t21))] [.cell (.data .yg o0)]) (z1q (x68 N) 4 ⟨[22,1,20,21],[]⟩ kb k)=znz N t20 t21 o0 (fun y=>kb [(22,(.data .ya y)),(1,(.bptr 0 [])),(20,(.data .yc t20)),(21,(.data .ya t21))] [.cell (.data .yg o0)])
  (fun y0=>k .ret (St.of [(2,(.data .ya y0))] []))
  (fun _=>k (.exit 0) (St.of [] [])) x:=by kernel_rfl
theorem l68_4 (N:Nat):z0r (x68 N) (z04 4 (z00 b68)):=
 z0i (G68_4 N) (by kernel_rfl) (by kernel_rfl) (by kernel_rfl) fun R k d=>
  z0g (st:=fun (x:Int)=>([(22,(.data .ya x)),(1,(.bptr 0 [])),(20,(.data .yc d.1.2.2.1)),(21,(.data .ya d.1.2.2.2.1))],[.cell (.data .yg d.2.1)])) (s68_4 N k d.1.2.2.1 d.1.2.2.2.1 d.2.1) N d.1.1
theorem e68 (N:Nat) (a0:Ye):z1y (x68 N) [.ya] [.tmp 2] b68 (entry (.pr (.val .yg) .un) (a0,()))=f68 N a0:=by kernel_rfl
theorem k68 (N:Nat):z03 Go.Proofs.Try.prog 68 (c68 N):=
 z23 (fn:=Go.Proofs.Try.f68) (body:=b68) (c:=x68 N) Go.Proofs.Try.func68 (by kernel_rfl) (by kernel_rfl) ⟨ttL_ok,z0n,z0p,z0q,z0o,z02 (z01 (k80 N)) (z0e)⟩ mixed (by kernel_rfl) (zL (by kernel_rfl)) (by kernel_rfl) (by decide)
  (z0b (by kernel_rfl:z00 b68=[z04 4 (z00 b68)]) (.cons (l68_4 N) .nil)) fun d=>e68 N d.1
def f96 (N:Nat) (a0:Int):Option (Bool):=
 (cond (decide (a0 < 0))
   (some true)
   (some (decide (1024 < a0)))).bind fun b=>
 some b
def c96 (N:Nat):Callee:=.pure (.pr (.val .ya) .un) [.bool] fun d=>f96 N d.1
def lp96 (N:Nat):Nat->Option z0m:=fun r=>none
def x96 (N:Nat):Ctx:=(mkX N 9 [] [] [] ⟨[2],[]⟩ (fun _=>none) (lp96 N))
noncomputable def b96:Code:=((Go.Proofs.Try.f96).body).getD .skip
theorem e96 (N:Nat) (a0:Int):z1y (x96 N) [.bool] [.tmp 2] b96 (entry (.pr (.val .ya) .un) (a0,()))=f96 N a0:=by kernel_rfl
theorem k96 (N:Nat):z03 Go.Proofs.Try.prog 96 (c96 N):=
 z23 (fn:=Go.Proofs.Try.f96) (body:=b96) (c:=x96 N) Go.Proofs.Try.func96 (by kernel_rfl) (by kernel_rfl) ⟨ttL_ok,z0n,z0p,z0q,z0o,z0e⟩ mixed (by kernel_rfl) (zL (by kernel_rfl)) (by kernel_rfl) (by decide)
  (z0b (by kernel_rfl:z00 b96=[]) .nil) fun d=>e96 N d.1
def zde {R:Type} (N:Nat) (t0:List Int) (t1:Unit) (t7:Int) (kb:Int->Option R) (kret:Int->Option R) (kx0:Unit->Option R):Int->Option R:=
 fun t8=>
  cond (decide (t8 < t7))
   ((idx t0 t8).bind fun x=>
   (f96 N x).bind fun r=>
   cond r
    (kret t8)
    (kb (z0l (t8+1))))
   (kx0 ())
def f110 (N:Nat) (a0:List Int) (a1:Unit):Option (Int):=
 iter (fun w=>zde N a0 a1 (len a0) w
  (fun t4=>
   some t4)
  (fun (_:Unit)=>
   some (-1))) N 0
def c110 (N:Nat):Callee:=.pure (.pr (.val .yb) (.pr (.val .yt) .un)) [.ya] fun d=>f110 N d.1 d.2.1
def F110_2:SForm:=⟨[(8,(.val .ya)),(0,(.val .yb)),(1,(.val .yt)),(7,(.val .ya))],[]⟩
def G110_2 (N:Nat):(R:Type)->F110_2.den->(AExit->St->Option R)->Option R:=fun R d k=>iter (fun kb=>zde N d.1.2.1 d.1.2.2.1 d.1.2.2.2.1 kb
  (fun y0=>k .ret (St.of [(4,(.data .ya y0))] []))
  (fun _=>k (.exit 0) (St.of [] []))) N d.1.1
def lp110 (N:Nat):Nat->Option z0m:=fun r=>cond (Nat.beq r 2) (some fun R sl os k=>F110_2.take sl os fun d=>G110_2 N R d k) (none)
def x110 (N:Nat):Ctx:=(mkX N 19 [(96,[c96 N])] [(2,⟨[8,0,1,7],[]⟩)] [(2,[(0,⟨[],[]⟩)])] ⟨[4],[]⟩ (fun _=>none) (lp110 N))
noncomputable def b110:Code:=((Go.Proofs.Try.f110).body).getD .skip
theorem s110_2 (N:Nat) {R:Type} (k:AExit->St->Option R) (t0:List Int) (t1:Unit) (t7:Int) (kb:List Yp->List Obj->Option R) (x:Int):z0z (x110 N) (z04 2 (z00 b110)) (St.of [(8,(.data .ya x)),(0,(.data .yb t0)),(1,(.data .yt t1)),(7,(.data .ya t7))] []) (z1q (x110 N) 2 ⟨[8,0,1,7],[]⟩ kb k)=zde N t0 t1 t7 (fun y=>kb [(8,(.data .ya y)),(0,(.data .yb t0)),(1,(.data .yt t1)),(7,(.data .ya t7))] [])
  (fun y0=>k .ret (St.of [(4,(.data .ya y0))] []))
  (fun _=>k (.exit 0) (St.of [] [])) x:=by kernel_rfl
theorem l110_2 (N:Nat):z0r (x110 N) (z04 2 (z00 b110)):=
 z0i (G110_2 N) (by kernel_rfl) (by kernel_rfl) (by kernel_rfl) fun R k d=>
  z0g (st:=fun (x:Int)=>([(8,(.data .ya x)),(0,(.data .yb d.1.2.1)),(1,(.data .yt d.1.2.2.1)),(7,(.data .ya d.1.2.2.2.1))],[])) (s110_2 N k d.1.2.1 d.1.2.2.1 d.1.2.2.2.1) N d.1.1
theorem e110 (N:Nat) (a0:List Int) (a1:Unit):z1y (x110 N) [.ya] [.tmp 4] b110 (entry (.pr (.val .yb) (.pr (.val .yt) .un)) (a0,(a1,())))=f110 N a0 a1:=by kernel_rfl
theorem k110 (N:Nat):z03 Go.Proofs.Try.prog 110 (c110 N):=
 z23 (fn:=Go.Proofs.Try.f110) (body:=b110) (c:=x110 N) Go.Proofs.Try.func110 (by kernel_rfl) (by kernel_rfl) ⟨ttL_ok,z0n,z0p,z0q,z0o,z02 (z01 (k96 N)) (z0e)⟩ mixed (by kernel_rfl) (zL (by kernel_rfl)) (by kernel_rfl) (by decide)
  (z0b (by kernel_rfl:z00 b110=[z04 2 (z00 b110)]) (.cons (l110_2 N) .nil)) fun d=>e110 N d.1 d.2.1
def f89 (N:Nat) (a0:List Int) (a1:Unit):Option (Bool):=
 (f110 N a0 a1).bind fun r=>
 some (decide (0≤r))
def c89 (N:Nat):Callee:=.pure (.pr (.val .yb) (.pr (.val .yt) .un)) [.bool] fun d=>f89 N d.1 d.2.1
def lp89 (N:Nat):Nat->Option z0m:=fun r=>none
def x89 (N:Nat):Ctx:=(mkX N 9 [(110,[c110 N])] [] [] ⟨[4],[]⟩ (fun _=>none) (lp89 N))
noncomputable def b89:Code:=((Go.Proofs.Try.f89).body).getD .skip
theorem e89 (N:Nat) (a0:List Int) (a1:Unit):z1y (x89 N) [.bool] [.tmp 4] b89 (entry (.pr (.val .yb) (.pr (.val .yt) .un)) (a0,(a1,())))=f89 N a0 a1:=by kernel_rfl
theorem k89 (N:Nat):z03 Go.Proofs.Try.prog 89 (c89 N):=
 z23 (fn:=Go.Proofs.Try.f89) (body:=b89) (c:=x89 N) Go.Proofs.Try.func89 (by kernel_rfl) (by kernel_rfl) ⟨ttL_ok,z0n,z0p,z0q,z0o,z02 (z01 (k110 N)) (z0e)⟩ mixed (by kernel_rfl) (zL (by kernel_rfl)) (by kernel_rfl) (by decide)
  (z0b (by kernel_rfl:z00 b89=[]) .nil) fun d=>e89 N d.1 d.2.1
def f95 (N:Nat) (a0:List Int) (a1:Ye):Option (Bool):=
 (cond (!(decide ((len a0)=a1.1)))
   (some true)
   ((f89 N a0 ()).bind fun r=>
   some r)).bind fun b=>
 some b
def c95 (N:Nat):Callee:=.pure (.pr (.val .yb) (.pr (.val (.ptr .yg)) .un)) [.bool] fun d=>f95 N d.1 d.2.1
def lp95 (N:Nat):Nat->Option z0m:=fun r=>none
def x95 (N:Nat):Ctx:=(mkX N 13 [(89,[c89 N])] [] [] ⟨[3],[]⟩ (fun _=>none) (lp95 N))
noncomputable def b95:Code:=((Go.Proofs.Try.f95).body).getD .skip
theorem e95 (N:Nat) (a0:List Int) (a1:Ye):z1y (x95 N) [.bool] [.tmp 3] b95 (entry (.pr (.val .yb) (.pr (.val (.ptr .yg)) .un)) (a0,(a1,())))=f95 N a0 a1:=by kernel_rfl
theorem k95 (N:Nat):z03 Go.Proofs.Try.prog 95 (c95 N):=
 z23 (fn:=Go.Proofs.Try.f95) (body:=b95) (c:=x95 N) Go.Proofs.Try.func95 (by kernel_rfl) (by kernel_rfl) ⟨ttL_ok,z0n,z0p,z0q,z0o,z02 (z01 (k89 N)) (z0e)⟩ mixed (by kernel_rfl) (zL (by kernel_rfl)) (by kernel_rfl) (by decide)
  (z0b (by kernel_rfl:z00 b95=[]) .nil) fun d=>e95 N d.1 d.2.1
def zdd {R:Type} (N:Nat) (t0:List Ya) (t1:(Ye×Unit)) (t7:Int) (kb:Int->Option R) (kret:Int->Option R) (kx0:Unit->Option R):Int->Option R:=
 fun t8=>
  cond (decide (t8 < t7))
   ((idx t0 t8).bind fun x=>
   (f95 N x t1.1).bind fun r=>
   cond r
    (kret t8)
    (kb (z0l (t8+1))))
   (kx0 ())
def f112 (N:Nat) (a0:List Ya) (a1:(Ye×Unit)):Option (Int):=
 iter (fun w=>zdd N a0 a1 (len a0) w
  (fun t4=>
   some t4)
  (fun (_:Unit)=>
   some (-1))) N 0
def c112 (N:Nat):Callee:=.pure (.pr (.val .yc) (.pr (.val (.fn 95 (.pair (.ptr .yg) .unit))) .un)) [.ya] fun d=>f112 N d.1 d.2.1
def F112_2:SForm:=⟨[(8,(.val .ya)),(0,(.val .yc)),(1,(.val (.fn 95 (.pair (.ptr .yg) .unit)))),(7,(.val .ya))],[]⟩
def G112_2 (N:Nat):(R:Type)->F112_2.den->(AExit->St->Option R)->Option R:=fun R d k=>iter (fun kb=>zdd N d.1.2.1 d.1.2.2.1 d.1.2.2.2.1 kb
  (fun y0=>k .ret (St.of [(4,(.data .ya y0))] []))
  (fun _=>k (.exit 0) (St.of [] []))) N d.1.1
def lp112 (N:Nat):Nat->Option z0m:=fun r=>cond (Nat.beq r 2) (some fun R sl os k=>F112_2.take sl os fun d=>G112_2 N R d k) (none)
def x112 (N:Nat):Ctx:=(mkX N 19 [(95,[c95 N])] [(2,⟨[8,0,1,7],[]⟩)] [(2,[(0,⟨[],[]⟩)])] ⟨[4],[]⟩ (fun _=>none) (lp112 N))
noncomputable def b112:Code:=((Go.Proofs.Try.f112).body).getD .skip
theorem s112_2 (N:Nat) {R:Type} (k:AExit->St->Option R) (t0:List Ya) (t1:(Ye×Unit)) (t7:Int) (kb:List Yp->List Obj->Option R) (x:Int):z0z (x112 N) (z04 2 (z00 b112)) (St.of [(8,(.data .ya x)),(0,(.data .yc t0)),(1,(.data (.fn 95 (.pair (.ptr .yg) .unit)) t1)),(7,(.data .ya t7))] []) (z1q (x112 N) 2 ⟨[8,0,1,7],[]⟩ kb k)=zdd N t0 t1 t7 (fun y=>kb [(8,(.data .ya y)),(0,(.data .yc t0)),(1,(.data (.fn 95 (.pair (.ptr .yg) .unit)) t1)),(7,(.data .ya t7))] [])
  (fun y0=>k .ret (St.of [(4,(.data .ya y0))] []))
  (fun _=>k (.exit 0) (St.of [] [])) x:=by kernel_rfl
theorem l112_2 (N:Nat):z0r (x112 N) (z04 2 (z00 b112)):=
 z0i (G112_2 N) (by kernel_rfl) (by kernel_rfl) (by kernel_rfl) fun R k d=>
  z0g (st:=fun (x:Int)=>([(8,(.data .ya x)),(0,(.data .yc d.1.2.1)),(1,(.data (.fn 95 (.pair (.ptr .yg) .unit)) d.1.2.2.1)),(7,(.data .ya d.1.2.2.2.1))],[])) (s112_2 N k d.1.2.1 d.1.2.2.1 d.1.2.2.2.1) N d.1.1
theorem e112 (N:Nat) (a0:List Ya) (a1:(Ye×Unit)):z1y (x112 N) [.ya] [.tmp 4] b112 (entry (.pr (.val .yc) (.pr (.val (.fn 95 (.pair (.ptr .yg) .unit))) .un)) (a0,(a1,())))=f112 N a0 a1:=by kernel_rfl
theorem k112 (N:Nat):z03 Go.Proofs.Try.prog 112 (c112 N):=
 z23 (fn:=Go.Proofs.Try.f112) (body:=b112) (c:=x112 N) Go.Proofs.Try.func112 (by kernel_rfl) (by kernel_rfl) ⟨ttL_ok,z0n,z0p,z0q,z0o,z02 (z01 (k95 N)) (z0e)⟩ mixed (by kernel_rfl) (zL (by kernel_rfl)) (by kernel_rfl) (by decide)
  (z0b (by kernel_rfl:z00 b112=[z04 2 (z00 b112)]) (.cons (l112_2 N) .nil)) fun d=>e112 N d.1 d.2.1
def f94 (N:Nat) (a0:List Ya) (a1:(Ye×Unit)):Option (Bool):=
 (f112 N a0 a1).bind fun r=>
 some (decide (0≤r))
def c94 (N:Nat):Callee:=.pure (.pr (.val .yc) (.pr (.val (.fn 95 (.pair (.ptr .yg) .unit))) .un)) [.bool] fun d=>f94 N d.1 d.2.1
def lp94 (N:Nat):Nat->Option z0m:=fun r=>none
def x94 (N:Nat):Ctx:=(mkX N 9 [(112,[c112 N])] [] [] ⟨[4],[]⟩ (fun _=>none) (lp94 N))
noncomputable def b94:Code:=((Go.Proofs.Try.f94).body).getD .skip
theorem e94 (N:Nat) (a0:List Ya) (a1:(Ye×Unit)):z1y (x94 N) [.bool] [.tmp 4] b94 (entry (.pr (.val .yc) (.pr (.val (.fn 95 (.pair (.ptr .yg) .unit))) .un)) (a0,(a1,())))=f94 N a0 a1:=by kernel_rfl
theorem k94 (N:Nat):z03 Go.Proofs.Try.prog 94 (c94 N):=
 z23 (fn:=Go.Proofs.Try.f94) (body:=b94) (c:=x94 N) Go.Proofs.Try.func94 (by kernel_rfl) (by kernel_rfl) ⟨ttL_ok,z0n,z0p,z0q,z0o,z02 (z01 (k112 N)) (z0e)⟩ mixed (by kernel_rfl) (zL (by kernel_rfl)) (by kernel_rfl) (by decide)
  (z0b (by kernel_rfl:z00 b94=[]) .nil) fun d=>e94 N d.1 d.2.1
def f79 (N:Nat) (a0:Ye) (a1:List Ya):Option (Bool):=
 (cond (decide ((len a1) < 1))
   (some true)
   (some (decide (64 < (len a1))))).bind fun b=>
 cond b
  (some false)
  ((f94 N a1 (a0,())).bind fun r=>
  some (!r))
def c79 (N:Nat):Callee:=.pure (.pr (.val .yg) (.pr (.val .yc) .un)) [.bool] fun d=>f79 N d.1 d.2.1
def lp79 (N:Nat):Nat->Option z0m:=fun r=>none
def x79 (N:Nat):Ctx:=(mkX N 17 [(94,[c94 N])] [] [] ⟨[4],[]⟩ (fun _=>none) (lp79 N))
noncomputable def b79:Code:=((Go.Proofs.Try.f79).body).getD .skip
theorem e79 (N:Nat) (a0:Ye) (a1:List Ya):z1y (x79 N) [.bool] [.tmp 4] b79 (entry (.pr (.val .yg) (.pr (.val .yc) .un)) (a0,(a1,())))=f79 N a0 a1:=by kernel_rfl
theorem k79 (N:Nat):z03 Go.Proofs.Try.prog 79 (c79 N):=
 z23 (fn:=Go.Proofs.Try.f79) (body:=b79) (c:=x79 N) Go.Proofs.Try.func79 (by kernel_rfl) (by kernel_rfl) ⟨ttL_ok,z0n,z0p,z0q,z0o,z02 (z01 (k94 N)) (z0e)⟩ mixed (by kernel_rfl) (zL (by kernel_rfl)) (by kernel_rfl) (by decide)
  (z0b (by kernel_rfl:z00 b79=[]) .nil) fun d=>e79 N d.1 d.2.1
def znt {R:Type} (N:Nat) (t9:List Int) (t10:Int) (kb:Int×List Int->Option R) (kx0:Ya->Option R):Int×List Int->Option R:=
 fun (t11,o0)=>
  cond (decide (t11 < t10))
   ((idx t9 t11).bind fun x=>
   cond (decide (x=(len o0)))
    (chk (decide ((Nat.succ (List.length o0))≤z3e)) <|
    chk (inb (o0++(0 :: ([]:List Int))) x) <|
    (idx (o0++(0 :: ([]:List Int))) x).bind fun x_1=>
    chk (inb (o0++(0 :: ([]:List Int))) x) <|
    (idx (o0++(0 :: ([]:List Int))) x).bind fun x_2=>
    (idx (o0++(0 :: ([]:List Int))) x).bind fun x_3=>
    kb ((z0l (t11+1)),(zcx (o0++(0 :: ([]:List Int))) x (z0l (x_1+1)))))
    (chk (inb o0 x) <|
    (idx o0 x).bind fun x_4=>
    chk (inb o0 x) <|
    (idx o0 x).bind fun x_5=>
    (idx o0 x).bind fun x_6=>
    kb ((z0l (t11+1)),(zcx o0 x (z0l (x_4+1))))))
   (kx0 o0)
def f97 (N:Nat) (a0:List Int):Option Ya:=
 (f80 N a0).bind fun r=>
 cond (!r)
  (some ([]:List Int))
  (iter (fun w=>znt N a0 (len a0) w
   (fun o0_1=>
    some o0_1)) N (0,([]:List Int)))
def c97 (N:Nat):Callee:=.pure (.pr (.val .yb) .un) [.yj] fun d=>f97 N d.1
def F97_5:SForm:=⟨[(11,(.val .ya)),(3,(.ref 0)),(9,(.val .yb)),(10,(.val .ya))],[.row .ya]⟩
def G97_5 (N:Nat):(R:Type)->F97_5.den->(AExit->St->Option R)->Option R:=fun R d k=>iter (fun kb=>znt N d.1.2.2.1 d.1.2.2.2.1 kb
  (fun y0=>k (.exit 0) (St.of [(3,(.ref 0 [] 0))] [.row .ya y0 0]))) N (d.1.1,d.2.1)
def lp97 (N:Nat):Nat->Option z0m:=fun r=>cond (Nat.beq r 5) (some fun R sl os k=>F97_5.take sl os fun d=>G97_5 N R d k) (none)
def x97 (N:Nat):Ctx:=(mkX N 30 [(80,[c80 N])] [(5,⟨[11,3,9,10],[(3,none,.row .ya)]⟩)] [(5,[(0,⟨[3],[]⟩)])] ⟨[2],[]⟩ (fun _=>none) (lp97 N))
noncomputable def b97:Code:=((Go.Proofs.Try.f97).body).getD .skip
theorem s97_5 (N:Nat) {R:Type} (k:AExit->St->Option R) (t9:List Int) (t10:Int) (kb:List Yp->List Obj->Option R) (x:Int×List Int):z0z (x97 N) (z04 5 (z00 b97)) (St.of [(11,(.data .ya x.1)),(3,(.ref 0 [] 0)),(9,(.data .yb t9)),(10,(.data .ya t10))] [.row .ya x.2 0]) (z1q (x97 N) 5 ⟨[11,3,9,10],[(3,none,.row .ya)]⟩ kb k)=znt N t9 t10 (fun y=>kb [(11,(.data .ya y.1)),(3,(.ref 0 [] 0)),(9,(.data .yb t9)),(10,(.data .ya t10))] [.row .ya y.2 0])
  (fun y0=>k (.exit 0) (St.of [(3,(.ref 0 [] 0))] [.row .ya y0 0])) x:=by kernel_rfl
theorem l97_5 (N:Nat):z0r (x97 N) (z04 5 (z00 b97)):=
 z0i (G97_5 N) (by kernel_rfl) (by kernel_rfl) (by kernel_rfl) fun R k d=>
  z0g (st:=fun (x:Int×List Int)=>([(11,(.data .ya x.1)),(3,(.ref 0 [] 0)),(9,(.data .yb d.1.2.2.1)),(10,(.data .ya d.1.2.2.2.1))],[.row .ya x.2 0])) (s97_5 N k d.1.2.2.1 d.1.2.2.2.1) N (d.1.1,d.2.1)
theorem e97 (N:Nat) (a0:List Int):z1y (x97 N) [.yj] [.tmp 2] b97 (entry (.pr (.val .yb) .un) (a0,()))=f97 N a0:=by kernel_rfl
theorem k97 (N:Nat):z03 Go.Proofs.Try.prog 97 (c97 N):=
 z23 (fn:=Go.Proofs.Try.f97) (body:=b97) (c:=x97 N) Go.Proofs.Try.func97 (by kernel_rfl) (by kernel_rfl) ⟨ttL_ok,z0n,z0p,z0q,z0o,z02 (z01 (k80 N)) (z0e)⟩ mixed (by kernel_rfl) (zL (by kernel_rfl)) (by kernel_rfl) (by decide)
  (z0b (by kernel_rfl:z00 b97=[z04 5 (z00 b97)]) (.cons (l97_5 N) .nil)) fun d=>e97 N d.1
def f81 (N:Nat) (a0:List Int):Option (Int):=
 (f97 N a0).bind fun r=>
 some (len r)
def c81 (N:Nat):Callee:=.pure (.pr (.val .yb) .un) [.ya] fun d=>f81 N d.1
def lp81 (N:Nat):Nat->Option z0m:=fun r=>none
def x81 (N:Nat):Ctx:=(mkX N 6 [(97,[c97 N])] [] [] ⟨[2],[]⟩ (fun _=>none) (lp81 N))
noncomputable def b81:Code:=((Go.Proofs.Try.f81).body).getD .skip
theorem e81 (N:Nat) (a0:List Int):z1y (x81 N) [.ya] [.tmp 2] b81 (entry (.pr (.val .yb) .un) (a0,()))=f81 N a0:=by kernel_rfl
theorem k81 (N:Nat):z03 Go.Proofs.Try.prog 81 (c81 N):=
 z23 (fn:=Go.Proofs.Try.f81) (body:=b81) (c:=x81 N) Go.Proofs.Try.func81 (by kernel_rfl) (by kernel_rfl) ⟨ttL_ok,z0n,z0p,z0q,z0o,z02 (z01 (k97 N)) (z0e)⟩ mixed (by kernel_rfl) (zL (by kernel_rfl)) (by kernel_rfl) (by decide)
  (z0b (by kernel_rfl:z00 b81=[]) .nil) fun d=>e81 N d.1
def zgu {R:Type} (N:Nat) (t11:List Int) (t53:List Int) (t2_1:List Int) (t44_1:List Ya) (t45_1:Int) (t46_1:Int) (t54:Int) (o1:List Int) (kb:Int×List Int->Option R) (kx2:Ya->Option R):Int×List Int->Option R:=
 fun (t55,o0_1)=>
  cond (decide (t55 < t54))
   ((idx t53 t55).bind fun x_1=>
   chk (inb o0_1 x_1) <|
   (idx o0_1 x_1).bind fun x_2=>
   (idx t11 t55).bind fun x_3=>
   chk (inb o0_1 x_1) <|
   (idx o0_1 x_1).bind fun x_4=>
   (idx o0_1 x_1).bind fun x_5=>
   kb ((z0l (t55+1)),(zcx o0_1 x_1 (z0l (x_2+x_3)))))
   (kx2 o0_1)
def zgt {R:Type} (N:Nat) (t2_2:List Int) (t44_2:List Ya) (t45_2:Int) (t46_2:Int) (t72:Int) (o1_2:List Int) (kb:Int×List Int->Option R) (kx4:Ya->Option R):Int×List Int->Option R:=
 fun (t73,o0_2)=>
  cond (decide (t73 < t72))
   (chk (inb o1_2 t73) <|
   (idx o1_2 t73).bind fun x_6=>
   chk (inb o0_2 t73) <|
   (idx o0_2 t73).bind fun x_7=>
   chk (inb o0_2 t73) <|
   (idx o0_2 t73).bind fun x_8=>
   (idx o0_2 t73).bind fun x_9=>
   kb ((z0l (t73+1)),(zcx o0_2 t73 (zsa x_7 x_6))))
   (kx4 o0_2)
def zo5 {R:Type} (N:Nat) (t2:List Int) (t44:List Ya) (t45:Int) (kb:Int×List Int->Option R) (kx0:Ya->Option R):Int×List Int->Option R:=
 fun (t46,o0)=>
  cond (decide (t46 < t45))
   ((idx t44 t46).bind fun x=>
   chk (((decide (0≤(len o0))) && (decide ((len o0)≤(len o0)))) && (decide ((len o0)≤((z3e:Nat):Int)))) <|
   iter (fun w=>zgu N x t2 t2 t44 t45 t46 (len t2) o0 w
    (fun o1_1=>
     iter (fun w=>zgt N t2 t44 t45 t46 (len o1_1) o1_1 w
      (fun o0_3=>
       kb ((z0l (t46+1)),o0_3))) N (0,o0))) N (0,(List.replicate (Int.toNat (len o0)) 0:List Int)))
   (kx0 o0)
def zgs {R:Type} (N:Nat) (t90:Int) (o0_5:List Int) (kb:Int×Int->Option R) (kx6:Int->Option R):Int×Int->Option R:=
 fun (t91,t17)=>
  cond (decide (t91 < t90))
   (chk (inb o0_5 t91) <|
   (idx o0_5 t91).bind fun x_10=>
   kb ((z0l (t91+1)),(z0l (t17+x_10))))
   (kx6 t17)
def f50 (N:Nat) (a0:Ye) (a1:List Ya) (a2:List Int):Option (Int×Int):=
 (f68 N a0).bind fun r=>
 cond (!(decide (r=0)))
  (some (0,r))
  ((f79 N a0 a1).bind fun r_1=>
  (cond (!r_1)
    (some true)
    (some (!(decide ((len a2)=a0.1))))).bind fun b=>
  (cond b
    (some true)
    ((f80 N a2).bind fun r_2=>
    some (!r_2))).bind fun b_1=>
  cond b_1
   (some (0,1))
   ((f81 N a2).bind fun r_3=>
   chk (((decide (0≤r_3)) && (decide (r_3≤r_3))) && (decide (r_3≤((z3e:Nat):Int)))) <|
   iter (fun w=>zo5 N a2 a1 (len a1) w
    (fun o0_4=>
     iter (fun w=>zgs N (len o0_4) o0_4 w
      (fun t17_1=>
       some (t17_1,0))) N (0,0))) N (0,(List.replicate (Int.toNat r_3) 0:List Int))))
def c50 (N:Nat):Callee:=.pure (.pr (.val .yg) (.pr (.val .yc) (.pr (.val .yb) .un))) [.ya,.ya] fun d=>f50 N d.1 d.2.1 d.2.2.1
def F50_12:SForm:=⟨[(55,(.val .ya)),(11,(.val .yb)),(12,(.ref 0)),(53,(.val .yb)),(9,(.ref 1)),(2,(.val .yb)),(44,(.val .yc)),(45,(.val .ya)),(46,(.val .ya)),(54,(.val .ya))],[.row .ya,.row .ya]⟩
def G50_12 (N:Nat):(R:Type)->F50_12.den->(AExit->St->Option R)->Option R:=fun R d k=>iter (fun kb=>zgu N d.1.2.1 d.1.2.2.2.1 d.1.2.2.2.2.2.1 d.1.2.2.2.2.2.2.1 d.1.2.2.2.2.2.2.2.1 d.1.2.2.2.2.2.2.2.2.1 d.1.2.2.2.2.2.2.2.2.2.1 d.2.2.1 kb
  (fun y5=>k (.exit 2) (St.of [(9,(.ref 0 [] 0)),(2,(.data .yb d.1.2.2.2.2.2.1)),(44,(.data .yc d.1.2.2.2.2.2.2.1)),(45,(.data .ya d.1.2.2.2.2.2.2.2.1)),(46,(.data .ya d.1.2.2.2.2.2.2.2.2.1)),(12,(.ref 1 [] 0))] [.row .ya d.2.2.1 0,.row .ya y5 0]))) N (d.1.1,d.2.1)
def F50_17:SForm:=⟨[(73,(.val .ya)),(9,(.ref 0)),(71,(.ref 1)),(2,(.val .yb)),(44,(.val .yc)),(45,(.val .ya)),(46,(.val .ya)),(72,(.val .ya))],[.row .ya,.row .ya]⟩
def G50_17 (N:Nat):(R:Type)->F50_17.den->(AExit->St->Option R)->Option R:=fun R d k=>iter (fun kb=>zgt N d.1.2.2.2.1 d.1.2.2.2.2.1 d.1.2.2.2.2.2.1 d.1.2.2.2.2.2.2.1 d.1.2.2.2.2.2.2.2.1 d.2.2.1 kb
  (fun y4=>k (.exit 4) (St.of [(9,(.ref 0 [] 0)),(2,(.data .yb d.1.2.2.2.1)),(44,(.data .yc d.1.2.2.2.2.1)),(45,(.data .ya d.1.2.2.2.2.2.1)),(46,(.data .ya d.1.2.2.2.2.2.2.1))] [.row .ya y4 0]))) N (d.1.1,d.2.1)
def F50_8:SForm:=⟨[(9,(.ref 0)),(46,(.val .ya)),(2,(.val .yb)),(44,(.val .yc)),(45,(.val .ya))],[.row .ya]⟩
def G50_8 (N:Nat):(R:Type)->F50_8.den->(AExit->St->Option R)->Option R:=fun R d k=>iter (fun kb=>zo5 N d.1.2.2.1 d.1.2.2.2.1 d.1.2.2.2.2.1 kb
  (fun y0=>k (.exit 0) (St.of [(9,(.ref 0 [] 0))] [.row .ya y0 0]))) N (d.1.2.1,d.2.1)
def F50_24:SForm:=⟨[(91,(.val .ya)),(17,(.val .ya)),(89,(.ref 0)),(90,(.val .ya))],[.row .ya]⟩
def G50_24 (N:Nat):(R:Type)->F50_24.den->(AExit->St->Option R)->Option R:=fun R d k=>iter (fun kb=>zgs N d.1.2.2.2.1 d.2.1 kb
  (fun y0=>k (.exit 6) (St.of [(17,(.data .ya y0))] []))) N (d.1.1,d.1.2.1)
def lp50 (N:Nat):Nat->Option z0m:=fun r=>cond (Nat.beq r 12) (some fun R sl os k=>F50_12.take sl os fun d=>G50_12 N R d k) (cond (Nat.beq r 17) (some fun R sl os k=>F50_17.take sl os fun d=>G50_17 N R d k) (cond (Nat.beq r 8) (some fun R sl os k=>F50_8.take sl os fun d=>G50_8 N R d k) (cond (Nat.beq r 24) (some fun R sl os k=>F50_24.take sl os fun d=>G50_24 N R d k) (none))))
def x50 (N:Nat):Ctx:=(mkX N 100 [(68,[c68 N]),(79,[c79 N]),(80,[c80 N]),(81,[c81 N])] [(8,⟨[9,46,2,44,45],[]⟩),(12,⟨[55,11,12,53,9,2,44,45,46,54],[]⟩),(17,⟨[73,9,71,2,44,45,46,72],[]⟩),(24,⟨[91,17,89,90],[]⟩)] [(8,[(0,⟨[9],[]⟩)]),(12,[(2,⟨[9,2,44,45,46,12],[]⟩)]),(17,[(4,⟨[9,2,44,45,46],[]⟩)]),(24,[(6,⟨[17],[]⟩)])] ⟨[6,7],[]⟩ (fun _=>none) (lp50 N))
noncomputable def b50:Code:=((Go.Proofs.Try.f50).body).getD .skip
theorem s50_12 (N:Nat) {R:Type} (k:AExit->St->Option R) (t11:List Int) (t53:List Int) (t2_1:List Int) (t44_1:List Ya) (t45_1:Int) (t46_1:Int) (t54:Int) (o1:List Int) (kb:List Yp->List Obj->Option R) (x:Int×List Int):z0z (x50 N) (z04 12 (z00 b50)) (St.of [(55,(.data .ya x.1)),(11,(.data .yb t11)),(12,(.ref 0 [] 0)),(53,(.data .yb t53)),(9,(.ref 1 [] 0)),(2,(.data .yb t2_1)),(44,(.data .yc t44_1)),(45,(.data .ya t45_1)),(46,(.data .ya t46_1)),(54,(.data .ya t54))] [.row .ya x.2 0,.row .ya o1 0]) (z1q (x50 N) 12 ⟨[55,11,12,53,9,2,44,45,46,54],[]⟩ kb k)=zgu N t11 t53 t2_1 t44_1 t45_1 t46_1 t54 o1 (fun y=>kb [(55,(.data .ya y.1)),(11,(.data .yb t11)),(12,(.ref 0 [] 0)),(53,(.data .yb t53)),(9,(.ref 1 [] 0)),(2,(.data .yb t2_1)),(44,(.data .yc t44_1)),(45,(.data .ya t45_1)),(46,(.data .ya t46_1)),(54,(.data .ya t54))] [.row .ya y.2 0,.row .ya o1 0])
  (fun y5=>k (.exit 2) (St.of [(9,(.ref 0 [] 0)),(2,(.data .yb t2_1)),(44,(.data .yc t44_1)),(45,(.data .ya t45_1)),(46,(.data .ya t46_1)),(12,(.ref 1 [] 0))] [.row .ya o1 0,.row .ya y5 0])) x:=by kernel_rfl
theorem l50_12 (N:Nat):z0r (x50 N) (z04 12 (z00 b50)):=
 z0i (G50_12 N) (by kernel_rfl) (by kernel_rfl) (by kernel_rfl) fun R k d=>
  z0g (st:=fun (x:Int×List Int)=>([(55,(.data .ya x.1)),(11,(.data .yb d.1.2.1)),(12,(.ref 0 [] 0)),(53,(.data .yb d.1.2.2.2.1)),(9,(.ref 1 [] 0)),(2,(.data .yb d.1.2.2.2.2.2.1)),(44,(.data .yc d.1.2.2.2.2.2.2.1)),(45,(.data .ya d.1.2.2.2.2.2.2.2.1)),(46,(.data .ya d.1.2.2.2.2.2.2.2.2.1)),(54,(.data .ya d.1.2.2.2.2.2.2.2.2.2.1))],[.row .ya x.2 0,.row .ya d.2.2.1 0])) (s50_12 N k d.1.2.1 d.1.2.2.2.1 d.1.2.2.2.2.2.1 d.1.2.2.2.2.2.2.1 d.1.2.2.2.2.2.2.2.1 d.1.2.2.2.2.2.2.2.2.1 d.1.2.2.2.2.2.2.2.2.2.1 d.2.2.1) N (d.1.1,d.2.1)
theorem s50_17 (N:Nat) {R:Type} (k:AExit->St->Option R) (t2_2:List Int) (t44_2:List Ya) (t45_2:Int) (t46_2:Int) (t72:Int) (o1_2:List Int) (kb:List Yp->List Obj->Option R) (x:Int×List Int):z0z (x50 N) (z04 17 (z00 b50)) (St.of [(73,(.data .ya x.1)),(9,(.ref 0 [] 0)),(71,(.ref 1 [] 0)),(2,(.data .yb t2_2)),(44,(.data .yc t44_2)),(45,(.data .ya t45_2)),(46,(.data .ya t46_2)),(72,(.data .ya t72))] [.row .ya x.2 0,.row .ya o1_2 0]) (z1q (x50 N) 17 ⟨[73,9,71,2,44,45,46,72],[]⟩ kb k)=zgt N t2_2 t44_2 t45_2 t46_2 t72 o1_2 (fun y=>kb [(73,(.data .ya y.1)),(9,(.ref 0 [] 0)),(71,(.ref 1 [] 0)),(2,(.data .yb t2_2)),(44,(.data .yc t44_2)),(45,(.data .ya t45_2)),(46,(.data .ya t46_2)),(72,(.data .ya t72))] [.row .ya y.2 0,.row .ya o1_2 0])
  (fun y4=>k (.exit 4) (St.of [(9,(.ref 0 [] 0)),(2,(.data .yb t2_2)),(44,(.data .yc t44_2)),(45,(.data .ya t45_2)),(46,(.data .ya t46_2))] [.row .ya y4 0])) x:=by kernel_rfl
theorem l50_17 (N:Nat):z0r (x50 N) (z04 17 (z00 b50)):=
 z0i (G50_17 N) (by kernel_rfl) (by kernel_rfl) (by kernel_rfl) fun R k d=>
  z0g (st:=fun (x:Int×List Int)=>([(73,(.data .ya x.1)),(9,(.ref 0 [] 0)),(71,(.ref 1 [] 0)),(2,(.data .yb d.1.2.2.2.1)),(44,(.data .yc d.1.2.2.2.2.1)),(45,(.data .ya d.1.2.2.2.2.2.1)),(46,(.data .ya d.1.2.2.2.2.2.2.1)),(72,(.data .ya d.1.2.2.2.2.2.2.2.1))],[.row .ya x.2 0,.row .ya d.2.2.1 0])) (s50_17 N k d.1.2.2.2.1 d.1.2.2.2.2.1 d.1.2.2.2.2.2.1 d.1.2.2.2.2.2.2.1 d.1.2.2.2.2.2.2.2.1 d.2.2.1) N (d.1.1,d.2.1)
theorem s50_8 (N:Nat) {R:Type} (k:AExit->St->Option R) (t2:List Int) (t44:List Ya) (t45:Int) (kb:List Yp->List Obj->Option R) (x:Int×List Int):z0z (x50 N) (z04 8 (z00 b50)) (St.of [(9,(.ref 0 [] 0)),(46,(.data .ya x.1)),(2,(.data .yb t2)),(44,(.data .yc t44)),(45,(.data .ya t45))] [.row .ya x.2 0]) (z1q (x50 N) 8 ⟨[9,46,2,44,45],[]⟩ kb k)=zo5 N t2 t44 t45 (fun y=>kb [(9,(.ref 0 [] 0)),(46,(.data .ya y.1)),(2,(.data .yb t2)),(44,(.data .yc t44)),(45,(.data .ya t45))] [.row .ya y.2 0])
  (fun y0=>k (.exit 0) (St.of [(9,(.ref 0 [] 0))] [.row .ya y0 0])) x:=by kernel_rfl
theorem l50_8 (N:Nat):z0r (x50 N) (z04 8 (z00 b50)):=
 z0i (G50_8 N) (by kernel_rfl) (by kernel_rfl) (by kernel_rfl) fun R k d=>
  z0g (st:=fun (x:Int×List Int)=>([(9,(.ref 0 [] 0)),(46,(.data .ya x.1)),(2,(.data .yb d.1.2.2.1)),(44,(.data .yc d.1.2.2.2.1)),(45,(.data .ya d.1.2.2.2.2.1))],[.row .ya x.2 0])) (s50_8 N k d.1.2.2.1 d.1.2.2.2.1 d.1.2.2.2.2.1) N (d.1.2.1,d.2.1)
theorem s50_24 (N:Nat) {R:Type} (k:AExit->St->Option R) (t90:Int) (o0_5:List Int) (kb:List Yp->List Obj->Option R) (x:Int×Int):z0z (x50 N) (z04 24 (z00 b50)) (St.of [(91,(.data .ya x.1)),(17,(.data .ya x.2)),(89,(.ref 0 [] 0)),(90,(.data .ya t90))] [.row .ya o0_5 0]) (z1q (x50 N) 24 ⟨[91,17,89,90],[]⟩ kb k)=zgs N t90 o0_5 (fun y=>kb [(91,(.data .ya y.1)),(17,(.data .ya y.2)),(89,(.ref 0 [] 0)),(90,(.data .ya t90))] [.row .ya o0_5 0])
  (fun y0=>k (.exit 6) (St.of [(17,(.data .ya y0))] [])) x:=by kernel_rfl
theorem l50_24 (N:Nat):z0r (x50 N) (z04 24 (z00 b50)):=
 z0i (G50_24 N) (by kernel_rfl) (by kernel_rfl) (by kernel_rfl) fun R k d=>
  z0g (st:=fun (x:Int×Int)=>([(91,(.data .ya x.1)),(17,(.data .ya x.2)),(89,(.ref 0 [] 0)),(90,(.data .ya d.1.2.2.2.1))],[.row .ya d.2.1 0])) (s50_24 N k d.1.2.2.2.1 d.2.1) N (d.1.1,d.1.2.1)
theorem e50 (N:Nat) (a0:Ye) (a1:List Ya) (a2:List Int):z1y (x50 N) [.ya,.ya] [.tmp 6,.tmp 7] b50 (entry (.pr (.val .yg) (.pr (.val .yc) (.pr (.val .yb) .un))) (a0,(a1,(a2,()))))=f50 N a0 a1 a2:=by kernel_rfl
theorem k50 (N:Nat):z03 Go.Proofs.Try.prog 50 (c50 N):=
 z23 (fn:=Go.Proofs.Try.f50) (body:=b50) (c:=x50 N) Go.Proofs.Try.func50 (by kernel_rfl) (by kernel_rfl) ⟨ttL_ok,z0n,z0p,z0q,z0o,z02 (z01 (k68 N)) (z02 (z01 (k79 N)) (z02 (z01 (k80 N)) (z02 (z01 (k81 N)) (z0e))))⟩ mixed (by kernel_rfl) (zL (by kernel_rfl)) (by kernel_rfl) (by decide)
  (z0b (by kernel_rfl:z00 b50=[z04 8 (z00 b50),z04 12 (z00 b50),z04 17 (z00 b50),z04 24 (z00 b50)]) (.cons (l50_8 N) (.cons (l50_12 N) (.cons (l50_17 N) (.cons (l50_24 N) .nil))))) fun d=>e50 N d.1 d.2.1 d.2.2.1
def f33 (N:Nat) (a0:Ye) (a1:List Ya) (a2:Int):Option (Int):=
 (f68 N a0).bind fun r=>
 cond (!(decide (r=0)))
  (some 1)
  (chk (((decide (0≤a0.1)) && (decide (a0.1≤a0.1))) && (decide (a0.1≤((z3e:Nat):Int)))) <|
  (f50 N a0 a1 (List.replicate (Int.toNat a0.1) 0:List Int)).bind fun r_1=>
  (cond (!(decide (r_1.2=0)))
    (some true)
    (some (decide (a2 < 0)))).bind fun b=>
  (cond b
    (some true)
    (some (decide (8 < a2)))).bind fun b_1=>
  cond b_1
   (some 1)
   (some 0))
def c33 (N:Nat):Callee:=.pure (.pr (.val .yg) (.pr (.val .yc) (.pr (.val .ya) .un))) [.ya] fun d=>f33 N d.1 d.2.1 d.2.2.1
def lp33 (N:Nat):Nat->Option z0m:=fun r=>none
def x33 (N:Nat):Ctx:=(mkX N 31 [(68,[c68 N]),(50,[c50 N])] [] [] ⟨[6],[]⟩ (fun _=>none) (lp33 N))
noncomputable def b33:Code:=((Go.Proofs.Try.f33).body).getD .skip
theorem e33 (N:Nat) (a0:Ye) (a1:List Ya) (a2:Int):z1y (x33 N) [.ya] [.tmp 6] b33 (entry (.pr (.val .yg) (.pr (.val .yc) (.pr (.val .ya) .un))) (a0,(a1,(a2,()))))=f33 N a0 a1 a2:=by kernel_rfl
theorem k33 (N:Nat):z03 Go.Proofs.Try.prog 33 (c33 N):=
 z23 (fn:=Go.Proofs.Try.f33) (body:=b33) (c:=x33 N) Go.Proofs.Try.func33 (by kernel_rfl) (by kernel_rfl) ⟨ttL_ok,z0n,z0p,z0q,z0o,z02 (z01 (k68 N)) (z02 (z01 (k50 N)) (z0e))⟩ mixed (by kernel_rfl) (zL (by kernel_rfl)) (by kernel_rfl) (by decide)
  (z0b (by kernel_rfl:z00 b33=[]) .nil) fun d=>e33 N d.1 d.2.1 d.2.2.1
def f35 (N:Nat) (a0:Ye):Option (Int):=
 cond (decide (a0.1 < 0))
  (none)
  (some (z0l ((z0l (1*(2 ^ (min (Int.toNat a0.1) 64))))-1)))
def c35 (N:Nat):Callee:=.pure (.pr (.val .yg) .un) [.ya] fun d=>f35 N d.1
def lp35 (N:Nat):Nat->Option z0m:=fun r=>none
def x35 (N:Nat):Ctx:=(mkX N 7 [] [] [] ⟨[2],[]⟩ (fun _=>none) (lp35 N))
noncomputable def b35:Code:=((Go.Proofs.Try.f35).body).getD .skip
theorem e35 (N:Nat) (a0:Ye):z1y (x35 N) [.ya] [.tmp 2] b35 (entry (.pr (.val .yg) .un) (a0,()))=f35 N a0:=by kernel_rfl
theorem k35 (N:Nat):z03 Go.Proofs.Try.prog 35 (c35 N):=
 z23 (fn:=Go.Proofs.Try.f35) (body:=b35) (c:=x35 N) Go.Proofs.Try.func35 (by kernel_rfl) (by kernel_rfl) ⟨ttL_ok,z0n,z0p,z0q,z0o,z0e⟩ mixed (by kernel_rfl) (zL (by kernel_rfl)) (by kernel_rfl) (by decide)
  (z0b (by kernel_rfl:z00 b35=[]) .nil) fun d=>e35 N d.1
def zsq {R:Type} (N:Nat) (t0:List Int) (kb:Int×Int->Option R) (kx0:Int->Option R):Int×Int->Option R:=
 fun (t4,t3)=>
  cond (decide (t4 < (len t0)))
   ((idx t0 t4).bind fun x_1=>
   kb ((z0l (t4+1)),(zsa t3 x_1)))
   (kx0 t3)
def f93 (N:Nat) (a0:List Int):Option (Int):=
 cond (decide ((len a0) < 1))
  (none)
  ((idx a0 0).bind fun x=>
  iter (fun w=>zsq N a0 w
   (fun t3_1=>
    some t3_1)) N (1,x))
def c93 (N:Nat):Callee:=.pure (.pr (.val .yb) .un) [.ya] fun d=>f93 N d.1
def F93_5:SForm:=⟨[(4,(.val .ya)),(0,(.val .yb)),(3,(.val .ya))],[]⟩
def G93_5 (N:Nat):(R:Type)->F93_5.den->(AExit->St->Option R)->Option R:=fun R d k=>iter (fun kb=>zsq N d.1.2.1 kb
  (fun y0=>k (.exit 0) (St.of [(3,(.data .ya y0))] []))) N (d.1.1,d.1.2.2.1)
def lp93 (N:Nat):Nat->Option z0m:=fun r=>cond (Nat.beq r 5) (some fun R sl os k=>F93_5.take sl os fun d=>G93_5 N R d k) (none)
def x93 (N:Nat):Ctx:=(mkX N 25 [] [(5,⟨[4,0,3],[]⟩)] [(5,[(0,⟨[3],[]⟩)])] ⟨[2],[]⟩ (fun _=>none) (lp93 N))
noncomputable def b93:Code:=((Go.Proofs.Try.f93).body).getD .skip
theorem s93_5 (N:Nat) {R:Type} (k:AExit->St->Option R) (t0:List Int) (kb:List Yp->List Obj->Option R) (x:Int×Int):z0z (x93 N) (z04 5 (z00 b93)) (St.of [(4,(.data .ya x.1)),(0,(.data .yb t0)),(3,(.data .ya x.2))] []) (z1q (x93 N) 5 ⟨[4,0,3],[]⟩ kb k)=zsq N t0 (fun y=>kb [(4,(.data .ya y.1)),(0,(.data .yb t0)),(3,(.data .ya y.2))] [])
  (fun y0=>k (.exit 0) (St.of [(3,(.data .ya y0))] [])) x:=by kernel_rfl
theorem l93_5 (N:Nat):z0r (x93 N) (z04 5 (z00 b93)):=
 z0i (G93_5 N) (by kernel_rfl) (by kernel_rfl) (by kernel_rfl) fun R k d=>
  z0g (st:=fun (x:Int×Int)=>([(4,(.data .ya x.1)),(0,(.data .yb d.1.2.1)),(3,(.data .ya x.2))],[])) (s93_5 N k d.1.2.1) N (d.1.1,d.1.2.2.1)
theorem e93 (N:Nat) (a0:List Int):z1y (x93 N) [.ya] [.tmp 2] b93 (entry (.pr (.val .yb) .un) (a0,()))=f93 N a0:=by kernel_rfl
theorem k93 (N:Nat):z03 Go.Proofs.Try.prog 93 (c93 N):=
 z23 (fn:=Go.Proofs.Try.f93) (body:=b93) (c:=x93 N) Go.Proofs.Try.func93 (by kernel_rfl) (by kernel_rfl) ⟨ttL_ok,z0n,z0p,z0q,z0o,z0e⟩ mixed (by kernel_rfl) (zL (by kernel_rfl)) (by kernel_rfl) (by decide)
  (z0b (by kernel_rfl:z00 b93=[z04 5 (z00 b93)]) (.cons (l93_5 N) .nil)) fun d=>e93 N d.1
def zny {R:Type} (N:Nat) (t1:Int) (t12:List Int) (t13:Int) (kb:Int×List Int->Option R) (kx0:Ya->Option R):Int×List Int->Option R:=
 fun (t14,o0)=>
  cond (decide (t14 < t13))
   ((idx t12 t14).bind fun x=>
   chk (inb o0 x) <|
   (idx o0 x).bind fun x_1=>
   cond (decide (t14 < 0))
    (none)
    (chk (inb o0 x) <|
    (idx o0 x).bind fun x_2=>
    (idx o0 x).bind fun x_3=>
    kb ((z0l (t14+1)),(zcx o0 x (z0l (((((BitVec.ofInt 64 x_1).or
  (BitVec.ofInt 64
   (Go.IntKind.i64.wrap
    ↑((BitVec.ofInt 64 t1).and
       (BitVec.ofInt 64 (Go.IntKind.i64.wrap (Int.mul 1 (Int.pow 2 (min (Int.toNat t14) 64)))))).toNat))).toNat):Nat):Int))))))
   (kx0 o0)
def f76 (N:Nat) (a0:List Int) (a1:Int):Option Ya:=
 (f93 N a0).bind fun r=>
 chk (((decide (0≤(z0l (r+1)))) && (decide ((z0l (r+1))≤(z0l (r+1))))) && (decide ((z0l (r+1))≤((z3e:Nat):Int)))) <|
 iter (fun w=>zny N a1 a0 (len a0) w
  (fun o0_1=>
   some o0_1)) N (0,(List.replicate (Int.toNat (z0l (r+1))) 0:List Int))
def c76 (N:Nat):Callee:=.pure (.pr (.val .yb) (.pr (.val .ya) .un)) [.yj] fun d=>f76 N d.1 d.2.1
def F76_3:SForm:=⟨[(14,(.val .ya)),(1,(.val .ya)),(5,(.ref 0)),(12,(.val .yb)),(13,(.val .ya))],[.row .ya]⟩
def G76_3 (N:Nat):(R:Type)->F76_3.den->(AExit->St->Option R)->Option R:=fun R d k=>iter (fun kb=>zny N d.1.2.1 d.1.2.2.2.1 d.1.2.2.2.2.1 kb
  (fun y0=>k (.exit 0) (St.of [(5,(.ref 0 [] 0))] [.row .ya y0 0]))) N (d.1.1,d.2.1)
def lp76 (N:Nat):Nat->Option z0m:=fun r=>cond (Nat.beq r 3) (some fun R sl os k=>F76_3.take sl os fun d=>G76_3 N R d k) (none)
def x76 (N:Nat):Ctx:=(mkX N 31 [(93,[c93 N])] [(3,⟨[14,1,5,12,13],[]⟩)] [(3,[(0,⟨[5],[]⟩)])] ⟨[4],[]⟩ (fun _=>none) (lp76 N))
noncomputable def b76:Code:=((Go.Proofs.Try.f76).body).getD .skip
theorem s76_3 (N:Nat) {R:Type} (k:AExit->St->Option R) (t1:Int) (t12:List Int) (t13:Int) (kb:List Yp->List Obj->Option R) (x:Int×List Int):z0z (x76 N) (z04 3 (z00 b76)) (St.of [(14,(.data .ya x.1)),(1,(.data .ya t1)),(5,(.ref 0 [] 0)),(12,(.data .yb t12)),(13,(.data .ya t13))] [.row .ya x.2 0]) (z1q (x76 N) 3 ⟨[14,1,5,12,13],[]⟩ kb k)=zny N t1 t12 t13 (fun y=>kb [(14,(.data .ya y.1)),(1,(.data .ya t1)),(5,(.ref 0 [] 0)),(12,(.data .yb t12)),(13,(.data .ya t13))] [.row .ya y.2 0])
  (fun y0=>k (.exit 0) (St.of [(5,(.ref 0 [] 0))] [.row .ya y0 0])) x:=by kernel_rfl
theorem l76_3 (N:Nat):z0r (x76 N) (z04 3 (z00 b76)):=
 z0i (G76_3 N) (by kernel_rfl) (by kernel_rfl) (by kernel_rfl) fun R k d=>
  z0g (st:=fun (x:Int×List Int)=>([(14,(.data .ya x.1)),(1,(.data .ya d.1.2.1)),(5,(.ref 0 [] 0)),(12,(.data .yb d.1.2.2.2.1)),(13,(.data .ya d.1.2.2.2.2.1))],[.row .ya x.2 0])) (s76_3 N k d.1.2.1 d.1.2.2.2.1 d.1.2.2.2.2.1) N (d.1.1,d.2.1)
theorem e76 (N:Nat) (a0:List Int) (a1:Int):z1y (x76 N) [.yj] [.tmp 4] b76 (entry (.pr (.val .yb) (.pr (.val .ya) .un)) (a0,(a1,())))=f76 N a0 a1:=by kernel_rfl
theorem k76 (N:Nat):z03 Go.Proofs.Try.prog 76 (c76 N):=
 z23 (fn:=Go.Proofs.Try.f76) (body:=b76) (c:=x76 N) Go.Proofs.Try.func76 (by kernel_rfl) (by kernel_rfl) ⟨ttL_ok,z0n,z0p,z0q,z0o,z02 (z01 (k93 N)) (z0e)⟩ mixed (by kernel_rfl) (zL (by kernel_rfl)) (by kernel_rfl) (by decide)
  (z0b (by kernel_rfl:z00 b76=[z04 3 (z00 b76)]) (.cons (l76_3 N) .nil)) fun d=>e76 N d.1 d.2.1
def zcd {R:Type} (N:Nat) (r52:Yd->Ye->Yl->Yg->Option (Yae)) (t39_1:List Ya) (t40_1:Int) (t41_1:Int) (t49:Int) (o2_1:Yd) (o3:List Int) (kb:Int×Ye×List Ya×Yg->Option R) (kret:Bool->Ye->Yl->Yg->Option R) (kx2:Ye->Yl->Yg->Option R):Int×Ye×List Ya×Yg->Option R:=
 fun (t50,o0_2,o0'_2,o1_2)=>
  cond (decide (t50 < t49))
   (chk (inb o3 t50) <|
   (idx o3 t50).bind fun x_1=>
   cond (!(decide (x_1=0)))
    ((r52 (x_1,((z0l (o2_1.2.1-1)),())) o0_2 o0'_2 o1_2).bind fun r_1=>
    cond (!r_1.1.2.1)
     (kret false r_1.2.1.1 r_1.2.1.2.1 r_1.2.2.1)
     (kb ((z0l (t50+1)),r_1.2.1.1,r_1.2.1.2.1,r_1.2.2.1)))
    (kb ((z0l (t50+1)),o0_2,o0'_2,o1_2)))
   (kx2 o0_2 o0'_2 o1_2)
def zce {R:Type} (N:Nat) (r52:Yd->Ye->Yl->Yg->Option (Yae)) (t39:List Ya) (t40:Int) (o2:Yd) (kb:Int×Ye×List Ya×Yg->Option R) (kret:Bool->Ye->Yl->Yg->Option R) (kx0:Ye->Yl->Yg->Option R):Int×Ye×List Ya×Yg->Option R:=
 fun (t41,o0_1,o0'_1,o1_1)=>
  cond (decide (t41 < t40))
   ((idx t39 t41).bind fun x=>
   (f76 N x o2.1).bind fun r=>
   iter (fun w=>zcd N r52 t39 t40 t41 (len r) o2 r w
    (fun t4 o0_3 o0'_3 o1_3=>
     kret t4 o0_3 o0'_3 o1_3)
    (fun o0_4 o0'_4 o1_4=>
     kb ((z0l (t41+1)),o0_4,o0'_4,o1_4))) N (0,o0_1,o0'_1,o1_1))
   (kx0 o0_1 o0'_1 o1_1)
def f52B (N:Nat) (r52:Yd->Ye->Yl->Yg->Option (Yae)) (t1:Yd) (o0:Ye) (o0':List Ya) (o1:List Yf):Option (Yae):=
 cond (Option.isSome (z9a (eqD .ye) o1 t1))
  (some (((),(true,())),((o0,(o0',((),()))),(o1,()))))
  (chk (decide ((List.length o1)≤z3e)) <|
  cond (decide ((len o1)=4096))
   (some (((),(false,())),((o0,(o0',((),()))),(o1,()))))
   (cond (decide (t1.2.1=0))
    (some (((),(true,())),((o0,(o0',((),()))),((zcp (eqD .ye) o1 t1 (-1)),()))))
    (iter (fun w=>zce N r52 o0.2.1 (len o0.2.1) t1 w
     (fun t4_1 o0_5 o0'_5 o1_5=>
      some (((),(t4_1,())),((o0_5,(o0'_5,((),()))),(o1_5,()))))
     (fun o0_6 o0'_6 o1_6=>
      some (((),(true,())),((o0_6,(o0'_6,((),()))),(o1_6,()))))) N (0,o0,o0',(zcp (eqD .ye) o1 t1 (-1))))))
def fi52B:SForm:=⟨[(0,(.bptr 0 [])),(1,(.val .ye))],[.con (.agg (.pr (.val .yg) (.pr (.val .yc) (.pr (.mref 1) .un)))),.map .ye .ya]⟩
def fo52B:SForm:=⟨[(0,(.bptr 0 [])),(4,(.val .bool))],[.con (.agg (.pr (.val .yg) (.pr (.val .yc) (.pr (.mref 1) .un)))),.map .ye .ya]⟩
def c52B (N:Nat) (r52:Yd->Ye->Yl->Yg->Option (Yae)):Callee:=.mut fi52B [0] fo52B fun d=>f52B N r52 d.1.2.1 d.2.1.1 d.2.1.2.1 d.2.2.1
def zyo:SForm:=⟨[(0,(.bptr 0 [])),(50,(.val .ya)),(3,(.bptr 2 [])),(48,(.ref 3)),(39,(.val .yc)),(40,(.val .ya)),(41,(.val .ya)),(49,(.val .ya))],[.con (.agg (.pr (.val .yg) (.pr (.val .yc) (.pr (.mref 1) .un)))),.map .ye .ya,.cell (.val .ye),.row .ya]⟩
def zyk (N:Nat) (r52:Yd->Ye->Yl->Yg->Option (Yae)):(R:Type)->zyo.den->(AExit->St->Option R)->Option R:=fun R d k=>iter (fun kb=>zcd N r52 d.1.2.2.2.2.1 d.1.2.2.2.2.2.1 d.1.2.2.2.2.2.2.1 d.1.2.2.2.2.2.2.2.1 d.2.2.2.1 d.2.2.2.2.1 kb
  (fun y0 y1 y2 y3=>k .ret (St.of [(0,(.bptr 0 [])),(4,(.data .bool y0))] [.cell (.tup (.agg (.pr (.data .yg y1) (.pr (.data .yc y2) (.pr (.mref 1) .un))))),.map .ye .ya y3]))
  (fun y3 y4 y5=>k (.exit 2) (St.of [(0,(.bptr 0 [])),(3,(.bptr 2 [])),(39,(.data .yc d.1.2.2.2.2.1)),(40,(.data .ya d.1.2.2.2.2.2.1)),(41,(.data .ya d.1.2.2.2.2.2.2.1))] [.cell (.tup (.agg (.pr (.data .yg y3) (.pr (.data .yc y4) (.pr (.mref 1) .un))))),.map .ye .ya y5,.cell (.data .ye d.2.2.2.1)]))) N (d.1.2.1,d.2.1.1,d.2.1.2.1,d.2.2.1)
def zyp:SForm:=⟨[(0,(.bptr 0 [])),(3,(.bptr 2 [])),(41,(.val .ya)),(39,(.val .yc)),(40,(.val .ya))],[.con (.agg (.pr (.val .yg) (.pr (.val .yc) (.pr (.mref 1) .un)))),.map .ye .ya,.cell (.val .ye)]⟩
def zyl (N:Nat) (r52:Yd->Ye->Yl->Yg->Option (Yae)):(R:Type)->zyp.den->(AExit->St->Option R)->Option R:=fun R d k=>iter (fun kb=>zce N r52 d.1.2.2.2.1 d.1.2.2.2.2.1 d.2.2.2.1 kb
  (fun y0 y1 y2 y3=>k .ret (St.of [(0,(.bptr 0 [])),(4,(.data .bool y0))] [.cell (.tup (.agg (.pr (.data .yg y1) (.pr (.data .yc y2) (.pr (.mref 1) .un))))),.map .ye .ya y3]))
  (fun y0 y1 y2=>k (.exit 0) (St.of [(0,(.bptr 0 []))] [.cell (.tup (.agg (.pr (.data .yg y0) (.pr (.data .yc y1) (.pr (.mref 1) .un))))),.map .ye .ya y2]))) N (d.1.2.2.1,d.2.1.1,d.2.1.2.1,d.2.2.1)
def lp52B (N:Nat) (r52:Yd->Ye->Yl->Yg->Option (Yae)):Nat->Option z0m:=fun r=>cond (Nat.beq r 13) (some fun R sl os k=>zyo.take sl os fun d=>zyk N r52 R d k) (cond (Nat.beq r 10) (some fun R sl os k=>zyp.take sl os fun d=>zyl N r52 R d k) (none))
def x52B (N:Nat) (r52:Yd->Ye->Yl->Yg->Option (Yae)):Ctx:={ fuel:=N,tt:=z1v ttL,mt:=z1v mtL,ntmps:=68,env:=fun f=>(z1v [(76,[c76 N]),(52,[(.mut ⟨[(0,(.bptr 0 [])),(1,(.val .ye))],[.con (.agg (.pr (.val .yg) (.pr (.val .yc) (.pr (.mref 1) .un)))),.map .ye .ya]⟩ [0] ⟨[(0,(.bptr 0 [])),(4,(.val .bool))],[.con (.agg (.pr (.val .yg) (.pr (.val .yc) (.pr (.mref 1) .un)))),.map .ye .ya]⟩ fun d=>r52 d.1.2.1 d.2.1.1 d.2.1.2.1 d.2.2.1)])] f).getD [],cut:=z1v [(10,⟨[0,3,41,39,40],[]⟩),(13,⟨[0,50,3,48,39,40,41,49],[]⟩)],exits:=fun r=>z1v ((z1v [(10,[(0,⟨[0],[]⟩)]),(13,[(2,⟨[0,3,39,40,41],[]⟩)])] r).getD []),res:=⟨[0,4],[]⟩,own:=fun _=>none,lp:=lp52B N r52,eqs:=fun T=>z2q T eqL,ct:=fun T=>z2q T ctL,ms:=zb6 msL }
noncomputable def b52B:Code:=((Go.Proofs.Try.f52).body).getD .skip
theorem s52B_13 (N:Nat) (r52:Yd->Ye->Yl->Yg->Option (Yae)) {R:Type} (k:AExit->St->Option R) (t39_1:List Ya) (t40_1:Int) (t41_1:Int) (t49:Int) (o2_1:Yd) (o3:List Int) (kb:List Yp->List Obj->Option R) (x:Int×Ye×List Ya×Yg):z0z (x52B N r52) (z04 13 (z00 b52B)) (St.of [(0,(.bptr 0 [])),(50,(.data .ya x.1)),(3,(.bptr 2 [])),(48,(.ref 3 [] 0)),(39,(.data .yc t39_1)),(40,(.data .ya t40_1)),(41,(.data .ya t41_1)),(49,(.data .ya t49))] [.cell (.tup (.agg (.pr (.data .yg x.2.1) (.pr (.data .yc x.2.2.1) (.pr (.mref 1) .un))))),.map .ye .ya x.2.2.2,.cell (.data .ye o2_1),.row .ya o3 0]) (z1q (x52B N r52) 13 ⟨[0,50,3,48,39,40,41,49],[]⟩ kb k)=zcd N r52 t39_1 t40_1 t41_1 t49 o2_1 o3 (fun y=>kb [(0,(.bptr 0 [])),(50,(.data .ya y.1)),(3,(.bptr 2 [])),(48,(.ref 3 [] 0)),(39,(.data .yc t39_1)),(40,(.data .ya t40_1)),(41,(.data .ya t41_1)),(49,(.data .ya t49))] [.cell (.tup (.agg (.pr (.data .yg y.2.1) (.pr (.data .yc y.2.2.1) (.pr (.mref 1) .un))))),.map .ye .ya y.2.2.2,.cell (.data .ye o2_1),.row .ya o3 0])
  (fun y0 y1 y2 y3=>k .ret (St.of [(0,(.bptr 0 [])),(4,(.data .bool y0))] [.cell (.tup (.agg (.pr (.data .yg y1) (.pr (.data .yc y2) (.pr (.mref 1) .un))))),.map .ye .ya y3]))
  (fun y3 y4 y5=>k (.exit 2) (St.of [(0,(.bptr 0 [])),(3,(.bptr 2 [])),(39,(.data .yc t39_1)),(40,(.data .ya t40_1)),(41,(.data .ya t41_1))] [.cell (.tup (.agg (.pr (.data .yg y3) (.pr (.data .yc y4) (.pr (.mref 1) .un))))),.map .ye .ya y5,.cell (.data .ye o2_1)])) x:=by kernel_rfl
theorem l52B_13 (N:Nat) (r52:Yd->Ye->Yl->Yg->Option (Yae)):z0r (x52B N r52) (z04 13 (z00 b52B)):=
 z0i (zyk N r52) (by kernel_rfl) (by kernel_rfl) (by kernel_rfl) fun R k d=>
  z0g (st:=fun (x:Int×Ye×List Ya×Yg)=>([(0,(.bptr 0 [])),(50,(.data .ya x.1)),(3,(.bptr 2 [])),(48,(.ref 3 [] 0)),(39,(.data .yc d.1.2.2.2.2.1)),(40,(.data .ya d.1.2.2.2.2.2.1)),(41,(.data .ya d.1.2.2.2.2.2.2.1)),(49,(.data .ya d.1.2.2.2.2.2.2.2.1))],[.cell (.tup (.agg (.pr (.data .yg x.2.1) (.pr (.data .yc x.2.2.1) (.pr (.mref 1) .un))))),.map .ye .ya x.2.2.2,.cell (.data .ye d.2.2.2.1),.row .ya d.2.2.2.2.1 0])) (s52B_13 N r52 k d.1.2.2.2.2.1 d.1.2.2.2.2.2.1 d.1.2.2.2.2.2.2.1 d.1.2.2.2.2.2.2.2.1 d.2.2.2.1 d.2.2.2.2.1) N (d.1.2.1,d.2.1.1,d.2.1.2.1,d.2.2.1)
theorem s52B_10 (N:Nat) (r52:Yd->Ye->Yl->Yg->Option (Yae)) {R:Type} (k:AExit->St->Option R) (t39:List Ya) (t40:Int) (o2:Yd) (kb:List Yp->List Obj->Option R) (x:Int×Ye×List Ya×Yg):z0z (x52B N r52) (z04 10 (z00 b52B)) (St.of [(0,(.bptr 0 [])),(3,(.bptr 2 [])),(41,(.data .ya x.1)),(39,(.data .yc t39)),(40,(.data .ya t40))] [.cell (.tup (.agg (.pr (.data .yg x.2.1) (.pr (.data .yc x.2.2.1) (.pr (.mref 1) .un))))),.map .ye .ya x.2.2.2,.cell (.data .ye o2)]) (z1q (x52B N r52) 10 ⟨[0,3,41,39,40],[]⟩ kb k)=zce N r52 t39 t40 o2 (fun y=>kb [(0,(.bptr 0 [])),(3,(.bptr 2 [])),(41,(.data .ya y.1)),(39,(.data .yc t39)),(40,(.data .ya t40))] [.cell (.tup (.agg (.pr (.data .yg y.2.1) (.pr (.data .yc y.2.2.1) (.pr (.mref 1) .un))))),.map .ye .ya y.2.2.2,.cell (.data .ye o2)])
  (fun y0 y1 y2 y3=>k .ret (St.of [(0,(.bptr 0 [])),(4,(.data .bool y0))] [.cell (.tup (.agg (.pr (.data .yg y1) (.pr (.data .yc y2) (.pr (.mref 1) .un))))),.map .ye .ya y3]))
  (fun y0 y1 y2=>k (.exit 0) (St.of [(0,(.bptr 0 []))] [.cell (.tup (.agg (.pr (.data .yg y0) (.pr (.data .yc y1) (.pr (.mref 1) .un))))),.map .ye .ya y2])) x:=by kernel_rfl
theorem l52B_10 (N:Nat) (r52:Yd->Ye->Yl->Yg->Option (Yae)):z0r (x52B N r52) (z04 10 (z00 b52B)):=
 z0i (zyl N r52) (by kernel_rfl) (by kernel_rfl) (by kernel_rfl) fun R k d=>
  z0g (st:=fun (x:Int×Ye×List Ya×Yg)=>([(0,(.bptr 0 [])),(3,(.bptr 2 [])),(41,(.data .ya x.1)),(39,(.data .yc d.1.2.2.2.1)),(40,(.data .ya d.1.2.2.2.2.1))],[.cell (.tup (.agg (.pr (.data .yg x.2.1) (.pr (.data .yc x.2.2.1) (.pr (.mref 1) .un))))),.map .ye .ya x.2.2.2,.cell (.data .ye d.2.2.2.1)])) (s52B_10 N r52 k d.1.2.2.2.1 d.1.2.2.2.2.1 d.2.2.2.1) N (d.1.2.2.1,d.2.1.1,d.2.1.2.1,d.2.2.1)
theorem e52B (N:Nat) (r52:Yd->Ye->Yl->Yg->Option (Yae)) (t1:Yd) (o0:Ye) (o0':List Ya) (o1:List Yf):zch (x52B N r52) fo52B b52B (St.of [(0,(.bptr 0 [])),(1,(.data .ye t1))] [.cell (.tup (.agg (.pr (.data .yg o0) (.pr (.data .yc o0') (.pr (.mref 1) .un))))),.map .ye .ya o1])=f52B N r52 t1 o0 o0' o1:=by kernel_rfl
theorem k52B (N:Nat) (r52:Yd->Ye->Yl->Yg->Option (Yae)) (h52:z03 Go.Proofs.Try.prog 52 (.mut ⟨[(0,(.bptr 0 [])),(1,(.val .ye))],[.con (.agg (.pr (.val .yg) (.pr (.val .yc) (.pr (.mref 1) .un)))),.map .ye .ya]⟩ [0] ⟨[(0,(.bptr 0 [])),(4,(.val .bool))],[.con (.agg (.pr (.val .yg) (.pr (.val .yc) (.pr (.mref 1) .un)))),.map .ye .ya]⟩ fun d=>r52 d.1.2.1 d.2.1.1 d.2.1.2.1 d.2.2.1)):z03 Go.Proofs.Try.prog 52 (c52B N r52):=
 z35 (fn:=Go.Proofs.Try.f52) (body:=b52B) (c:=x52B N r52) (rs:=[4]) Go.Proofs.Try.func52 (by kernel_rfl) (by kernel_rfl) ⟨ttL_ok,z0n,z0p,z0q,z0o,z02 (z01 (k76 N)) (z02 (z01 (h52)) (z0e))⟩ mixed (by kernel_rfl) (zL (by kernel_rfl)) (by kernel_rfl) (by kernel_rfl) (by kernel_rfl) (z3q (by kernel_rfl))
  (z0b (by kernel_rfl:z00 b52B=[z04 10 (z00 b52B),z04 13 (z00 b52B)]) (.cons (l52B_10 N r52) (.cons (l52B_13 N r52) .nil))) fun d=>e52B N r52 d.1.2.1 d.2.1.1 d.2.1.2.1 d.2.2.1
def f52R (N:Nat) (M:Nat):Yd->Ye->Yl->Yg->Option (Yae):=Nat.rec (motive:=fun _=>Yd->Ye->Yl->Yg->Option (Yae)) (fun _ _ _ _=>none) (fun _ r=>f52B N r) M
def f52 (N:Nat) (a0:Yd) (a1:Ye) (a2:List Ya) (a3:List Yf):Option (Yae):=f52R N N a0 a1 a2 a3
def c52 (N:Nat):Callee:=(.mut ⟨[(0,(.bptr 0 [])),(1,(.val .ye))],[.con (.agg (.pr (.val .yg) (.pr (.val .yc) (.pr (.mref 1) .un)))),.map .ye .ya]⟩ [0] ⟨[(0,(.bptr 0 [])),(4,(.val .bool))],[.con (.agg (.pr (.val .yg) (.pr (.val .yc) (.pr (.mref 1) .un)))),.map .ye .ya]⟩ fun d=>f52 N d.1.2.1 d.2.1.1 d.2.1.2.1 d.2.2.1)
theorem k52 (N:Nat):z03 Go.Proofs.Try.prog 52 (c52 N):=
 have h:∀ M:Nat,z03 Go.Proofs.Try.prog 52 (.mut ⟨[(0,(.bptr 0 [])),(1,(.val .ye))],[.con (.agg (.pr (.val .yg) (.pr (.val .yc) (.pr (.mref 1) .un)))),.map .ye .ya]⟩ [0] ⟨[(0,(.bptr 0 [])),(4,(.val .bool))],[.con (.agg (.pr (.val .yg) (.pr (.val .yc) (.pr (.mref 1) .un)))),.map .ye .ya]⟩ fun d=>f52R N M d.1.2.1 d.2.1.1 d.2.1.2.1 d.2.2.1):=fun M=>Nat.rec (motive:=fun M=>z03 Go.Proofs.Try.prog 52 (.mut ⟨[(0,(.bptr 0 [])),(1,(.val .ye))],[.con (.agg (.pr (.val .yg) (.pr (.val .yc) (.pr (.mref 1) .un)))),.map .ye .ya]⟩ [0] ⟨[(0,(.bptr 0 [])),(4,(.val .bool))],[.con (.agg (.pr (.val .yg) (.pr (.val .yc) (.pr (.mref 1) .un)))),.map .ye .ya]⟩ fun d=>f52R N M d.1.2.1 d.2.1.1 d.2.1.2.1 d.2.2.1)) (z4i fun _=>rfl) (fun M ih=>k52B N _ ih) M
 h N
def zog {R:Type} (N:Nat) (t1_1:Int) (t17:List Int) (t11_1:List Ya) (t12_1:Int) (t13_1:Int) (t5_1:Int) (t18:Int) (kb:Int×Int->Option R) (kx2:Int->Option R):Int×Int->Option R:=
 fun (t19,t8)=>
  cond (decide (t19 < t18))
   ((idx t17 t19).bind fun x_1=>
   cond (decide (t19 < 0))
    (none)
    (cond (decide ((z0l (((((BitVec.ofInt 64 (Int.fdiv t1_1 (Int.pow 2 (min (Int.toNat t19) 64)))).and (BitVec.ofInt 64 1)).toNat):Nat):Int))=1))
     (kb ((z0l (t19+1)),(z0l (t8+x_1))))
     (kb ((z0l (t19+1)),t8))))
   (kx2 t8)
def zoh {R:Type} (N:Nat) (t1:Int) (t11:List Ya) (t12:Int) (kb:Int×Int->Option R) (kx0:Int->Option R):Int×Int->Option R:=
 fun (t13,t5)=>
  cond (decide (t13 < t12))
   ((idx t11 t13).bind fun x=>
   iter (fun w=>zog N t1 x t11 t12 t13 t5 (len x) w
    (fun t8_1=>
     kb ((z0l (t13+1)),(zsa t5 t8_1)))) N (0,0))
   (kx0 t5)
def f36 (N:Nat) (a0:List Ya) (a1:Int):Option (Int):=
 iter (fun w=>zoh N a1 a0 (len a0) w
  (fun t5_2=>
   some t5_2)) N (0,0)
def c36 (N:Nat):Callee:=.pure (.pr (.val .yc) (.pr (.val .ya) .un)) [.ya] fun d=>f36 N d.1 d.2.1
def F36_7:SForm:=⟨[(19,(.val .ya)),(8,(.val .ya)),(1,(.val .ya)),(17,(.val .yb)),(11,(.val .yc)),(12,(.val .ya)),(13,(.val .ya)),(5,(.val .ya)),(18,(.val .ya))],[]⟩
def G36_7 (N:Nat):(R:Type)->F36_7.den->(AExit->St->Option R)->Option R:=fun R d k=>iter (fun kb=>zog N d.1.2.2.1 d.1.2.2.2.1 d.1.2.2.2.2.1 d.1.2.2.2.2.2.1 d.1.2.2.2.2.2.2.1 d.1.2.2.2.2.2.2.2.1 d.1.2.2.2.2.2.2.2.2.1 kb
  (fun y4=>k (.exit 2) (St.of [(1,(.data .ya d.1.2.2.1)),(11,(.data .yc d.1.2.2.2.2.1)),(12,(.data .ya d.1.2.2.2.2.2.1)),(13,(.data .ya d.1.2.2.2.2.2.2.1)),(8,(.data .ya y4)),(5,(.data .ya d.1.2.2.2.2.2.2.2.1))] []))) N (d.1.1,d.1.2.1)
def F36_3:SForm:=⟨[(1,(.val .ya)),(13,(.val .ya)),(5,(.val .ya)),(11,(.val .yc)),(12,(.val .ya))],[]⟩
def G36_3 (N:Nat):(R:Type)->F36_3.den->(AExit->St->Option R)->Option R:=fun R d k=>iter (fun kb=>zoh N d.1.1 d.1.2.2.2.1 d.1.2.2.2.2.1 kb
  (fun y0=>k (.exit 0) (St.of [(5,(.data .ya y0))] []))) N (d.1.2.1,d.1.2.2.1)
def lp36 (N:Nat):Nat->Option z0m:=fun r=>cond (Nat.beq r 7) (some fun R sl os k=>F36_7.take sl os fun d=>G36_7 N R d k) (cond (Nat.beq r 3) (some fun R sl os k=>F36_3.take sl os fun d=>G36_3 N R d k) (none))
def x36 (N:Nat):Ctx:=(mkX N 38 [] [(3,⟨[1,13,5,11,12],[]⟩),(7,⟨[19,8,1,17,11,12,13,5,18],[]⟩)] [(3,[(0,⟨[5],[]⟩)]),(7,[(2,⟨[1,11,12,13,8,5],[]⟩)])] ⟨[4],[]⟩ (fun _=>none) (lp36 N))
noncomputable def b36:Code:=((Go.Proofs.Try.f36).body).getD .skip
theorem s36_7 (N:Nat) {R:Type} (k:AExit->St->Option R) (t1_1:Int) (t17:List Int) (t11_1:List Ya) (t12_1:Int) (t13_1:Int) (t5_1:Int) (t18:Int) (kb:List Yp->List Obj->Option R) (x:Int×Int):z0z (x36 N) (z04 7 (z00 b36)) (St.of [(19,(.data .ya x.1)),(8,(.data .ya x.2)),(1,(.data .ya t1_1)),(17,(.data .yb t17)),(11,(.data .yc t11_1)),(12,(.data .ya t12_1)),(13,(.data .ya t13_1)),(5,(.data .ya t5_1)),(18,(.data .ya t18))] []) (z1q (x36 N) 7 ⟨[19,8,1,17,11,12,13,5,18],[]⟩ kb k)=zog N t1_1 t17 t11_1 t12_1 t13_1 t5_1 t18 (fun y=>kb [(19,(.data .ya y.1)),(8,(.data .ya y.2)),(1,(.data .ya t1_1)),(17,(.data .yb t17)),(11,(.data .yc t11_1)),(12,(.data .ya t12_1)),(13,(.data .ya t13_1)),(5,(.data .ya t5_1)),(18,(.data .ya t18))] [])
  (fun y4=>k (.exit 2) (St.of [(1,(.data .ya t1_1)),(11,(.data .yc t11_1)),(12,(.data .ya t12_1)),(13,(.data .ya t13_1)),(8,(.data .ya y4)),(5,(.data .ya t5_1))] [])) x:=by kernel_rfl
theorem l36_7 (N:Nat):z0r (x36 N) (z04 7 (z00 b36)):=
 z0i (G36_7 N) (by kernel_rfl) (by kernel_rfl) (by kernel_rfl) fun R k d=>
  z0g (st:=fun (x:Int×Int)=>([(19,(.data .ya x.1)),(8,(.data .ya x.2)),(1,(.data .ya d.1.2.2.1)),(17,(.data .yb d.1.2.2.2.1)),(11,(.data .yc d.1.2.2.2.2.1)),(12,(.data .ya d.1.2.2.2.2.2.1)),(13,(.data .ya d.1.2.2.2.2.2.2.1)),(5,(.data .ya d.1.2.2.2.2.2.2.2.1)),(18,(.data .ya d.1.2.2.2.2.2.2.2.2.1))],[])) (s36_7 N k d.1.2.2.1 d.1.2.2.2.1 d.1.2.2.2.2.1 d.1.2.2.2.2.2.1 d.1.2.2.2.2.2.2.1 d.1.2.2.2.2.2.2.2.1 d.1.2.2.2.2.2.2.2.2.1) N (d.1.1,d.1.2.1)
theorem s36_3 (N:Nat) {R:Type} (k:AExit->St->Option R) (t1:Int) (t11:List Ya) (t12:Int) (kb:List Yp->List Obj->Option R) (x:Int×Int):z0z (x36 N) (z04 3 (z00 b36)) (St.of [(1,(.data .ya t1)),(13,(.data .ya x.1)),(5,(.data .ya x.2)),(11,(.data .yc t11)),(12,(.data .ya t12))] []) (z1q (x36 N) 3 ⟨[1,13,5,11,12],[]⟩ kb k)=zoh N t1 t11 t12 (fun y=>kb [(1,(.data .ya t1)),(13,(.data .ya y.1)),(5,(.data .ya y.2)),(11,(.data .yc t11)),(12,(.data .ya t12))] [])
  (fun y0=>k (.exit 0) (St.of [(5,(.data .ya y0))] [])) x:=by kernel_rfl
theorem l36_3 (N:Nat):z0r (x36 N) (z04 3 (z00 b36)):=
 z0i (G36_3 N) (by kernel_rfl) (by kernel_rfl) (by kernel_rfl) fun R k d=>
  z0g (st:=fun (x:Int×Int)=>([(1,(.data .ya d.1.1)),(13,(.data .ya x.1)),(5,(.data .ya x.2)),(11,(.data .yc d.1.2.2.2.1)),(12,(.data .ya d.1.2.2.2.2.1))],[])) (s36_3 N k d.1.1 d.1.2.2.2.1 d.1.2.2.2.2.1) N (d.1.2.1,d.1.2.2.1)
theorem e36 (N:Nat) (a0:List Ya) (a1:Int):z1y (x36 N) [.ya] [.tmp 4] b36 (entry (.pr (.val .yc) (.pr (.val .ya) .un)) (a0,(a1,())))=f36 N a0 a1:=by kernel_rfl
theorem k36 (N:Nat):z03 Go.Proofs.Try.prog 36 (c36 N):=
 z23 (fn:=Go.Proofs.Try.f36) (body:=b36) (c:=x36 N) Go.Proofs.Try.func36 (by kernel_rfl) (by kernel_rfl) ⟨ttL_ok,z0n,z0p,z0q,z0o,z0e⟩ mixed (by kernel_rfl) (zL (by kernel_rfl)) (by kernel_rfl) (by decide)
  (z0b (by kernel_rfl:z00 b36=[z04 3 (z00 b36),z04 7 (z00 b36)]) (.cons (l36_3 N) (.cons (l36_7 N) .nil))) fun d=>e36 N d.1 d.2.1
def znv {R:Type} (N:Nat) (r53:Yd->Ye->Yl->Yg->Option (Yv)) (t21:Int) (o0_1:Yd) (o3:List Int) (kb:Int×Int×Ye×List Ya×Yg->Option R) (kx0:Int->Ye->Yl->Yg->Option R):Int×Int×Ye×List Ya×Yg->Option R:=
 fun (t22,t7,o1_1,o1',o2)=>
  cond (decide (t22 < t21))
   (chk (inb o3 t22) <|
   (idx o3 t22).bind fun x_1=>
   cond (!(decide (x_1=0)))
    ((r53 (x_1,((z0l (o0_1.2.1-1)),())) o1_1 o1' o2).bind fun r_1=>
    kb ((z0l (t22+1)),(z0l (t7+r_1.1.2.1)),r_1.2.1.1,r_1.2.1.2.1,r_1.2.2.1))
    (kb ((z0l (t22+1)),t7,o1_1,o1',o2)))
   (kx0 t7 o1_1 o1' o2)
def f82 (N:Nat) (r53:Yd->Ye->Yl->Yg->Option (Yv)) (t1:Yd) (t2:Int) (o0:Ye) (o0':List Ya) (o1:List Yf):Option (Yv):=
 (idx o0.2.1 t2).bind fun x=>
 (f76 N x t1.1).bind fun r=>
 iter (fun w=>znv N r53 (len r) t1 r w
  (fun t7_1 o0_2 o0'_1 o1_2=>
   some (((),(t7_1,())),((o0_2,(o0'_1,((),()))),(o1_2,()))))) N (0,0,o0,o0',o1)
def fi82:SForm:=⟨[(0,(.bptr 0 [])),(1,(.val .ye)),(2,(.val .ya))],[.con (.agg (.pr (.val .yg) (.pr (.val .yc) (.pr (.mref 1) .un)))),.map .ye .ya]⟩
def fo82:SForm:=⟨[(0,(.bptr 0 [])),(6,(.val .ya))],[.con (.agg (.pr (.val .yg) (.pr (.val .yc) (.pr (.mref 1) .un)))),.map .ye .ya]⟩
def c82 (N:Nat) (r53:Yd->Ye->Yl->Yg->Option (Yv)):Callee:=.mut fi82 [0] fo82 fun d=>f82 N r53 d.1.2.1 d.1.2.2.1 d.2.1.1 d.2.1.2.1 d.2.2.1
def F82_3:SForm:=⟨[(22,(.val .ya)),(4,(.bptr 0 [])),(0,(.bptr 1 [])),(7,(.val .ya)),(20,(.ref 3)),(21,(.val .ya))],[.cell (.val .ye),.con (.agg (.pr (.val .yg) (.pr (.val .yc) (.pr (.mref 2) .un)))),.map .ye .ya,.row .ya]⟩
def G82_3 (N:Nat) (r53:Yd->Ye->Yl->Yg->Option (Yv)):(R:Type)->F82_3.den->(AExit->St->Option R)->Option R:=fun R d k=>iter (fun kb=>znv N r53 d.1.2.2.2.2.2.1 d.2.1 d.2.2.2.2.1 kb
  (fun y0 y1 y2 y3=>k (.exit 0) (St.of [(0,(.bptr 0 [])),(7,(.data .ya y0))] [.cell (.tup (.agg (.pr (.data .yg y1) (.pr (.data .yc y2) (.pr (.mref 1) .un))))),.map .ye .ya y3]))) N (d.1.1,d.1.2.2.2.1,d.2.2.1.1,d.2.2.1.2.1,d.2.2.2.1)
def lp82 (N:Nat) (r53:Yd->Ye->Yl->Yg->Option (Yv)):Nat->Option z0m:=fun r=>cond (Nat.beq r 3) (some fun R sl os k=>F82_3.take sl os fun d=>G82_3 N r53 R d k) (none)
def x82 (N:Nat) (r53:Yd->Ye->Yl->Yg->Option (Yv)):Ctx:={ fuel:=N,tt:=z1v ttL,mt:=z1v mtL,ntmps:=39,env:=fun f=>(z1v [(76,[c76 N]),(53,[(.mut ⟨[(0,(.bptr 0 [])),(1,(.val .ye))],[.con (.agg (.pr (.val .yg) (.pr (.val .yc) (.pr (.mref 1) .un)))),.map .ye .ya]⟩ [0] ⟨[(0,(.bptr 0 [])),(4,(.val .ya))],[.con (.agg (.pr (.val .yg) (.pr (.val .yc) (.pr (.mref 1) .un)))),.map .ye .ya]⟩ fun d=>r53 d.1.2.1 d.2.1.1 d.2.1.2.1 d.2.2.1)])] f).getD [],cut:=z1v [(3,⟨[22,4,0,7,20,21],[]⟩)],exits:=fun r=>z1v ((z1v [(3,[(0,⟨[0,7],[]⟩)])] r).getD []),res:=⟨[0,6],[]⟩,own:=fun _=>none,lp:=lp82 N r53,eqs:=fun T=>z2q T eqL,ct:=fun T=>z2q T ctL,ms:=zb6 msL }
noncomputable def b82:Code:=((Go.Proofs.Try.f82).body).getD .skip
theorem s82_3 (N:Nat) (r53:Yd->Ye->Yl->Yg->Option (Yv)) {R:Type} (k:AExit->St->Option R) (t21:Int) (o0_1:Yd) (o3:List Int) (kb:List Yp->List Obj->Option R) (x:Int×Int×Ye×List Ya×Yg):z0z (x82 N r53) (z04 3 (z00 b82)) (St.of [(22,(.data .ya x.1)),(4,(.bptr 0 [])),(0,(.bptr 1 [])),(7,(.data .ya x.2.1)),(20,(.ref 3 [] 0)),(21,(.data .ya t21))] [.cell (.data .ye o0_1),.cell (.tup (.agg (.pr (.data .yg x.2.2.1) (.pr (.data .yc x.2.2.2.1) (.pr (.mref 2) .un))))),.map .ye .ya x.2.2.2.2,.row .ya o3 0]) (z1q (x82 N r53) 3 ⟨[22,4,0,7,20,21],[]⟩ kb k)=znv N r53 t21 o0_1 o3 (fun y=>kb [(22,(.data .ya y.1)),(4,(.bptr 0 [])),(0,(.bptr 1 [])),(7,(.data .ya y.2.1)),(20,(.ref 3 [] 0)),(21,(.data .ya t21))] [.cell (.data .ye o0_1),.cell (.tup (.agg (.pr (.data .yg y.2.2.1) (.pr (.data .yc y.2.2.2.1) (.pr (.mref 2) .un))))),.map .ye .ya y.2.2.2.2,.row .ya o3 0])
  (fun y0 y1 y2 y3=>k (.exit 0) (St.of [(0,(.bptr 0 [])),(7,(.data .ya y0))] [.cell (.tup (.agg (.pr (.data .yg y1) (.pr (.data .yc y2) (.pr (.mref 1) .un))))),.map .ye .ya y3])) x:=by kernel_rfl
theorem l82_3 (N:Nat) (r53:Yd->Ye->Yl->Yg->Option (Yv)):z0r (x82 N r53) (z04 3 (z00 b82)):=
 z0i (G82_3 N r53) (by kernel_rfl) (by kernel_rfl) (by kernel_rfl) fun R k d=>
  z0g (st:=fun (x:Int×Int×Ye×List Ya×Yg)=>([(22,(.data .ya x.1)),(4,(.bptr 0 [])),(0,(.bptr 1 [])),(7,(.data .ya x.2.1)),(20,(.ref 3 [] 0)),(21,(.data .ya d.1.2.2.2.2.2.1))],[.cell (.data .ye d.2.1),.cell (.tup (.agg (.pr (.data .yg x.2.2.1) (.pr (.data .yc x.2.2.2.1) (.pr (.mref 2) .un))))),.map .ye .ya x.2.2.2.2,.row .ya d.2.2.2.2.1 0])) (s82_3 N r53 k d.1.2.2.2.2.2.1 d.2.1 d.2.2.2.2.1) N (d.1.1,d.1.2.2.2.1,d.2.2.1.1,d.2.2.1.2.1,d.2.2.2.1)
theorem e82 (N:Nat) (r53:Yd->Ye->Yl->Yg->Option (Yv)) (t1:Yd) (t2:Int) (o0:Ye) (o0':List Ya) (o1:List Yf):zch (x82 N r53) fo82 b82 (St.of [(0,(.bptr 0 [])),(1,(.data .ye t1)),(2,(.data .ya t2))] [.cell (.tup (.agg (.pr (.data .yg o0) (.pr (.data .yc o0') (.pr (.mref 1) .un))))),.map .ye .ya o1])=f82 N r53 t1 t2 o0 o0' o1:=by kernel_rfl
theorem k82 (N:Nat) (r53:Yd->Ye->Yl->Yg->Option (Yv)) (h53:z03 Go.Proofs.Try.prog 53 (.mut ⟨[(0,(.bptr 0 [])),(1,(.val .ye))],[.con (.agg (.pr (.val .yg) (.pr (.val .yc) (.pr (.mref 1) .un)))),.map .ye .ya]⟩ [0] ⟨[(0,(.bptr 0 [])),(4,(.val .ya))],[.con (.agg (.pr (.val .yg) (.pr (.val .yc) (.pr (.mref 1) .un)))),.map .ye .ya]⟩ fun d=>r53 d.1.2.1 d.2.1.1 d.2.1.2.1 d.2.2.1)):z03 Go.Proofs.Try.prog 82 (c82 N r53):=
 z35 (fn:=Go.Proofs.Try.f82) (body:=b82) (c:=x82 N r53) (rs:=[6]) Go.Proofs.Try.func82 (by kernel_rfl) (by kernel_rfl) ⟨ttL_ok,z0n,z0p,z0q,z0o,z02 (z01 (k76 N)) (z02 (z01 (h53)) (z0e))⟩ mixed (by kernel_rfl) (zL (by kernel_rfl)) (by kernel_rfl) (by kernel_rfl) (by kernel_rfl) (z3q (by kernel_rfl))
  (z0b (by kernel_rfl:z00 b82=[z04 3 (z00 b82)]) (.cons (l82_3 N r53) .nil)) fun d=>e82 N r53 d.1.2.1 d.1.2.2.1 d.2.1.1 d.2.1.2.1 d.2.2.1
def zgr {R:Type} (N:Nat) (r53:Yd->Ye->Yl->Yg->Option (Yv)) (t32:Int) (o0_1:Yd) (kb:Int×Int×Ye×List Ya×Yg->Option R) (kx0:Int->Ye->Yl->Yg->Option R):Int×Int×Ye×List Ya×Yg->Option R:=
 fun (t33,t6,o1_1,o1',o2)=>
  cond (decide (t33 < t32))
   ((f82 N r53 o0_1 t33 o1_1 o1' o2).bind fun r_1=>
   kb ((z0l (t33+1)),(zsa t6 r_1.1.2.1),r_1.2.1.1,r_1.2.1.2.1,r_1.2.2.1))
   (kx0 t6 o1_1 o1' o2)
def f53B (N:Nat) (r53:Yd->Ye->Yl->Yg->Option (Yv)) (t1:Yd) (o0:Ye) (o0':List Ya) (o1:List Yf):Option (Yv):=
 cond (decide (0≤(Option.getD (z9a (eqD .ye) o1 t1) 0)))
  (some (((),((Option.getD (z9a (eqD .ye) o1 t1) 0),())),((o0,(o0',((),()))),(o1,()))))
  ((f36 N o0' t1.1).bind fun r=>
  cond (decide (0 < t1.2.1))
   (iter (fun w=>zgr N r53 (len o0.2.1) t1 w
    (fun t6_1 o0_2 o0'_1 o1_2=>
     some (((),(t6_1,())),((o0_2,(o0'_1,((),()))),((zcp (eqD .ye) o1_2 t1 t6_1),()))))) N (0,r,o0,o0',o1))
   (some (((),(r,())),((o0,(o0',((),()))),((zcp (eqD .ye) o1 t1 r),())))))
def fi53B:SForm:=⟨[(0,(.bptr 0 [])),(1,(.val .ye))],[.con (.agg (.pr (.val .yg) (.pr (.val .yc) (.pr (.mref 1) .un)))),.map .ye .ya]⟩
def fo53B:SForm:=⟨[(0,(.bptr 0 [])),(4,(.val .ya))],[.con (.agg (.pr (.val .yg) (.pr (.val .yc) (.pr (.mref 1) .un)))),.map .ye .ya]⟩
def c53B (N:Nat) (r53:Yd->Ye->Yl->Yg->Option (Yv)):Callee:=.mut fi53B [0] fo53B fun d=>f53B N r53 d.1.2.1 d.2.1.1 d.2.1.2.1 d.2.2.1
def F53B_7:SForm:=⟨[(33,(.val .ya)),(3,(.bptr 0 [])),(0,(.bptr 1 [])),(6,(.val .ya)),(32,(.val .ya))],[.cell (.val .ye),.con (.agg (.pr (.val .yg) (.pr (.val .yc) (.pr (.mref 2) .un)))),.map .ye .ya]⟩
def G53B_7 (N:Nat) (r53:Yd->Ye->Yl->Yg->Option (Yv)):(R:Type)->F53B_7.den->(AExit->St->Option R)->Option R:=fun R d k=>iter (fun kb=>zgr N r53 d.1.2.2.2.2.1 d.2.1 kb
  (fun y0 y1 y2 y3=>k (.exit 0) (St.of [(0,(.bptr 0 [])),(6,(.data .ya y0)),(3,(.bptr 2 []))] [.cell (.tup (.agg (.pr (.data .yg y1) (.pr (.data .yc y2) (.pr (.mref 1) .un))))),.map .ye .ya y3,.cell (.data .ye d.2.1)]))) N (d.1.1,d.1.2.2.2.1,d.2.2.1.1,d.2.2.1.2.1,d.2.2.2.1)
def lp53B (N:Nat) (r53:Yd->Ye->Yl->Yg->Option (Yv)):Nat->Option z0m:=fun r=>cond (Nat.beq r 7) (some fun R sl os k=>F53B_7.take sl os fun d=>G53B_7 N r53 R d k) (none)
def x53B (N:Nat) (r53:Yd->Ye->Yl->Yg->Option (Yv)):Ctx:={ fuel:=N,tt:=z1v ttL,mt:=z1v mtL,ntmps:=50,env:=fun f=>(z1v [(36,[c36 N]),(82,[c82 N r53])] f).getD [],cut:=z1v [(7,⟨[33,3,0,6,32],[]⟩)],exits:=fun r=>z1v ((z1v [(7,[(0,⟨[0,6,3],[]⟩)])] r).getD []),res:=⟨[0,4],[]⟩,own:=fun _=>none,lp:=lp53B N r53,eqs:=fun T=>z2q T eqL,ct:=fun T=>z2q T ctL,ms:=zb6 msL }
noncomputable def b53B:Code:=((Go.Proofs.Try.f53).body).getD .skip
theorem s53B_7 (N:Nat) (r53:Yd->Ye->Yl->Yg->Option (Yv)) {R:Type} (k:AExit->St->Option R) (t32:Int) (o0_1:Yd) (kb:List Yp->List Obj->Option R) (x:Int×Int×Ye×List Ya×Yg):z0z (x53B N r53) (z04 7 (z00 b53B)) (St.of [(33,(.data .ya x.1)),(3,(.bptr 0 [])),(0,(.bptr 1 [])),(6,(.data .ya x.2.1)),(32,(.data .ya t32))] [.cell (.data .ye o0_1),.cell (.tup (.agg (.pr (.data .yg x.2.2.1) (.pr (.data .yc x.2.2.2.1) (.pr (.mref 2) .un))))),.map .ye .ya x.2.2.2.2]) (z1q (x53B N r53) 7 ⟨[33,3,0,6,32],[]⟩ kb k)=zgr N r53 t32 o0_1 (fun y=>kb [(33,(.data .ya y.1)),(3,(.bptr 0 [])),(0,(.bptr 1 [])),(6,(.data .ya y.2.1)),(32,(.data .ya t32))] [.cell (.data .ye o0_1),.cell (.tup (.agg (.pr (.data .yg y.2.2.1) (.pr (.data .yc y.2.2.2.1) (.pr (.mref 2) .un))))),.map .ye .ya y.2.2.2.2])
  (fun y0 y1 y2 y3=>k (.exit 0) (St.of [(0,(.bptr 0 [])),(6,(.data .ya y0)),(3,(.bptr 2 []))] [.cell (.tup (.agg (.pr (.data .yg y1) (.pr (.data .yc y2) (.pr (.mref 1) .un))))),.map .ye .ya y3,.cell (.data .ye o0_1)])) x:=by kernel_rfl
theorem l53B_7 (N:Nat) (r53:Yd->Ye->Yl->Yg->Option (Yv)):z0r (x53B N r53) (z04 7 (z00 b53B)):=
 z0i (G53B_7 N r53) (by kernel_rfl) (by kernel_rfl) (by kernel_rfl) fun R k d=>
  z0g (st:=fun (x:Int×Int×Ye×List Ya×Yg)=>([(33,(.data .ya x.1)),(3,(.bptr 0 [])),(0,(.bptr 1 [])),(6,(.data .ya x.2.1)),(32,(.data .ya d.1.2.2.2.2.1))],[.cell (.data .ye d.2.1),.cell (.tup (.agg (.pr (.data .yg x.2.2.1) (.pr (.data .yc x.2.2.2.1) (.pr (.mref 2) .un))))),.map .ye .ya x.2.2.2.2])) (s53B_7 N r53 k d.1.2.2.2.2.1 d.2.1) N (d.1.1,d.1.2.2.2.1,d.2.2.1.1,d.2.2.1.2.1,d.2.2.2.1)
theorem e53B (N:Nat) (r53:Yd->Ye->Yl->Yg->Option (Yv)) (t1:Yd) (o0:Ye) (o0':List Ya) (o1:List Yf):zch (x53B N r53) fo53B b53B (St.of [(0,(.bptr 0 [])),(1,(.data .ye t1))] [.cell (.tup (.agg (.pr (.data .yg o0) (.pr (.data .yc o0') (.pr (.mref 1) .un))))),.map .ye .ya o1])=f53B N r53 t1 o0 o0' o1:=by kernel_rfl
theorem k53B (N:Nat) (r53:Yd->Ye->Yl->Yg->Option (Yv)) (h53:z03 Go.Proofs.Try.prog 53 (.mut ⟨[(0,(.bptr 0 [])),(1,(.val .ye))],[.con (.agg (.pr (.val .yg) (.pr (.val .yc) (.pr (.mref 1) .un)))),.map .ye .ya]⟩ [0] ⟨[(0,(.bptr 0 [])),(4,(.val .ya))],[.con (.agg (.pr (.val .yg) (.pr (.val .yc) (.pr (.mref 1) .un)))),.map .ye .ya]⟩ fun d=>r53 d.1.2.1 d.2.1.1 d.2.1.2.1 d.2.2.1)):z03 Go.Proofs.Try.prog 53 (c53B N r53):=
 z35 (fn:=Go.Proofs.Try.f53) (body:=b53B) (c:=x53B N r53) (rs:=[4]) Go.Proofs.Try.func53 (by kernel_rfl) (by kernel_rfl) ⟨ttL_ok,z0n,z0p,z0q,z0o,z02 (z01 (k36 N)) (z02 (z01 (k82 N r53 h53)) (z0e))⟩ mixed (by kernel_rfl) (zL (by kernel_rfl)) (by kernel_rfl) (by kernel_rfl) (by kernel_rfl) (z3q (by kernel_rfl))
  (z0b (by kernel_rfl:z00 b53B=[z04 7 (z00 b53B)]) (.cons (l53B_7 N r53) .nil)) fun d=>e53B N r53 d.1.2.1 d.2.1.1 d.2.1.2.1 d.2.2.1
def f53R (N:Nat) (M:Nat):Yd->Ye->Yl->Yg->Option (Yv):=Nat.rec (motive:=fun _=>Yd->Ye->Yl->Yg->Option (Yv)) (fun _ _ _ _=>none) (fun _ r=>f53B N r) M
def f53 (N:Nat) (a0:Yd) (a1:Ye) (a2:List Ya) (a3:List Yf):Option (Yv):=f53R N N a0 a1 a2 a3
def c53 (N:Nat):Callee:=(.mut ⟨[(0,(.bptr 0 [])),(1,(.val .ye))],[.con (.agg (.pr (.val .yg) (.pr (.val .yc) (.pr (.mref 1) .un)))),.map .ye .ya]⟩ [0] ⟨[(0,(.bptr 0 [])),(4,(.val .ya))],[.con (.agg (.pr (.val .yg) (.pr (.val .yc) (.pr (.mref 1) .un)))),.map .ye .ya]⟩ fun d=>f53 N d.1.2.1 d.2.1.1 d.2.1.2.1 d.2.2.1)
theorem k53 (N:Nat):z03 Go.Proofs.Try.prog 53 (c53 N):=
 have h:∀ M:Nat,z03 Go.Proofs.Try.prog 53 (.mut ⟨[(0,(.bptr 0 [])),(1,(.val .ye))],[.con (.agg (.pr (.val .yg) (.pr (.val .yc) (.pr (.mref 1) .un)))),.map .ye .ya]⟩ [0] ⟨[(0,(.bptr 0 [])),(4,(.val .ya))],[.con (.agg (.pr (.val .yg) (.pr (.val .yc) (.pr (.mref 1) .un)))),.map .ye .ya]⟩ fun d=>f53R N M d.1.2.1 d.2.1.1 d.2.1.2.1 d.2.2.1):=fun M=>Nat.rec (motive:=fun M=>z03 Go.Proofs.Try.prog 53 (.mut ⟨[(0,(.bptr 0 [])),(1,(.val .ye))],[.con (.agg (.pr (.val .yg) (.pr (.val .yc) (.pr (.mref 1) .un)))),.map .ye .ya]⟩ [0] ⟨[(0,(.bptr 0 [])),(4,(.val .ya))],[.con (.agg (.pr (.val .yg) (.pr (.val .yc) (.pr (.mref 1) .un)))),.map .ye .ya]⟩ fun d=>f53R N M d.1.2.1 d.2.1.1 d.2.1.2.1 d.2.2.1)) (z4i fun _=>rfl) (fun M ih=>k53B N _ ih) M
 h N
def f54 (N:Nat) (t1:Yd) (o0:Ye) (o0':List Ya) (o1:List Yf):Option (Yae):=
 z4z [(f36 N o0' t1.1).bind fun r=>
  (f53 N t1 o0 o0' o1).bind fun r_1=>
  some (((),((decide (r=r_1.1.2.1)),())),((r_1.2.1.1,(r_1.2.1.2.1,((),()))),(r_1.2.2.1,()))),
  (f36 N o0' t1.1).bind fun r_2=>
  (f53 N t1 o0 o0' o1).bind fun r_3=>
  some (((),((decide (r_2=r_3.1.2.1)),())),((r_3.2.1.1,(r_3.2.1.2.1,((),()))),(r_3.2.2.1,())))]
def fi54:SForm:=⟨[(0,(.bptr 0 [])),(1,(.val .ye))],[.con (.agg (.pr (.val .yg) (.pr (.val .yc) (.pr (.mref 1) .un)))),.map .ye .ya]⟩
def fo54:SForm:=⟨[(0,(.bptr 0 [])),(4,(.val .bool))],[.con (.agg (.pr (.val .yg) (.pr (.val .yc) (.pr (.mref 1) .un)))),.map .ye .ya]⟩
def c54 (N:Nat):Callee:=.mut fi54 [0] fo54 fun d=>f54 N d.1.2.1 d.2.1.1 d.2.1.2.1 d.2.2.1
def lp54 (N:Nat):Nat->Option z0m:=fun r=>none
def x54 (N:Nat):Ctx:=(mkX N 16 [(36,[c36 N]),(53,[c53 N])] [] [] ⟨[0,4],[]⟩ (fun _=>none) (lp54 N))
noncomputable def b54:Code:=((Go.Proofs.Try.f54).body).getD .skip
theorem e54 (N:Nat) (t1:Yd) (o0:Ye) (o0':List Ya) (o1:List Yf):zch (x54 N) fo54 b54 (St.of [(0,(.bptr 0 [])),(1,(.data .ye t1))] [.cell (.tup (.agg (.pr (.data .yg o0) (.pr (.data .yc o0') (.pr (.mref 1) .un))))),.map .ye .ya o1])=f54 N t1 o0 o0' o1:=by kernel_rfl
theorem k54 (N:Nat):z03 Go.Proofs.Try.prog 54 (c54 N):=
 z35 (fn:=Go.Proofs.Try.f54) (body:=b54) (c:=x54 N) (rs:=[4]) Go.Proofs.Try.func54 (by kernel_rfl) (by kernel_rfl) ⟨ttL_ok,z0n,z0p,z0q,z0o,z02 (z01 (k36 N)) (z02 (z01 (k53 N)) (z0e))⟩ mixed (by kernel_rfl) (zL (by kernel_rfl)) (by kernel_rfl) (by kernel_rfl) (by kernel_rfl) (z3q (by kernel_rfl))
  (z0b (by kernel_rfl:z00 b54=[]) .nil) fun d=>e54 N d.1.2.1 d.2.1.1 d.2.1.2.1 d.2.2.1
def f114 (N:Nat) (a0:Int) (a1:Int):Option (Int×Int):=
 some ((zpn ((zpn ((zpn ((Int.fdiv a0 (2 ^ (min (Int.toNat 32) 64)))*(Int.fdiv a1 (2 ^ (min (Int.toNat 32) 64)))))+(Int.fdiv (zpn ((zpn ((Int.fdiv a0 (2 ^ (min (Int.toNat 32) 64)))*(zpn (((((BitVec.ofInt 64 a1).and (BitVec.ofInt 64 4294967295)).toNat):Nat):Int))))+(Int.fdiv (zpn ((zpn (((((BitVec.ofInt 64 a0).and (BitVec.ofInt 64 4294967295)).toNat):Nat):Int))*(zpn (((((BitVec.ofInt 64 a1).and (BitVec.ofInt 64 4294967295)).toNat):Nat):Int)))) (2 ^ (min (Int.toNat 32) 64))))) (2 ^ (min (Int.toNat 32) 64)))))+(Int.fdiv (zpn ((zpn (((((BitVec.ofInt 64
    (Go.IntKind.u64.wrap
     ((Go.IntKind.u64.wrap
        ((Int.fdiv a0 (Int.pow 2 (min (Int.toNat 32) 64))).mul
         (Go.IntKind.u64.wrap ↑((BitVec.ofInt 64 a1).and (BitVec.ofInt 64 4294967295)).toNat))).add
      ((Go.IntKind.u64.wrap
         ((Go.IntKind.u64.wrap ↑((BitVec.ofInt 64 a0).and (BitVec.ofInt 64 4294967295)).toNat).mul
          (Go.IntKind.u64.wrap ↑((BitVec.ofInt 64 a1).and (BitVec.ofInt 64 4294967295)).toNat))).fdiv
       (Int.pow 2 (min (Int.toNat 32) 64)))))).and
  (BitVec.ofInt 64 4294967295)).toNat):Nat):Int))+(zpn ((zpn (((((BitVec.ofInt 64 a0).and (BitVec.ofInt 64 4294967295)).toNat):Nat):Int))*(Int.fdiv a1 (2 ^ (min (Int.toNat 32) 64))))))) (2 ^ (min (Int.toNat 32) 64))))),(zpn (a0*a1)))
def c114 (N:Nat):Callee:=.pure (.pr (.val .yq) (.pr (.val .yq) .un)) [.yq,.yq] fun d=>f114 N d.1 d.2.1
def lp114 (N:Nat):Nat->Option z0m:=fun r=>none
def x114 (N:Nat):Ctx:=(mkX N 51 [] [] [] ⟨[4,5],[]⟩ (fun _=>none) (lp114 N))
noncomputable def b114:Code:=((Go.Proofs.Try.f114).body).getD .skip
theorem e114 (N:Nat) (a0:Int) (a1:Int):z1y (x114 N) [.yq,.yq] [.tmp 4,.tmp 5] b114 (entry (.pr (.val .yq) (.pr (.val .yq) .un)) (a0,(a1,())))=f114 N a0 a1:=by kernel_rfl
theorem k114 (N:Nat):z03 Go.Proofs.Try.prog 114 (c114 N):=
 z23 (fn:=Go.Proofs.Try.f114) (body:=b114) (c:=x114 N) Go.Proofs.Try.func114 (by kernel_rfl) (by kernel_rfl) ⟨ttL_ok,z0n,z0p,z0q,z0o,z0e⟩ mixed (by kernel_rfl) (zL (by kernel_rfl)) (by kernel_rfl) (by decide)
  (z0b (by kernel_rfl:z00 b114=[]) .nil) fun d=>e114 N d.1 d.2.1
end
end Go.Kz
