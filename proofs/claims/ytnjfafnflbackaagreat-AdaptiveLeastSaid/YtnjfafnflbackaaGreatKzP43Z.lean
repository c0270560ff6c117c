/-
  The functions of the program as plain functions on lists and numbers, and the proofs that the program computes them. Printed by a program.
-/
import Derived.Test.YtnjfafnflbackaaGreatKzAR
import Derived.Test.YtnjfafnflbackaaGreatKzAS
import Derived.Test.YtnjfafnflbackaaGreatKzLZ
import Derived.Test.YtnjfafnflbackaaGreatProg
set_option linter.unusedSimpArgs false
set_option maxRecDepth 100000
set_option linter.unusedVariables false
namespace Go.Kz
open Go.Proofs
noncomputable section
abbrev Ty.ya:Ty:=.int .i64
abbrev Ty.yb:Ty:=.sl false .ya
abbrev Ty.yc:Ty:=.sl false .yb
abbrev Ty.yd:Ty:=.pair .yc .unit
abbrev Ty.ye:Ty:=.pair .ya .unit
abbrev Ty.yf:Ty:=.pair .ya .yd
abbrev Ty.yg:Ty:=.pair .ya .ye
abbrev Ty.yh:Ty:=.pair .yb .unit
abbrev Ty.yi:Ty:=.sl true .ya
abbrev Ty.yj:Ty:=.pair .yi .unit
abbrev Ty.yk:Ty:=.pair .ya .yh
abbrev Ty.yl:Ty:=.fn 0 .unit
abbrev Ty.ym:Ty:=.sl false .yk
abbrev Ty.yn:Ty:=.pair .ya .yj
abbrev Ty.yo:Ty:=.sl false .yg
abbrev Ty.yp:Ty:=.pair .ya .yg
abbrev Ty.yq:Ty:=.sl false .yp
abbrev Ty.yr:Ty:=.int .u64
abbrev Ty.ys:Ty:=.fn 999983 .unit
abbrev Ty.yt:Ty:=.fn 88 .unit
abbrev Ya:=List Int
abbrev Yb:=List Ya×Unit
abbrev Yc:=Int×Unit
abbrev Yd:=Int×Yb
abbrev Ye:=Int×Yc
abbrev Yf:=List Int×Unit
abbrev Yg:=Unit×Unit
abbrev Yh:=Int×Int
abbrev Yi:=Ye×Int
abbrev Yj:=List Yi
abbrev Yk:=Int×Yf
abbrev Yl:=List Yh
abbrev Ym:=Unit×Yg
abbrev Yn:=List Ya×Yg
abbrev Yo:=Nat×AVal
abbrev Yp:=List Yk
abbrev Yq:=List Ya
abbrev Yr:=Unit×Yc
abbrev Ys:=Yd×Yn
abbrev Yt:=Yj×Unit
abbrev Yu:=Yl×Unit
abbrev Yv:=Yp×Unit
abbrev Yw:=Int×Ye
abbrev Yx:=Ys×Yt
abbrev Yy:=Yd×Ym
abbrev Yz:=Ya×Yu
abbrev Yaa:=Unit×Ym
abbrev Yab:=Unit×Yaa
abbrev Yac:=Unit×Yab
abbrev Yad:=Bool×Unit
abbrev Yae:=Unit×Yad
abbrev Yaf:=List Ye
abbrev Yag:=Unit×Yr
abbrev Yah:=Yr×Yx
abbrev Yai:=Yy×Yz
abbrev Yaj:=Yr×Yai
abbrev Yak:=Yac×Unit
abbrev Yal:=Yae×Yx
abbrev Yam:=Unit×Yac
abbrev Yan:=Yag×Yz
abbrev Yao:=Yj×Yv
abbrev Yap:=Ys×Yao
abbrev Yaq:=Ym×Yap
abbrev Yar:=Yl×Yv
abbrev Yas:=Ya×Yar
abbrev Yat:=Yy×Yas
abbrev Yau:=Ym×Yat
abbrev Yav:=Ya×Yak
abbrev Yaw:=Unit×Yav
abbrev Yax:=Int×Yaw
abbrev Yay:=List Ya×Yax
abbrev Yaz:=Yd×Yay
abbrev Yba:=Ya×Yaz
abbrev Ybb:=Yam×Yba
def ttL:List (Nat×Ty):=[(1,.yl),(2,.ya),(3,.ya),(4,.bool),(5,(.int .u8)),(6,(.int .u8)),(7,(.pair .ya (.pair .ya (.pair .bool (.pair (.int .u8) .unit))))),(8,(.pair .ya (.pair .ya (.pair .bool (.pair (.int .u8) .unit))))),(9,.str),(10,.str),(11,.str),(12,.yr),(13,(.pair .str (.pair .yr .unit))),(14,(.pair .str (.pair .yr .unit))),(21,(.int .i32)),(22,.yc),(23,.yf),(24,.yf),(25,.yl),(26,.yl),(27,.ym),(28,.ym),(29,.yo),(30,.ya),(32,.yl),(33,.yl),(34,.yl),(35,.yb),(36,.yl),(37,.yl),(38,.ys),(39,.yl),(41,.yl),(42,.yl),(43,.yl),(44,.yq),(46,.yl),(47,.yl),(48,.yc),(49,.yl),(51,.yl),(52,.yl),(53,.yk),(54,.yk),(55,.yl),(56,.yp),(57,.yp),(58,.yl),(60,(.pair .yf (.pair .yb (.pair .ys .unit)))),(61,(.pair .yf (.pair .yb (.pair .ys .unit)))),(62,.yl),(63,.yl),(64,.yg),(65,.yg),(66,.yl),(67,.yl),(68,.yl),(70,.yl),(71,.yl),(72,.yl),(73,.yl),(74,(.sl false .yo)),(75,.yo),(76,.yl),(77,.yl),(78,.yg),(79,.yg),(80,.yl),(81,.yl),(82,.yl),(84,.ys),(85,(.pair .yf (.pair .yc (.pair .ys .unit)))),(86,(.pair .yf (.pair .yc (.pair .ys .unit)))),(87,.yg),(88,.yg),(89,.yl),(90,.yl),(91,.yl),(92,.yl),(93,.yl),(95,.yl),(97,.yl),(98,.yl),(99,.yl),(100,.yl),(101,.yl),(102,.yl),(103,.yl),(104,.yl),(105,.yl),(106,.yl),(107,.yl),(108,.yr),(109,.yl),(110,.yl),(111,.yl),(112,.yl),(113,.yl),(114,.yl),(115,.yl),(117,.yl),(118,.yl),(119,.ya),(121,.yl),(122,.yl),(123,.yl),(124,.yl),(125,.yl),(126,(.int .u32)),(127,.yl),(128,.yr),(129,.yl),(130,.yl),(131,.yl),(132,.yl),(133,.yl),(134,.yl),(136,.yl),(138,.yl),(139,.yr),(140,.yl),(141,.yl),(142,.yl),(144,.yl),(145,.yl),(146,.yl),(147,.yl),(148,.yl),(149,.yl),(150,.yl),(151,.yl),(154,.yl),(155,.yl),(156,.yl),(157,.yl),(158,.yl),(164,.yl),(165,(.int .u8)),(166,(.int .u8)),(167,.yl),(169,(.int .i32)),(170,(.int .i32))]
def mtL:List (Nat×Ty×Ty):=[(38,.ya,.ya),(84,.yg,.ya)]
def eqL:List Nat:=[7,8,56,57,64,65,78,79,87,88]
def ctL:List Nat:=[]
def msL:List (Nat×String×Nat×Option Nat):=[]
theorem ttL_ok:zah Go.Proofs.Tryz.prog (z1k ttL):=zyo (by kernel_rfl)
theorem z0k:MtOK Go.Proofs.Tryz.prog (z1k mtL):=zyy (by kernel_rfl)
theorem z0m:zym Go.Proofs.Tryz.prog (fun T=>z2e T eqL):=zob (by kernel_rfl)
theorem z0n:CtOK Go.Proofs.Tryz.prog (fun T=>z2e T ctL):=zzo (by kernel_rfl)
theorem z0l:MsOK Go.Proofs.Tryz.prog (z9k msL):=zyz (by kernel_rfl)
theorem mixed:Go.Proofs.Tryz.prog.follows .mixedOrders=true:=by kernel_rfl
def f16 (N:Nat):Option (Yd):=
 some (4,(((0 :: (0 :: (1 :: (1 :: ([]:List Int))))) :: ((0 :: (1 :: (1 :: (0 :: ([]:List Int))))) :: ((0 :: (1 :: (2 :: (2 :: ([]:List Int))))) :: ([]:List Ya)))),()))
def c16 (N:Nat):Callee:=.pure .un [.yf] fun d=>f16 N
def lp16 (N:Nat):Nat->Option z0h:=fun r=>none
def mkX (N n:Nat) (e:List (Nat×List Callee)) (c:List (Nat×Cut)) (x:List (Nat×List (Nat×Cut))) (r:Cut) (o:Nat->Option Ty) (l:Nat->Option z0h):Ctx:={ fuel:=N,tt:=z1k ttL,mt:=z1k mtL,ntmps:=n,env:=fun f=>(z1k e f).getD [],cut:=z1k c,exits:=fun r=>z1k ((z1k x r).getD []),res:=r,own:=o,lp:=l,eqs:=fun T=>z2e T eqL,ct:=fun T=>z2e T ctL,ms:=z9k msL }
def x16 (N:Nat):Ctx:=(mkX N 6 [] [] [] ⟨[0],[]⟩ (fun _=>none) (lp16 N))
noncomputable def b16:Code:=((Go.Proofs.Tryz.f16).body).getD .skip
theorem e16 (N:Nat):z1g (x16 N) [.yf] [.cell 0 24] b16 (entry .un ())=f16 N:=by kernel_rfl
theorem k16 (N:Nat):z04 Go.Proofs.Tryz.prog 16 (c16 N):=
 z1h (fn:=Go.Proofs.Tryz.f16) (body:=b16) (c:=x16 N) Go.Proofs.Tryz.func16 (by kernel_rfl) (by kernel_rfl) ⟨ttL_ok,z0k,z0m,z0n,z0l,z09⟩ mixed (by kernel_rfl) (zL (by kernel_rfl)) (by kernel_rfl) (by decide)
  (z06 (by kernel_rfl:z00 b16=[]) .nil) fun d=>e16 N
def zuv {R:Type} (N:Nat) (t0:Int) (t7:Int) (kb:Int×List Ya->Option R) (kx0:Yq->Option R):Int×List Ya->Option R:=
 fun (t8,o0)=>
  cond (decide (t8 < t7))
   (chk (((decide (0≤t0)) && (decide (t0≤t0))) && (decide (t0≤((z31:Nat):Int)))) <|
   chk (inb (List.replicate (Int.toNat t0) 0:List Int) t8) <|
   (idx (List.replicate (Int.toNat t0) 0:List Int) t8).bind fun x=>
   (idx (List.replicate (Int.toNat t0) 0:List Int) t8).bind fun x_1=>
   chk (decide ((Nat.succ (List.length o0))≤z31)) <|
   kb ((z0g (t8+1)),(o0++((zar (List.replicate (Int.toNat t0) 0:List Int) t8 1) :: ([]:List Ya)))))
   (kx0 o0)
def f17 (N:Nat) (a0:Int):Option Yq:=
 iter (fun w=>zuv N a0 a0 w
  (fun o0_1=>
   some o0_1)) N (0,([]:List Ya))
def c17 (N:Nat):Callee:=.pure (.pr (.val .ya) .un) [.yc] fun d=>f17 N d.1
def F17_3:SForm:=⟨[(8,(.val .ya)),(3,(.ref 0)),(0,(.val .ya)),(7,(.val .ya))],[.row .yb]⟩
def G17_3 (N:Nat):(R:Type)->F17_3.den->(AExit->St->Option R)->Option R:=fun R d k=>iter (fun kb=>zuv N d.1.2.2.1 d.1.2.2.2.1 kb
  (fun y0=>k (.exit 0) (St.of [(3,(.ref 0 [] 0))] [.row .yb y0 0]))) N (d.1.1,d.2.1)
def lp17 (N:Nat):Nat->Option z0h:=fun r=>cond (Nat.beq r 3) (some fun R sl os k=>F17_3.take sl os fun d=>G17_3 N R d k) (none)
def x17 (N:Nat):Ctx:=(mkX N 22 [] [(3,⟨[8,3,0,7],[]⟩)] [(3,[(0,⟨[3],[]⟩)])] ⟨[2],[]⟩ (fun _=>none) (lp17 N))
noncomputable def b17:Code:=((Go.Proofs.Tryz.f17).body).getD .skip
theorem s17_3 (N:Nat) {R:Type} (k:AExit->St->Option R) (t0:Int) (t7:Int) (kb:List Yo->List Obj->Option R) (x:Int×List Ya):z0q (x17 N) (z03 3 (z00 b17)) (St.of [(8,(.data .ya x.1)),(3,(.ref 0 [] 0)),(0,(.data .ya t0)),(7,(.data .ya t7))] [.row .yb x.2 0]) (z12 (x17 N) 3 ⟨[8,3,0,7],[]⟩ kb k)=zuv N t0 t7 (fun y=>kb [(8,(.data .ya y.1)),(3,(.ref 0 [] 0)),(0,(.data .ya t0)),(7,(.data .ya t7))] [.row .yb y.2 0])
  (fun y0=>k (.exit 0) (St.of [(3,(.ref 0 [] 0))] [.row .yb y0 0])) x:=by kernel_rfl
theorem l17_3 (N:Nat):z0f (x17 N) (z03 3 (z00 b17)):=
 z0b (G17_3 N) (by kernel_rfl) (by kernel_rfl) (by kernel_rfl) fun R k d=>
  z0a (st:=fun (x:Int×List Ya)=>([(8,(.data .ya x.1)),(3,(.ref 0 [] 0)),(0,(.data .ya d.1.2.2.1)),(7,(.data .ya d.1.2.2.2.1))],[.row .yb x.2 0])) (s17_3 N k d.1.2.2.1 d.1.2.2.2.1) N (d.1.1,d.2.1)
theorem e17 (N:Nat) (a0:Int):z1g (x17 N) [.yc] [.tmp 2] b17 (entry (.pr (.val .ya) .un) (a0,()))=f17 N a0:=by kernel_rfl
theorem k17 (N:Nat):z04 Go.Proofs.Tryz.prog 17 (c17 N):=
 z1h (fn:=Go.Proofs.Tryz.f17) (body:=b17) (c:=x17 N) Go.Proofs.Tryz.func17 (by kernel_rfl) (by kernel_rfl) ⟨ttL_ok,z0k,z0m,z0n,z0l,z09⟩ mixed (by kernel_rfl) (zL (by kernel_rfl)) (by kernel_rfl) (by decide)
  (z06 (by kernel_rfl:z00 b17=[z03 3 (z00 b17)]) (.cons (l17_3 N) .nil)) fun d=>e17 N d.1
def zpu {R:Type} (N:Nat) (t6:List Int) (t7:Int) (kb:Int×Int->Option R) (kret:Bool->Option R) (kx0:Unit->Option R):Int×Int->Option R:=
 fun (t8,t3)=>
  cond (decide (t8 < t7))
   ((idx t6 t8).bind fun x=>
   (cond (decide (x < 0))
     (some true)
     (some (decide (t3 < x)))).bind fun b=>
   cond b
    (kret false)
    (kb ((z0g (t8+1)),(zky t3 (z0g (x+1))))))
   (kx0 ())
def f52 (N:Nat) (a0:List Int):Option (Bool):=
 iter (fun w=>zpu N a0 (len a0) w
  (fun t2=>
   some t2)
  (fun (_:Unit)=>
   some true)) N (0,0)
def c52 (N:Nat):Callee:=.pure (.pr (.val .yb) .un) [.bool] fun d=>f52 N d.1
def F52_3:SForm:=⟨[(8,(.val .ya)),(3,(.val .ya)),(6,(.val .yb)),(7,(.val .ya))],[]⟩
def G52_3 (N:Nat):(R:Type)->F52_3.den->(AExit->St->Option R)->Option R:=fun R d k=>iter (fun kb=>zpu N d.1.2.2.1 d.1.2.2.2.1 kb
  (fun y0=>k .ret (St.of [(2,(.data .bool y0))] []))
  (fun _=>k (.exit 0) (St.of [] []))) N (d.1.1,d.1.2.1)
def lp52 (N:Nat):Nat->Option z0h:=fun r=>cond (Nat.beq r 3) (some fun R sl os k=>F52_3.take sl os fun d=>G52_3 N R d k) (none)
def x52 (N:Nat):Ctx:=(mkX N 24 [] [(3,⟨[8,3,6,7],[]⟩)] [(3,[(0,⟨[],[]⟩)])] ⟨[2],[]⟩ (fun _=>none) (lp52 N))
noncomputable def b52:Code:=((Go.Proofs.Tryz.f52).body).getD .skip
theorem s52_3 (N:Nat) {R:Type} (k:AExit->St->Option R) (t6:List Int) (t7:Int) (kb:List Yo->List Obj->Option R) (x:Int×Int):z0q (x52 N) (z03 3 (z00 b52)) (St.of [(8,(.data .ya x.1)),(3,(.data .ya x.2)),(6,(.data .yb t6)),(7,(.data .ya t7))] []) (z12 (x52 N) 3 ⟨[8,3,6,7],[]⟩ kb k)=zpu N t6 t7 (fun y=>kb [(8,(.data .ya y.1)),(3,(.data .ya y.2)),(6,(.data .yb t6)),(7,(.data .ya t7))] [])
  (fun y0=>k .ret (St.of [(2,(.data .bool y0))] []))
  (fun _=>k (.exit 0) (St.of [] [])) x:=by kernel_rfl
theorem l52_3 (N:Nat):z0f (x52 N) (z03 3 (z00 b52)):=
 z0b (G52_3 N) (by kernel_rfl) (by kernel_rfl) (by kernel_rfl) fun R k d=>
  z0a (st:=fun (x:Int×Int)=>([(8,(.data .ya x.1)),(3,(.data .ya x.2)),(6,(.data .yb d.1.2.2.1)),(7,(.data .ya d.1.2.2.2.1))],[])) (s52_3 N k d.1.2.2.1 d.1.2.2.2.1) N (d.1.1,d.1.2.1)
theorem e52 (N:Nat) (a0:List Int):z1g (x52 N) [.bool] [.tmp 2] b52 (entry (.pr (.val .yb) .un) (a0,()))=f52 N a0:=by kernel_rfl
theorem k52 (N:Nat):z04 Go.Proofs.Tryz.prog 52 (c52 N):=
 z1h (fn:=Go.Proofs.Tryz.f52) (body:=b52) (c:=x52 N) Go.Proofs.Tryz.func52 (by kernel_rfl) (by kernel_rfl) ⟨ttL_ok,z0k,z0m,z0n,z0l,z09⟩ mixed (by kernel_rfl) (zL (by kernel_rfl)) (by kernel_rfl) (by decide)
  (z06 (by kernel_rfl:z00 b52=[z03 3 (z00 b52)]) (.cons (l52_3 N) .nil)) fun d=>e52 N d.1
def zls {R:Type} (N:Nat) (t20:List Ya) (t21:Int) (o0:Yd) (kb:Int->Option R) (kret:Int->Option R) (kx0:Unit->Option R):Int->Option R:=
 fun t22=>
  cond (decide (t22 < t21))
   ((idx t20 t22).bind fun x=>
   (cond (!(decide ((len x)=o0.1)))
     (some true)
     ((f52 N x).bind fun r=>
     some (!r))).bind fun b_2=>
   cond b_2
    (kret 1)
    (kb (z0g (t22+1))))
   (kx0 ())
def f21 (N:Nat) (a0:Yd):Option (Int):=
 (cond (decide (a0.1 < 1))
   (some true)
   (some (decide (62 < a0.1)))).bind fun b=>
 (cond b
   (some true)
   (some (decide (8 < (len a0.2.1))))).bind fun b_1=>
 cond b_1
  (some 1)
  (iter (fun w=>zls N a0.2.1 (len a0.2.1) a0 w
   (fun t2=>
    some t2)
   (fun (_:Unit)=>
    some 0)) N 0)
def c21 (N:Nat):Callee:=.pure (.pr (.val .yf) .un) [.ya] fun d=>f21 N d.1
def F21_4:SForm:=⟨[(22,(.val .ya)),(1,(.bptr 0 [])),(20,(.val .yc)),(21,(.val .ya))],[.cell (.val .yf)]⟩
def G21_4 (N:Nat):(R:Type)->F21_4.den->(AExit->St->Option R)->Option R:=fun R d k=>iter (fun kb=>zls N d.1.2.2.1 d.1.2.2.2.1 d.2.1 kb
  (fun y0=>k .ret (St.of [(2,(.data .ya y0))] []))
  (fun _=>k (.exit 0) (St.of [] []))) N d.1.1
def lp21 (N:Nat):Nat->Option z0h:=fun r=>cond (Nat.beq r 4) (some fun R sl os k=>F21_4.take sl os fun d=>G21_4 N R d k) (none)
def x21 (N:Nat):Ctx:=(mkX N 37 [(52,[c52 N])] [(4,⟨[22,1,20,21],[]⟩)] [(4,[(0,⟨[],[]⟩)])] ⟨[2],[]⟩ (fun _=>none) (lp21 N))
noncomputable def b21:Code:=((Go.Proofs.Tryz.f21).body).getD .skip
theorem s21_4 (N:Nat) {R:Type} (k:AExit->St->Option R) (t20:List Ya) (t21:Int) (o0:Yd) (kb:List Yo->List Obj->Option R) (x:Int):z0q (x21 N) (z03 4 (z00 b21)) (St.of [(22,(.data .ya x)),(1,(.bptr 0 [])),(20,(.data .yc t20)),(21,(.data .ya t21))] [.cell (.data .yf o0)]) (z12 (x21 N) 4 ⟨[22,1,20,21],[]⟩ kb k)=zls N t20 t21 o0 (fun y=>kb [(22,(.data .ya y)),(1,(.bptr 0 [])),(20,(.data .yc t20)),(21,(.data .ya t21))] [.cell (.data .yf o0)])
  (fun y0=>k .ret (St.of [(2,(.data .ya y0))] []))
  (fun _=>k (.exit 0) (St.of [] [])) x:=by kernel_rfl
theorem l21_4 (N:Nat):z0f (x21 N) (z03 4 (z00 b21)):=
 z0b (G21_4 N) (by kernel_rfl) (by kernel_rfl) (by kernel_rfl) fun R k d=>
  z0a (st:=fun (x:Int)=>([(22,(.data .ya x)),(1,(.bptr 0 [])),(20,(.data .yc d.1.2.2.1)),(21,(.data .ya d.1.2.2.2.1))],[.cell (.data .yf d.2.1)])) (s21_4 N k d.1.2.2.1 d.1.2.2.2.1 d.2.1) N d.1.1
theorem e21 (N:Nat) (a0:Yd):z1g (x21 N) [.ya] [.tmp 2] b21 (entry (.pr (.val .yf) .un) (a0,()))=f21 N a0:=by kernel_rfl
theorem k21 (N:Nat):z04 Go.Proofs.Tryz.prog 21 (c21 N):=
 z1h (fn:=Go.Proofs.Tryz.f21) (body:=b21) (c:=x21 N) Go.Proofs.Tryz.func21 (by kernel_rfl) (by kernel_rfl) ⟨ttL_ok,z0k,z0m,z0n,z0l,z02 (z01 (k52 N)) (z09)⟩ mixed (by kernel_rfl) (zL (by kernel_rfl)) (by kernel_rfl) (by decide)
  (z06 (by kernel_rfl:z00 b21=[z03 4 (z00 b21)]) (.cons (l21_4 N) .nil)) fun d=>e21 N d.1
def f88 (N:Nat) (a0:Int):Option (Bool):=
 (cond (decide (a0 < 0))
   (some true)
   (some (decide (1024 < a0)))).bind fun b=>
 some b
def c88 (N:Nat):Callee:=.pure (.pr (.val .ya) .un) [.bool] fun d=>f88 N d.1
def lp88 (N:Nat):Nat->Option z0h:=fun r=>none
def x88 (N:Nat):Ctx:=(mkX N 9 [] [] [] ⟨[2],[]⟩ (fun _=>none) (lp88 N))
noncomputable def b88:Code:=((Go.Proofs.Tryz.f88).body).getD .skip
theorem e88 (N:Nat) (a0:Int):z1g (x88 N) [.bool] [.tmp 2] b88 (entry (.pr (.val .ya) .un) (a0,()))=f88 N a0:=by kernel_rfl
theorem k88 (N:Nat):z04 Go.Proofs.Tryz.prog 88 (c88 N):=
 z1h (fn:=Go.Proofs.Tryz.f88) (body:=b88) (c:=x88 N) Go.Proofs.Tryz.func88 (by kernel_rfl) (by kernel_rfl) ⟨ttL_ok,z0k,z0m,z0n,z0l,z09⟩ mixed (by kernel_rfl) (zL (by kernel_rfl)) (by kernel_rfl) (by decide)
  (z06 (by kernel_rfl:z00 b88=[]) .nil) fun d=>e88 N d.1
def zo8 {R:Type} (N:Nat) (t0:List Int) (t1:Unit) (t7:Int) (kb:Int->Option R) (kret:Int->Option R) (kx0:Unit->Option R):Int->Option R:=
 fun t8=>
  cond (decide (t8 < t7))
   ((idx t0 t8).bind fun x=>
   (f88 N x).bind fun r=>
   cond r
    (kret t8)
    (kb (z0g (t8+1))))
   (kx0 ())
def f107 (N:Nat) (a0:List Int) (a1:Unit):Option (Int):=
 iter (fun w=>zo8 N a0 a1 (len a0) w
  (fun t4=>
   some t4)
  (fun (_:Unit)=>
   some (-1))) N 0
def c107 (N:Nat):Callee:=.pure (.pr (.val .yb) (.pr (.val .yt) .un)) [.ya] fun d=>f107 N d.1 d.2.1
def F107_2:SForm:=⟨[(8,(.val .ya)),(0,(.val .yb)),(1,(.val .yt)),(7,(.val .ya))],[]⟩
def G107_2 (N:Nat):(R:Type)->F107_2.den->(AExit->St->Option R)->Option R:=fun R d k=>iter (fun kb=>zo8 N d.1.2.1 d.1.2.2.1 d.1.2.2.2.1 kb
  (fun y0=>k .ret (St.of [(4,(.data .ya y0))] []))
  (fun _=>k (.exit 0) (St.of [] []))) N d.1.1
def lp107 (N:Nat):Nat->Option z0h:=fun r=>cond (Nat.beq r 2) (some fun R sl os k=>F107_2.take sl os fun d=>G107_2 N R d k) (none)
def x107 (N:Nat):Ctx:=(mkX N 19 [(88,[c88 N])] [(2,⟨[8,0,1,7],[]⟩)] [(2,[(0,⟨[],[]⟩)])] ⟨[4],[]⟩ (fun _=>none) (lp107 N))
noncomputable def b107:Code:=((Go.Proofs.Tryz.f107).body).getD .skip
theorem s107_2 (N:Nat) {R:Type} (k:AExit->St->Option R) (t0:List Int) (t1:Unit) (t7:Int) (kb:List Yo->List Obj->Option R) (x:Int):z0q (x107 N) (z03 2 (z00 b107)) (St.of [(8,(.data .ya x)),(0,(.data .yb t0)),(1,(.data .yt t1)),(7,(.data .ya t7))] []) (z12 (x107 N) 2 ⟨[8,0,1,7],[]⟩ kb k)=zo8 N t0 t1 t7 (fun y=>kb [(8,(.data .ya y)),(0,(.data .yb t0)),(1,(.data .yt t1)),(7,(.data .ya t7))] [])
  (fun y0=>k .ret (St.of [(4,(.data .ya y0))] []))
  (fun _=>k (.exit 0) (St.of [] [])) x:=by kernel_rfl
theorem l107_2 (N:Nat):z0f (x107 N) (z03 2 (z00 b107)):=
 z0b (G107_2 N) (by kernel_rfl) (by kernel_rfl) (by kernel_rfl) fun R k d=>
  z0a (st:=fun (x:Int)=>([(8,(.data .ya x)),(0,(.data .yb d.1.2.1)),(1,(.data .yt d.1.2.2.1)),(7,(.data .ya d.1.2.2.2.1))],[])) (s107_2 N k d.1.2.1 d.1.2.2.1 d.1.2.2.2.1) N d.1.1
theorem e107 (N:Nat) (a0:List Int) (a1:Unit):z1g (x107 N) [.ya] [.tmp 4] b107 (entry (.pr (.val .yb) (.pr (.val .yt) .un)) (a0,(a1,())))=f107 N a0 a1:=by kernel_rfl
theorem k107 (N:Nat):z04 Go.Proofs.Tryz.prog 107 (c107 N):=
 z1h (fn:=Go.Proofs.Tryz.f107) (body:=b107) (c:=x107 N) Go.Proofs.Tryz.func107 (by kernel_rfl) (by kernel_rfl) ⟨ttL_ok,z0k,z0m,z0n,z0l,z02 (z01 (k88 N)) (z09)⟩ mixed (by kernel_rfl) (zL (by kernel_rfl)) (by kernel_rfl) (by decide)
  (z06 (by kernel_rfl:z00 b107=[z03 2 (z00 b107)]) (.cons (l107_2 N) .nil)) fun d=>e107 N d.1 d.2.1
def f87 (N:Nat) (a0:List Int) (a1:Unit):Option (Bool):=
 (f107 N a0 a1).bind fun r=>
 some (decide (0≤r))
def c87 (N:Nat):Callee:=.pure (.pr (.val .yb) (.pr (.val .yt) .un)) [.bool] fun d=>f87 N d.1 d.2.1
def lp87 (N:Nat):Nat->Option z0h:=fun r=>none
def x87 (N:Nat):Ctx:=(mkX N 9 [(107,[c107 N])] [] [] ⟨[4],[]⟩ (fun _=>none) (lp87 N))
noncomputable def b87:Code:=((Go.Proofs.Tryz.f87).body).getD .skip
theorem e87 (N:Nat) (a0:List Int) (a1:Unit):z1g (x87 N) [.bool] [.tmp 4] b87 (entry (.pr (.val .yb) (.pr (.val .yt) .un)) (a0,(a1,())))=f87 N a0 a1:=by kernel_rfl
theorem k87 (N:Nat):z04 Go.Proofs.Tryz.prog 87 (c87 N):=
 z1h (fn:=Go.Proofs.Tryz.f87) (body:=b87) (c:=x87 N) Go.Proofs.Tryz.func87 (by kernel_rfl) (by kernel_rfl) ⟨ttL_ok,z0k,z0m,z0n,z0l,z02 (z01 (k107 N)) (z09)⟩ mixed (by kernel_rfl) (zL (by kernel_rfl)) (by kernel_rfl) (by decide)
  (z06 (by kernel_rfl:z00 b87=[]) .nil) fun d=>e87 N d.1 d.2.1
def f86 (N:Nat) (a0:List Int) (a1:Yd):Option (Bool):=
 (cond (!(decide ((len a0)=a1.1)))
   (some true)
   ((f87 N a0 ()).bind fun r=>
   some r)).bind fun b=>
 some b
def c86 (N:Nat):Callee:=.pure (.pr (.val .yb) (.pr (.val (.ptr .yf)) .un)) [.bool] fun d=>f86 N d.1 d.2.1
def lp86 (N:Nat):Nat->Option z0h:=fun r=>none
def x86 (N:Nat):Ctx:=(mkX N 13 [(87,[c87 N])] [] [] ⟨[3],[]⟩ (fun _=>none) (lp86 N))
noncomputable def b86:Code:=((Go.Proofs.Tryz.f86).body).getD .skip
theorem e86 (N:Nat) (a0:List Int) (a1:Yd):z1g (x86 N) [.bool] [.tmp 3] b86 (entry (.pr (.val .yb) (.pr (.val (.ptr .yf)) .un)) (a0,(a1,())))=f86 N a0 a1:=by kernel_rfl
theorem k86 (N:Nat):z04 Go.Proofs.Tryz.prog 86 (c86 N):=
 z1h (fn:=Go.Proofs.Tryz.f86) (body:=b86) (c:=x86 N) Go.Proofs.Tryz.func86 (by kernel_rfl) (by kernel_rfl) ⟨ttL_ok,z0k,z0m,z0n,z0l,z02 (z01 (k87 N)) (z09)⟩ mixed (by kernel_rfl) (zL (by kernel_rfl)) (by kernel_rfl) (by decide)
  (z06 (by kernel_rfl:z00 b86=[]) .nil) fun d=>e86 N d.1 d.2.1
def zo9 {R:Type} (N:Nat) (t0:List Ya) (t1:(Yd×Unit)) (t7:Int) (kb:Int->Option R) (kret:Int->Option R) (kx0:Unit->Option R):Int->Option R:=
 fun t8=>
  cond (decide (t8 < t7))
   ((idx t0 t8).bind fun x=>
   (f86 N x t1.1).bind fun r=>
   cond r
    (kret t8)
    (kb (z0g (t8+1))))
   (kx0 ())
def f106 (N:Nat) (a0:List Ya) (a1:(Yd×Unit)):Option (Int):=
 iter (fun w=>zo9 N a0 a1 (len a0) w
  (fun t4=>
   some t4)
  (fun (_:Unit)=>
   some (-1))) N 0
def c106 (N:Nat):Callee:=.pure (.pr (.val .yc) (.pr (.val (.fn 86 (.pair (.ptr .yf) .unit))) .un)) [.ya] fun d=>f106 N d.1 d.2.1
def F106_2:SForm:=⟨[(8,(.val .ya)),(0,(.val .yc)),(1,(.val (.fn 86 (.pair (.ptr .yf) .unit)))),(7,(.val .ya))],[]⟩
def G106_2 (N:Nat):(R:Type)->F106_2.den->(AExit->St->Option R)->Option R:=fun R d k=>iter (fun kb=>zo9 N d.1.2.1 d.1.2.2.1 d.1.2.2.2.1 kb
  (fun y0=>k .ret (St.of [(4,(.data .ya y0))] []))
  (fun _=>k (.exit 0) (St.of [] []))) N d.1.1
def lp106 (N:Nat):Nat->Option z0h:=fun r=>cond (Nat.beq r 2) (some fun R sl os k=>F106_2.take sl os fun d=>G106_2 N R d k) (none)
def x106 (N:Nat):Ctx:=(mkX N 19 [(86,[c86 N])] [(2,⟨[8,0,1,7],[]⟩)] [(2,[(0,⟨[],[]⟩)])] ⟨[4],[]⟩ (fun _=>none) (lp106 N))
noncomputable def b106:Code:=((Go.Proofs.Tryz.f106).body).getD .skip
theorem s106_2 (N:Nat) {R:Type} (k:AExit->St->Option R) (t0:List Ya) (t1:(Yd×Unit)) (t7:Int) (kb:List Yo->List Obj->Option R) (x:Int):z0q (x106 N) (z03 2 (z00 b106)) (St.of [(8,(.data .ya x)),(0,(.data .yc t0)),(1,(.data (.fn 86 (.pair (.ptr .yf) .unit)) t1)),(7,(.data .ya t7))] []) (z12 (x106 N) 2 ⟨[8,0,1,7],[]⟩ kb k)=zo9 N t0 t1 t7 (fun y=>kb [(8,(.data .ya y)),(0,(.data .yc t0)),(1,(.data (.fn 86 (.pair (.ptr .yf) .unit)) t1)),(7,(.data .ya t7))] [])
  (fun y0=>k .ret (St.of [(4,(.data .ya y0))] []))
  (fun _=>k (.exit 0) (St.of [] [])) x:=by kernel_rfl
theorem l106_2 (N:Nat):z0f (x106 N) (z03 2 (z00 b106)):=
 z0b (G106_2 N) (by kernel_rfl) (by kernel_rfl) (by kernel_rfl) fun R k d=>
  z0a (st:=fun (x:Int)=>([(8,(.data .ya x)),(0,(.data .yc d.1.2.1)),(1,(.data (.fn 86 (.pair (.ptr .yf) .unit)) d.1.2.2.1)),(7,(.data .ya d.1.2.2.2.1))],[])) (s106_2 N k d.1.2.1 d.1.2.2.1 d.1.2.2.2.1) N d.1.1
theorem e106 (N:Nat) (a0:List Ya) (a1:(Yd×Unit)):z1g (x106 N) [.ya] [.tmp 4] b106 (entry (.pr (.val .yc) (.pr (.val (.fn 86 (.pair (.ptr .yf) .unit))) .un)) (a0,(a1,())))=f106 N a0 a1:=by kernel_rfl
theorem k106 (N:Nat):z04 Go.Proofs.Tryz.prog 106 (c106 N):=
 z1h (fn:=Go.Proofs.Tryz.f106) (body:=b106) (c:=x106 N) Go.Proofs.Tryz.func106 (by kernel_rfl) (by kernel_rfl) ⟨ttL_ok,z0k,z0m,z0n,z0l,z02 (z01 (k86 N)) (z09)⟩ mixed (by kernel_rfl) (zL (by kernel_rfl)) (by kernel_rfl) (by decide)
  (z06 (by kernel_rfl:z00 b106=[z03 2 (z00 b106)]) (.cons (l106_2 N) .nil)) fun d=>e106 N d.1 d.2.1
def f85 (N:Nat) (a0:List Ya) (a1:(Yd×Unit)):Option (Bool):=
 (f106 N a0 a1).bind fun r=>
 some (decide (0≤r))
def c85 (N:Nat):Callee:=.pure (.pr (.val .yc) (.pr (.val (.fn 86 (.pair (.ptr .yf) .unit))) .un)) [.bool] fun d=>f85 N d.1 d.2.1
def lp85 (N:Nat):Nat->Option z0h:=fun r=>none
def x85 (N:Nat):Ctx:=(mkX N 9 [(106,[c106 N])] [] [] ⟨[4],[]⟩ (fun _=>none) (lp85 N))
noncomputable def b85:Code:=((Go.Proofs.Tryz.f85).body).getD .skip
theorem e85 (N:Nat) (a0:List Ya) (a1:(Yd×Unit)):z1g (x85 N) [.bool] [.tmp 4] b85 (entry (.pr (.val .yc) (.pr (.val (.fn 86 (.pair (.ptr .yf) .unit))) .un)) (a0,(a1,())))=f85 N a0 a1:=by kernel_rfl
theorem k85 (N:Nat):z04 Go.Proofs.Tryz.prog 85 (c85 N):=
 z1h (fn:=Go.Proofs.Tryz.f85) (body:=b85) (c:=x85 N) Go.Proofs.Tryz.func85 (by kernel_rfl) (by kernel_rfl) ⟨ttL_ok,z0k,z0m,z0n,z0l,z02 (z01 (k106 N)) (z09)⟩ mixed (by kernel_rfl) (zL (by kernel_rfl)) (by kernel_rfl) (by decide)
  (z06 (by kernel_rfl:z00 b85=[]) .nil) fun d=>e85 N d.1 d.2.1
def f66 (N:Nat) (a0:Yd) (a1:List Ya):Option (Bool):=
 (cond (decide ((len a1) < 1))
   (some true)
   (some (decide (64 < (len a1))))).bind fun b=>
 cond b
  (some false)
  ((f85 N a1 (a0,())).bind fun r=>
  some (!r))
def c66 (N:Nat):Callee:=.pure (.pr (.val .yf) (.pr (.val .yc) .un)) [.bool] fun d=>f66 N d.1 d.2.1
def lp66 (N:Nat):Nat->Option z0h:=fun r=>none
def x66 (N:Nat):Ctx:=(mkX N 17 [(85,[c85 N])] [] [] ⟨[4],[]⟩ (fun _=>none) (lp66 N))
noncomputable def b66:Code:=((Go.Proofs.Tryz.f66).body).getD .skip
theorem e66 (N:Nat) (a0:Yd) (a1:List Ya):z1g (x66 N) [.bool] [.tmp 4] b66 (entry (.pr (.val .yf) (.pr (.val .yc) .un)) (a0,(a1,())))=f66 N a0 a1:=by kernel_rfl
theorem k66 (N:Nat):z04 Go.Proofs.Tryz.prog 66 (c66 N):=
 z1h (fn:=Go.Proofs.Tryz.f66) (body:=b66) (c:=x66 N) Go.Proofs.Tryz.func66 (by kernel_rfl) (by kernel_rfl) ⟨ttL_ok,z0k,z0m,z0n,z0l,z02 (z01 (k85 N)) (z09)⟩ mixed (by kernel_rfl) (zL (by kernel_rfl)) (by kernel_rfl) (by decide)
  (z06 (by kernel_rfl:z00 b66=[]) .nil) fun d=>e66 N d.1 d.2.1
def zub {R:Type} (N:Nat) (t9:List Int) (t10:Int) (kb:Int×List Int->Option R) (kx0:Ya->Option R):Int×List Int->Option R:=
 fun (t11,o0)=>
  cond (decide (t11 < t10))
   ((idx t9 t11).bind fun x=>
   cond (decide (x=(len o0)))
    (chk (decide ((Nat.succ (List.length o0))≤z31)) <|
    chk (inb (o0++(0 :: ([]:List Int))) x) <|
    (idx (o0++(0 :: ([]:List Int))) x).bind fun x_1=>
    chk (inb (o0++(0 :: ([]:List Int))) x) <|
    (idx (o0++(0 :: ([]:List Int))) x).bind fun x_2=>
    (idx (o0++(0 :: ([]:List Int))) x).bind fun x_3=>
    kb ((z0g (t11+1)),(zar (o0++(0 :: ([]:List Int))) x (z0g (x_1+1)))))
    (chk (inb o0 x) <|
    (idx o0 x).bind fun x_4=>
    chk (inb o0 x) <|
    (idx o0 x).bind fun x_5=>
    (idx o0 x).bind fun x_6=>
    kb ((z0g (t11+1)),(zar o0 x (z0g (x_4+1))))))
   (kx0 o0)
def f89 (N:Nat) (a0:List Int):Option Ya:=
 (f52 N a0).bind fun r=>
 cond (!r)
  (some ([]:List Int))
  (iter (fun w=>zub N a0 (len a0) w
   (fun o0_1=>
    some o0_1)) N (0,([]:List Int)))
def c89 (N:Nat):Callee:=.pure (.pr (.val .yb) .un) [.yi] fun d=>f89 N d.1
def F89_5:SForm:=⟨[(11,(.val .ya)),(3,(.ref 0)),(9,(.val .yb)),(10,(.val .ya))],[.row .ya]⟩
def G89_5 (N:Nat):(R:Type)->F89_5.den->(AExit->St->Option R)->Option R:=fun R d k=>iter (fun kb=>zub N d.1.2.2.1 d.1.2.2.2.1 kb
  (fun y0=>k (.exit 0) (St.of [(3,(.ref 0 [] 0))] [.row .ya y0 0]))) N (d.1.1,d.2.1)
def lp89 (N:Nat):Nat->Option z0h:=fun r=>cond (Nat.beq r 5) (some fun R sl os k=>F89_5.take sl os fun d=>G89_5 N R d k) (none)
def x89 (N:Nat):Ctx:=(mkX N 30 [(52,[c52 N])] [(5,⟨[11,3,9,10],[(3,none,.row .ya)]⟩)] [(5,[(0,⟨[3],[]⟩)])] ⟨[2],[]⟩ (fun _=>none) (lp89 N))
noncomputable def b89:Code:=((Go.Proofs.Tryz.f89).body).getD .skip
theorem s89_5 (N:Nat) {R:Type} (k:AExit->St->Option R) (t9:List Int) (t10:Int) (kb:List Yo->List Obj->Option R) (x:Int×List Int):z0q (x89 N) (z03 5 (z00 b89)) (St.of [(11,(.data .ya x.1)),(3,(.ref 0 [] 0)),(9,(.data .yb t9)),(10,(.data .ya t10))] [.row .ya x.2 0]) (z12 (x89 N) 5 ⟨[11,3,9,10],[(3,none,.row .ya)]⟩ kb k)=zub N t9 t10 (fun y=>kb [(11,(.data .ya y.1)),(3,(.ref 0 [] 0)),(9,(.data .yb t9)),(10,(.data .ya t10))] [.row .ya y.2 0])
  (fun y0=>k (.exit 0) (St.of [(3,(.ref 0 [] 0))] [.row .ya y0 0])) x:=by kernel_rfl
theorem l89_5 (N:Nat):z0f (x89 N) (z03 5 (z00 b89)):=
 z0b (G89_5 N) (by kernel_rfl) (by kernel_rfl) (by kernel_rfl) fun R k d=>
  z0a (st:=fun (x:Int×List Int)=>([(11,(.data .ya x.1)),(3,(.ref 0 [] 0)),(9,(.data .yb d.1.2.2.1)),(10,(.data .ya d.1.2.2.2.1))],[.row .ya x.2 0])) (s89_5 N k d.1.2.2.1 d.1.2.2.2.1) N (d.1.1,d.2.1)
theorem e89 (N:Nat) (a0:List Int):z1g (x89 N) [.yi] [.tmp 2] b89 (entry (.pr (.val .yb) .un) (a0,()))=f89 N a0:=by kernel_rfl
theorem k89 (N:Nat):z04 Go.Proofs.Tryz.prog 89 (c89 N):=
 z1h (fn:=Go.Proofs.Tryz.f89) (body:=b89) (c:=x89 N) Go.Proofs.Tryz.func89 (by kernel_rfl) (by kernel_rfl) ⟨ttL_ok,z0k,z0m,z0n,z0l,z02 (z01 (k52 N)) (z09)⟩ mixed (by kernel_rfl) (zL (by kernel_rfl)) (by kernel_rfl) (by decide)
  (z06 (by kernel_rfl:z00 b89=[z03 5 (z00 b89)]) (.cons (l89_5 N) .nil)) fun d=>e89 N d.1
def f67 (N:Nat) (a0:List Int):Option (Int):=
 (f89 N a0).bind fun r=>
 some (len r)
def c67 (N:Nat):Callee:=.pure (.pr (.val .yb) .un) [.ya] fun d=>f67 N d.1
def lp67 (N:Nat):Nat->Option z0h:=fun r=>none
def x67 (N:Nat):Ctx:=(mkX N 6 [(89,[c89 N])] [] [] ⟨[2],[]⟩ (fun _=>none) (lp67 N))
noncomputable def b67:Code:=((Go.Proofs.Tryz.f67).body).getD .skip
theorem e67 (N:Nat) (a0:List Int):z1g (x67 N) [.ya] [.tmp 2] b67 (entry (.pr (.val .yb) .un) (a0,()))=f67 N a0:=by kernel_rfl
theorem k67 (N:Nat):z04 Go.Proofs.Tryz.prog 67 (c67 N):=
 z1h (fn:=Go.Proofs.Tryz.f67) (body:=b67) (c:=x67 N) Go.Proofs.Tryz.func67 (by kernel_rfl) (by kernel_rfl) ⟨ttL_ok,z0k,z0m,z0n,z0l,z02 (z01 (k89 N)) (z09)⟩ mixed (by kernel_rfl) (zL (by kernel_rfl)) (by kernel_rfl) (by decide)
  (z06 (by kernel_rfl:z00 b67=[]) .nil) fun d=>e67 N d.1
def zo4 {R:Type} (N:Nat) (t11:List Int) (t53:List Int) (t2_1:List Int) (t44_1:List Ya) (t45_1:Int) (t46_1:Int) (t54:Int) (o1:List Int) (kb:Int×List Int->Option R) (kx2:Ya->Option R):Int×List Int->Option R:=
 fun (t55,o0_1)=>
  cond (decide (t55 < t54))
   ((idx t53 t55).bind fun x_1=>
   chk (inb o0_1 x_1) <|
   (idx o0_1 x_1).bind fun x_2=>
   (idx t11 t55).bind fun x_3=>
   chk (inb o0_1 x_1) <|
   (idx o0_1 x_1).bind fun x_4=>
   (idx o0_1 x_1).bind fun x_5=>
   kb ((z0g (t55+1)),(zar o0_1 x_1 (z0g (x_2+x_3)))))
   (kx2 o0_1)
def zo3 {R:Type} (N:Nat) (t2_2:List Int) (t44_2:List Ya) (t45_2:Int) (t46_2:Int) (t72:Int) (o1_2:List Int) (kb:Int×List Int->Option R) (kx4:Ya->Option R):Int×List Int->Option R:=
 fun (t73,o0_2)=>
  cond (decide (t73 < t72))
   (chk (inb o1_2 t73) <|
   (idx o1_2 t73).bind fun x_6=>
   chk (inb o0_2 t73) <|
   (idx o0_2 t73).bind fun x_7=>
   chk (inb o0_2 t73) <|
   (idx o0_2 t73).bind fun x_8=>
   (idx o0_2 t73).bind fun x_9=>
   kb ((z0g (t73+1)),(zar o0_2 t73 (zky x_7 x_6))))
   (kx4 o0_2)
def zun {R:Type} (N:Nat) (t2:List Int) (t44:List Ya) (t45:Int) (kb:Int×List Int->Option R) (kx0:Ya->Option R):Int×List Int->Option R:=
 fun (t46,o0)=>
  cond (decide (t46 < t45))
   ((idx t44 t46).bind fun x=>
   chk (((decide (0≤(len o0))) && (decide ((len o0)≤(len o0)))) && (decide ((len o0)≤((z31:Nat):Int)))) <|
   iter (fun w=>zo4 N x t2 t2 t44 t45 t46 (len t2) o0 w
    (fun o1_1=>
     iter (fun w=>zo3 N t2 t44 t45 t46 (len o1_1) o1_1 w
      (fun o0_3=>
       kb ((z0g (t46+1)),o0_3))) N (0,o0))) N (0,(List.replicate (Int.toNat (len o0)) 0:List Int)))
   (kx0 o0)
def zo2 {R:Type} (N:Nat) (t90:Int) (o0_5:List Int) (kb:Int×Int->Option R) (kx6:Int->Option R):Int×Int->Option R:=
 fun (t91,t17)=>
  cond (decide (t91 < t90))
   (chk (inb o0_5 t91) <|
   (idx o0_5 t91).bind fun x_10=>
   kb ((z0g (t91+1)),(z0g (t17+x_10))))
   (kx6 t17)
def f45 (N:Nat) (a0:Yd) (a1:List Ya) (a2:List Int):Option Yh:=
 (f21 N a0).bind fun r=>
 cond (!(decide (r=0)))
  (some (0,r))
  ((f66 N a0 a1).bind fun r_1=>
  (cond (!r_1)
    (some true)
    (some (!(decide ((len a2)=a0.1))))).bind fun b=>
  (cond b
    (some true)
    ((f52 N a2).bind fun r_2=>
    some (!r_2))).bind fun b_1=>
  cond b_1
   (some (0,1))
   ((f67 N a2).bind fun r_3=>
   chk (((decide (0≤r_3)) && (decide (r_3≤r_3))) && (decide (r_3≤((z31:Nat):Int)))) <|
   iter (fun w=>zun N a2 a1 (len a1) w
    (fun o0_4=>
     iter (fun w=>zo2 N (len o0_4) o0_4 w
      (fun t17_1=>
       some (t17_1,0))) N (0,0))) N (0,(List.replicate (Int.toNat r_3) 0:List Int))))
def c45 (N:Nat):Callee:=.pure (.pr (.val .yf) (.pr (.val .yc) (.pr (.val .yb) .un))) [.ya,.ya] fun d=>f45 N d.1 d.2.1 d.2.2.1
def F45_12:SForm:=⟨[(55,(.val .ya)),(11,(.val .yb)),(12,(.ref 0)),(53,(.val .yb)),(9,(.ref 1)),(2,(.val .yb)),(44,(.val .yc)),(45,(.val .ya)),(46,(.val .ya)),(54,(.val .ya))],[.row .ya,.row .ya]⟩
def zzw (N:Nat):(R:Type)->F45_12.den->(AExit->St->Option R)->Option R:=fun R d k=>iter (fun kb=>zo4 N d.1.2.1 d.1.2.2.2.1 d.1.2.2.2.2.2.1 d.1.2.2.2.2.2.2.1 d.1.2.2.2.2.2.2.2.1 d.1.2.2.2.2.2.2.2.2.1 d.1.2.2.2.2.2.2.2.2.2.1 d.2.2.1 kb
  (fun y5=>k (.exit 2) (St.of [(9,(.ref 0 [] 0)),(2,(.data .yb d.1.2.2.2.2.2.1)),(44,(.data .yc d.1.2.2.2.2.2.2.1)),(45,(.data .ya d.1.2.2.2.2.2.2.2.1)),(46,(.data .ya d.1.2.2.2.2.2.2.2.2.1)),(12,(.ref 1 [] 0))] [.row .ya d.2.2.1 0,.row .ya y5 0]))) N (d.1.1,d.2.1)
def F45_17:SForm:=⟨[(73,(.val .ya)),(9,(.ref 0)),(71,(.ref 1)),(2,(.val .yb)),(44,(.val .yc)),(45,(.val .ya)),(46,(.val .ya)),(72,(.val .ya))],[.row .ya,.row .ya]⟩
def zzv (N:Nat):(R:Type)->F45_17.den->(AExit->St->Option R)->Option R:=fun R d k=>iter (fun kb=>zo3 N d.1.2.2.2.1 d.1.2.2.2.2.1 d.1.2.2.2.2.2.1 d.1.2.2.2.2.2.2.1 d.1.2.2.2.2.2.2.2.1 d.2.2.1 kb
  (fun y4=>k (.exit 4) (St.of [(9,(.ref 0 [] 0)),(2,(.data .yb d.1.2.2.2.1)),(44,(.data .yc d.1.2.2.2.2.1)),(45,(.data .ya d.1.2.2.2.2.2.1)),(46,(.data .ya d.1.2.2.2.2.2.2.1))] [.row .ya y4 0]))) N (d.1.1,d.2.1)
def F45_8:SForm:=⟨[(9,(.ref 0)),(46,(.val .ya)),(2,(.val .yb)),(44,(.val .yc)),(45,(.val .ya))],[.row .ya]⟩
def G45_8 (N:Nat):(R:Type)->F45_8.den->(AExit->St->Option R)->Option R:=fun R d k=>iter (fun kb=>zun N d.1.2.2.1 d.1.2.2.2.1 d.1.2.2.2.2.1 kb
  (fun y0=>k (.exit 0) (St.of [(9,(.ref 0 [] 0))] [.row .ya y0 0]))) N (d.1.2.1,d.2.1)
def F45_24:SForm:=⟨[(91,(.val .ya)),(17,(.val .ya)),(89,(.ref 0)),(90,(.val .ya))],[.row .ya]⟩
def zzu (N:Nat):(R:Type)->F45_24.den->(AExit->St->Option R)->Option R:=fun R d k=>iter (fun kb=>zo2 N d.1.2.2.2.1 d.2.1 kb
  (fun y0=>k (.exit 6) (St.of [(17,(.data .ya y0))] []))) N (d.1.1,d.1.2.1)
def lp45 (N:Nat):Nat->Option z0h:=fun r=>cond (Nat.beq r 12) (some fun R sl os k=>F45_12.take sl os fun d=>zzw N R d k) (cond (Nat.beq r 17) (some fun R sl os k=>F45_17.take sl os fun d=>zzv N R d k) (cond (Nat.beq r 8) (some fun R sl os k=>F45_8.take sl os fun d=>G45_8 N R d k) (cond (Nat.beq r 24) (some fun R sl os k=>F45_24.take sl os fun d=>zzu N R d k) (none))))
def x45 (N:Nat):Ctx:=(mkX N 100 [(21,[c21 N]),(66,[c66 N]),(52,[c52 N]),(67,[c67 N])] [(8,⟨[9,46,2,44,45],[]⟩),(12,⟨[55,11,12,53,9,2,44,45,46,54],[]⟩),(17,⟨[73,9,71,2,44,45,46,72],[]⟩),(24,⟨[91,17,89,90],[]⟩)] [(8,[(0,⟨[9],[]⟩)]),(12,[(2,⟨[9,2,44,45,46,12],[]⟩)]),(17,[(4,⟨[9,2,44,45,46],[]⟩)]),(24,[(6,⟨[17],[]⟩)])] ⟨[6,7],[]⟩ (fun _=>none) (lp45 N))
noncomputable def b45:Code:=((Go.Proofs.Tryz.f45).body).getD .skip
theorem s45_12 (N:Nat) {R:Type} (k:AExit->St->Option R) (t11:List Int) (t53:List Int) (t2_1:List Int) (t44_1:List Ya) (t45_1:Int) (t46_1:Int) (t54:Int) (o1:List Int) (kb:List Yo->List Obj->Option R) (x:Int×List Int):z0q (x45 N) (z03 12 (z00 b45)) (St.of [(55,(.data .ya x.1)),(11,(.data .yb t11)),(12,(.ref 0 [] 0)),(53,(.data .yb t53)),(9,(.ref 1 [] 0)),(2,(.data .yb t2_1)),(44,(.data .yc t44_1)),(45,(.data .ya t45_1)),(46,(.data .ya t46_1)),(54,(.data .ya t54))] [.row .ya x.2 0,.row .ya o1 0]) (z12 (x45 N) 12 ⟨[55,11,12,53,9,2,44,45,46,54],[]⟩ kb k)=zo4 N t11 t53 t2_1 t44_1 t45_1 t46_1 t54 o1 (fun y=>kb [(55,(.data .ya y.1)),(11,(.data .yb t11)),(12,(.ref 0 [] 0)),(53,(.data .yb t53)),(9,(.ref 1 [] 0)),(2,(.data .yb t2_1)),(44,(.data .yc t44_1)),(45,(.data .ya t45_1)),(46,(.data .ya t46_1)),(54,(.data .ya t54))] [.row .ya y.2 0,.row .ya o1 0])
  (fun y5=>k (.exit 2) (St.of [(9,(.ref 0 [] 0)),(2,(.data .yb t2_1)),(44,(.data .yc t44_1)),(45,(.data .ya t45_1)),(46,(.data .ya t46_1)),(12,(.ref 1 [] 0))] [.row .ya o1 0,.row .ya y5 0])) x:=by kernel_rfl
theorem l45_12 (N:Nat):z0f (x45 N) (z03 12 (z00 b45)):=
 z0b (zzw N) (by kernel_rfl) (by kernel_rfl) (by kernel_rfl) fun R k d=>
  z0a (st:=fun (x:Int×List Int)=>([(55,(.data .ya x.1)),(11,(.data .yb d.1.2.1)),(12,(.ref 0 [] 0)),(53,(.data .yb d.1.2.2.2.1)),(9,(.ref 1 [] 0)),(2,(.data .yb d.1.2.2.2.2.2.1)),(44,(.data .yc d.1.2.2.2.2.2.2.1)),(45,(.data .ya d.1.2.2.2.2.2.2.2.1)),(46,(.data .ya d.1.2.2.2.2.2.2.2.2.1)),(54,(.data .ya d.1.2.2.2.2.2.2.2.2.2.1))],[.row .ya x.2 0,.row .ya d.2.2.1 0])) (s45_12 N k d.1.2.1 d.1.2.2.2.1 d.1.2.2.2.2.2.1 d.1.2.2.2.2.2.2.1 d.1.2.2.2.2.2.2.2.1 d.1.2.2.2.2.2.2.2.2.1 d.1.2.2.2.2.2.2.2.2.2.1 d.2.2.1) N (d.1.1,d.2.1)
theorem s45_17 (N:Nat) {R:Type} (k:AExit->St->Option R) (t2_2:List Int) (t44_2:List Ya) (t45_2:Int) (t46_2:Int) (t72:Int) (o1_2:List Int) (kb:List Yo->List Obj->Option R) (x:Int×List Int):z0q (x45 N) (z03 17 (z00 b45)) (St.of [(73,(.data .ya x.1)),(9,(.ref 0 [] 0)),(71,(.ref 1 [] 0)),(2,(.data .yb t2_2)),(44,(.data .yc t44_2)),(45,(.data .ya t45_2)),(46,(.data .ya t46_2)),(72,(.data .ya t72))] [.row .ya x.2 0,.row .ya o1_2 0]) (z12 (x45 N) 17 ⟨[73,9,71,2,44,45,46,72],[]⟩ kb k)=zo3 N t2_2 t44_2 t45_2 t46_2 t72 o1_2 (fun y=>kb [(73,(.data .ya y.1)),(9,(.ref 0 [] 0)),(71,(.ref 1 [] 0)),(2,(.data .yb t2_2)),(44,(.data .yc t44_2)),(45,(.data .ya t45_2)),(46,(.data .ya t46_2)),(72,(.data .ya t72))] [.row .ya y.2 0,.row .ya o1_2 0])
  (fun y4=>k (.exit 4) (St.of [(9,(.ref 0 [] 0)),(2,(.data .yb t2_2)),(44,(.data .yc t44_2)),(45,(.data .ya t45_2)),(46,(.data .ya t46_2))] [.row .ya y4 0])) x:=by kernel_rfl
theorem l45_17 (N:Nat):z0f (x45 N) (z03 17 (z00 b45)):=
 z0b (zzv N) (by kernel_rfl) (by kernel_rfl) (by kernel_rfl) fun R k d=>
  z0a (st:=fun (x:Int×List Int)=>([(73,(.data .ya x.1)),(9,(.ref 0 [] 0)),(71,(.ref 1 [] 0)),(2,(.data .yb d.1.2.2.2.1)),(44,(.data .yc d.1.2.2.2.2.1)),(45,(.data .ya d.1.2.2.2.2.2.1)),(46,(.data .ya d.1.2.2.2.2.2.2.1)),(72,(.data .ya d.1.2.2.2.2.2.2.2.1))],[.row .ya x.2 0,.row .ya d.2.2.1 0])) (s45_17 N k d.1.2.2.2.1 d.1.2.2.2.2.1 d.1.2.2.2.2.2.1 d.1.2.2.2.2.2.2.1 d.1.2.2.2.2.2.2.2.1 d.2.2.1) N (d.1.1,d.2.1)
theorem s45_8 (N:Nat) {R:Type} (k:AExit->St->Option R) (t2:List Int) (t44:List Ya) (t45:Int) (kb:List Yo->List Obj->Option R) (x:Int×List Int):z0q (x45 N) (z03 8 (z00 b45)) (St.of [(9,(.ref 0 [] 0)),(46,(.data .ya x.1)),(2,(.data .yb t2)),(44,(.data .yc t44)),(45,(.data .ya t45))] [.row .ya x.2 0]) (z12 (x45 N) 8 ⟨[9,46,2,44,45],[]⟩ kb k)=zun N t2 t44 t45 (fun y=>kb [(9,(.ref 0 [] 0)),(46,(.data .ya y.1)),(2,(.data .yb t2)),(44,(.data .yc t44)),(45,(.data .ya t45))] [.row .ya y.2 0])
  (fun y0=>k (.exit 0) (St.of [(9,(.ref 0 [] 0))] [.row .ya y0 0])) x:=by kernel_rfl
theorem l45_8 (N:Nat):z0f (x45 N) (z03 8 (z00 b45)):=
 z0b (G45_8 N) (by kernel_rfl) (by kernel_rfl) (by kernel_rfl) fun R k d=>
  z0a (st:=fun (x:Int×List Int)=>([(9,(.ref 0 [] 0)),(46,(.data .ya x.1)),(2,(.data .yb d.1.2.2.1)),(44,(.data .yc d.1.2.2.2.1)),(45,(.data .ya d.1.2.2.2.2.1))],[.row .ya x.2 0])) (s45_8 N k d.1.2.2.1 d.1.2.2.2.1 d.1.2.2.2.2.1) N (d.1.2.1,d.2.1)
theorem s45_24 (N:Nat) {R:Type} (k:AExit->St->Option R) (t90:Int) (o0_5:List Int) (kb:List Yo->List Obj->Option R) (x:Int×Int):z0q (x45 N) (z03 24 (z00 b45)) (St.of [(91,(.data .ya x.1)),(17,(.data .ya x.2)),(89,(.ref 0 [] 0)),(90,(.data .ya t90))] [.row .ya o0_5 0]) (z12 (x45 N) 24 ⟨[91,17,89,90],[]⟩ kb k)=zo2 N t90 o0_5 (fun y=>kb [(91,(.data .ya y.1)),(17,(.data .ya y.2)),(89,(.ref 0 [] 0)),(90,(.data .ya t90))] [.row .ya o0_5 0])
  (fun y0=>k (.exit 6) (St.of [(17,(.data .ya y0))] [])) x:=by kernel_rfl
theorem l45_24 (N:Nat):z0f (x45 N) (z03 24 (z00 b45)):=
 z0b (zzu N) (by kernel_rfl) (by kernel_rfl) (by kernel_rfl) fun R k d=>
  z0a (st:=fun (x:Int×Int)=>([(91,(.data .ya x.1)),(17,(.data .ya x.2)),(89,(.ref 0 [] 0)),(90,(.data .ya d.1.2.2.2.1))],[.row .ya d.2.1 0])) (s45_24 N k d.1.2.2.2.1 d.2.1) N (d.1.1,d.1.2.1)
theorem e45 (N:Nat) (a0:Yd) (a1:List Ya) (a2:List Int):z1g (x45 N) [.ya,.ya] [.tmp 6,.tmp 7] b45 (entry (.pr (.val .yf) (.pr (.val .yc) (.pr (.val .yb) .un))) (a0,(a1,(a2,()))))=f45 N a0 a1 a2:=by kernel_rfl
theorem k45 (N:Nat):z04 Go.Proofs.Tryz.prog 45 (c45 N):=
 z1h (fn:=Go.Proofs.Tryz.f45) (body:=b45) (c:=x45 N) Go.Proofs.Tryz.func45 (by kernel_rfl) (by kernel_rfl) ⟨ttL_ok,z0k,z0m,z0n,z0l,z02 (z01 (k21 N)) (z02 (z01 (k66 N)) (z02 (z01 (k52 N)) (z02 (z01 (k67 N)) (z09))))⟩ mixed (by kernel_rfl) (zL (by kernel_rfl)) (by kernel_rfl) (by decide)
  (z06 (by kernel_rfl:z00 b45=[z03 8 (z00 b45),z03 12 (z00 b45),z03 17 (z00 b45),z03 24 (z00 b45)]) (.cons (l45_8 N) (.cons (l45_12 N) (.cons (l45_17 N) (.cons (l45_24 N) .nil))))) fun d=>e45 N d.1 d.2.1 d.2.2.1
def f37 (N:Nat) (a0:Yd) (a1:List Ya) (a2:Int):Option (Int):=
 (f21 N a0).bind fun r=>
 cond (!(decide (r=0)))
  (some 1)
  (chk (((decide (0≤a0.1)) && (decide (a0.1≤a0.1))) && (decide (a0.1≤((z31:Nat):Int)))) <|
  (f45 N a0 a1 (List.replicate (Int.toNat a0.1) 0:List Int)).bind fun r_1=>
  (cond (!(decide (r_1.2=0)))
    (some true)
    (some (decide (a2 < 0)))).bind fun b=>
  (cond b
    (some true)
    (some (decide (8 < a2)))).bind fun b_1=>
  cond b_1
   (some 1)
   (some 0))
def c37 (N:Nat):Callee:=.pure (.pr (.val .yf) (.pr (.val .yc) (.pr (.val .ya) .un))) [.ya] fun d=>f37 N d.1 d.2.1 d.2.2.1
def lp37 (N:Nat):Nat->Option z0h:=fun r=>none
def x37 (N:Nat):Ctx:=(mkX N 31 [(21,[c21 N]),(45,[c45 N])] [] [] ⟨[6],[]⟩ (fun _=>none) (lp37 N))
noncomputable def b37:Code:=((Go.Proofs.Tryz.f37).body).getD .skip
theorem e37 (N:Nat) (a0:Yd) (a1:List Ya) (a2:Int):z1g (x37 N) [.ya] [.tmp 6] b37 (entry (.pr (.val .yf) (.pr (.val .yc) (.pr (.val .ya) .un))) (a0,(a1,(a2,()))))=f37 N a0 a1 a2:=by kernel_rfl
theorem k37 (N:Nat):z04 Go.Proofs.Tryz.prog 37 (c37 N):=
 z1h (fn:=Go.Proofs.Tryz.f37) (body:=b37) (c:=x37 N) Go.Proofs.Tryz.func37 (by kernel_rfl) (by kernel_rfl) ⟨ttL_ok,z0k,z0m,z0n,z0l,z02 (z01 (k21 N)) (z02 (z01 (k45 N)) (z09))⟩ mixed (by kernel_rfl) (zL (by kernel_rfl)) (by kernel_rfl) (by decide)
  (z06 (by kernel_rfl:z00 b37=[]) .nil) fun d=>e37 N d.1 d.2.1 d.2.2.1
def f24 (N:Nat) (a0:Yd):Option (Int):=
 cond (decide (a0.1 < 0))
  (none)
  (some (z0g ((z0g (1*(2 ^ (min (Int.toNat a0.1) 64))))-1)))
def c24 (N:Nat):Callee:=.pure (.pr (.val .yf) .un) [.ya] fun d=>f24 N d.1
def lp24 (N:Nat):Nat->Option z0h:=fun r=>none
def x24 (N:Nat):Ctx:=(mkX N 7 [] [] [] ⟨[2],[]⟩ (fun _=>none) (lp24 N))
noncomputable def b24:Code:=((Go.Proofs.Tryz.f24).body).getD .skip
theorem e24 (N:Nat) (a0:Yd):z1g (x24 N) [.ya] [.tmp 2] b24 (entry (.pr (.val .yf) .un) (a0,()))=f24 N a0:=by kernel_rfl
theorem k24 (N:Nat):z04 Go.Proofs.Tryz.prog 24 (c24 N):=
 z1h (fn:=Go.Proofs.Tryz.f24) (body:=b24) (c:=x24 N) Go.Proofs.Tryz.func24 (by kernel_rfl) (by kernel_rfl) ⟨ttL_ok,z0k,z0m,z0n,z0l,z09⟩ mixed (by kernel_rfl) (zL (by kernel_rfl)) (by kernel_rfl) (by decide)
  (z06 (by kernel_rfl:z00 b24=[]) .nil) fun d=>e24 N d.1
def zpr {R:Type} (N:Nat) (t0:List Int) (kb:Int×Int->Option R) (kx0:Int->Option R):Int×Int->Option R:=
 fun (t4,t3)=>
  cond (decide (t4 < (len t0)))
   ((idx t0 t4).bind fun x_1=>
   kb ((z0g (t4+1)),(zky t3 x_1)))
   (kx0 t3)
def f70 (N:Nat) (a0:List Int):Option (Int):=
 cond (decide ((len a0) < 1))
  (none)
  ((idx a0 0).bind fun x=>
  iter (fun w=>zpr N a0 w
   (fun t3_1=>
    some t3_1)) N (1,x))
def c70 (N:Nat):Callee:=.pure (.pr (.val .yb) .un) [.ya] fun d=>f70 N d.1
def F70_5:SForm:=⟨[(4,(.val .ya)),(0,(.val .yb)),(3,(.val .ya))],[]⟩
def G70_5 (N:Nat):(R:Type)->F70_5.den->(AExit->St->Option R)->Option R:=fun R d k=>iter (fun kb=>zpr N d.1.2.1 kb
  (fun y0=>k (.exit 0) (St.of [(3,(.data .ya y0))] []))) N (d.1.1,d.1.2.2.1)
def lp70 (N:Nat):Nat->Option z0h:=fun r=>cond (Nat.beq r 5) (some fun R sl os k=>F70_5.take sl os fun d=>G70_5 N R d k) (none)
def x70 (N:Nat):Ctx:=(mkX N 25 [] [(5,⟨[4,0,3],[]⟩)] [(5,[(0,⟨[3],[]⟩)])] ⟨[2],[]⟩ (fun _=>none) (lp70 N))
noncomputable def b70:Code:=((Go.Proofs.Tryz.f70).body).getD .skip
theorem s70_5 (N:Nat) {R:Type} (k:AExit->St->Option R) (t0:List Int) (kb:List Yo->List Obj->Option R) (x:Int×Int):z0q (x70 N) (z03 5 (z00 b70)) (St.of [(4,(.data .ya x.1)),(0,(.data .yb t0)),(3,(.data .ya x.2))] []) (z12 (x70 N) 5 ⟨[4,0,3],[]⟩ kb k)=zpr N t0 (fun y=>kb [(4,(.data .ya y.1)),(0,(.data .yb t0)),(3,(.data .ya y.2))] [])
  (fun y0=>k (.exit 0) (St.of [(3,(.data .ya y0))] [])) x:=by kernel_rfl
theorem l70_5 (N:Nat):z0f (x70 N) (z03 5 (z00 b70)):=
 z0b (G70_5 N) (by kernel_rfl) (by kernel_rfl) (by kernel_rfl) fun R k d=>
  z0a (st:=fun (x:Int×Int)=>([(4,(.data .ya x.1)),(0,(.data .yb d.1.2.1)),(3,(.data .ya x.2))],[])) (s70_5 N k d.1.2.1) N (d.1.1,d.1.2.2.1)
theorem e70 (N:Nat) (a0:List Int):z1g (x70 N) [.ya] [.tmp 2] b70 (entry (.pr (.val .yb) .un) (a0,()))=f70 N a0:=by kernel_rfl
theorem k70 (N:Nat):z04 Go.Proofs.Tryz.prog 70 (c70 N):=
 z1h (fn:=Go.Proofs.Tryz.f70) (body:=b70) (c:=x70 N) Go.Proofs.Tryz.func70 (by kernel_rfl) (by kernel_rfl) ⟨ttL_ok,z0k,z0m,z0n,z0l,z09⟩ mixed (by kernel_rfl) (zL (by kernel_rfl)) (by kernel_rfl) (by decide)
  (z06 (by kernel_rfl:z00 b70=[z03 5 (z00 b70)]) (.cons (l70_5 N) .nil)) fun d=>e70 N d.1
def zlf {R:Type} (N:Nat) (t1:Int) (t12:List Int) (t13:Int) (kb:Int×List Int->Option R) (kx0:Ya->Option R):Int×List Int->Option R:=
 fun (t14,o0)=>
  cond (decide (t14 < t13))
   ((idx t12 t14).bind fun x=>
   chk (inb o0 x) <|
   (idx o0 x).bind fun x_1=>
   cond (decide (t14 < 0))
    (none)
    (chk (inb o0 x) <|
    (idx o0 x).bind fun x_2=>
    (idx o0 x).bind fun x_3=>
    kb ((z0g (t14+1)),(zar o0 x (z0g (((((BitVec.ofInt 64 x_1).or
  (BitVec.ofInt 64
   (Go.IntKind.i64.wrap
    ↑((BitVec.ofInt 64 t1).and
       (BitVec.ofInt 64 (Go.IntKind.i64.wrap (Int.mul 1 (Int.pow 2 (min (Int.toNat t14) 64)))))).toNat))).toNat):Nat):Int))))))
   (kx0 o0)
def f55 (N:Nat) (a0:List Int) (a1:Int):Option Ya:=
 (f70 N a0).bind fun r=>
 chk (((decide (0≤(z0g (r+1)))) && (decide ((z0g (r+1))≤(z0g (r+1))))) && (decide ((z0g (r+1))≤((z31:Nat):Int)))) <|
 iter (fun w=>zlf N a1 a0 (len a0) w
  (fun o0_1=>
   some o0_1)) N (0,(List.replicate (Int.toNat (z0g (r+1))) 0:List Int))
def c55 (N:Nat):Callee:=.pure (.pr (.val .yb) (.pr (.val .ya) .un)) [.yi] fun d=>f55 N d.1 d.2.1
def F55_3:SForm:=⟨[(14,(.val .ya)),(1,(.val .ya)),(5,(.ref 0)),(12,(.val .yb)),(13,(.val .ya))],[.row .ya]⟩
def G55_3 (N:Nat):(R:Type)->F55_3.den->(AExit->St->Option R)->Option R:=fun R d k=>iter (fun kb=>zlf N d.1.2.1 d.1.2.2.2.1 d.1.2.2.2.2.1 kb
  (fun y0=>k (.exit 0) (St.of [(5,(.ref 0 [] 0))] [.row .ya y0 0]))) N (d.1.1,d.2.1)
def lp55 (N:Nat):Nat->Option z0h:=fun r=>cond (Nat.beq r 3) (some fun R sl os k=>F55_3.take sl os fun d=>G55_3 N R d k) (none)
def x55 (N:Nat):Ctx:=(mkX N 31 [(70,[c70 N])] [(3,⟨[14,1,5,12,13],[]⟩)] [(3,[(0,⟨[5],[]⟩)])] ⟨[4],[]⟩ (fun _=>none) (lp55 N))
noncomputable def b55:Code:=((Go.Proofs.Tryz.f55).body).getD .skip
theorem s55_3 (N:Nat) {R:Type} (k:AExit->St->Option R) (t1:Int) (t12:List Int) (t13:Int) (kb:List Yo->List Obj->Option R) (x:Int×List Int):z0q (x55 N) (z03 3 (z00 b55)) (St.of [(14,(.data .ya x.1)),(1,(.data .ya t1)),(5,(.ref 0 [] 0)),(12,(.data .yb t12)),(13,(.data .ya t13))] [.row .ya x.2 0]) (z12 (x55 N) 3 ⟨[14,1,5,12,13],[]⟩ kb k)=zlf N t1 t12 t13 (fun y=>kb [(14,(.data .ya y.1)),(1,(.data .ya t1)),(5,(.ref 0 [] 0)),(12,(.data .yb t12)),(13,(.data .ya t13))] [.row .ya y.2 0])
  (fun y0=>k (.exit 0) (St.of [(5,(.ref 0 [] 0))] [.row .ya y0 0])) x:=by kernel_rfl
theorem l55_3 (N:Nat):z0f (x55 N) (z03 3 (z00 b55)):=
 z0b (G55_3 N) (by kernel_rfl) (by kernel_rfl) (by kernel_rfl) fun R k d=>
  z0a (st:=fun (x:Int×List Int)=>([(14,(.data .ya x.1)),(1,(.data .ya d.1.2.1)),(5,(.ref 0 [] 0)),(12,(.data .yb d.1.2.2.2.1)),(13,(.data .ya d.1.2.2.2.2.1))],[.row .ya x.2 0])) (s55_3 N k d.1.2.1 d.1.2.2.2.1 d.1.2.2.2.2.1) N (d.1.1,d.2.1)
theorem e55 (N:Nat) (a0:List Int) (a1:Int):z1g (x55 N) [.yi] [.tmp 4] b55 (entry (.pr (.val .yb) (.pr (.val .ya) .un)) (a0,(a1,())))=f55 N a0 a1:=by kernel_rfl
theorem k55 (N:Nat):z04 Go.Proofs.Tryz.prog 55 (c55 N):=
 z1h (fn:=Go.Proofs.Tryz.f55) (body:=b55) (c:=x55 N) Go.Proofs.Tryz.func55 (by kernel_rfl) (by kernel_rfl) ⟨ttL_ok,z0k,z0m,z0n,z0l,z02 (z01 (k70 N)) (z09)⟩ mixed (by kernel_rfl) (zL (by kernel_rfl)) (by kernel_rfl) (by decide)
  (z06 (by kernel_rfl:z00 b55=[z03 3 (z00 b55)]) (.cons (l55_3 N) .nil)) fun d=>e55 N d.1 d.2.1
def zjf {R:Type} (N:Nat) (r38:Ye->Yd->Yq->Yj->Option (Yal)) (t39_1:List Ya) (t40_1:Int) (t41_1:Int) (t49:Int) (o2_1:Ye) (o3:List Int) (kb:Int×Yd×List Ya×Yj->Option R) (kret:Bool->Yd->Yq->Yj->Option R) (kx2:Yd->Yq->Yj->Option R):Int×Yd×List Ya×Yj->Option R:=
 fun (t50,o0_2,o0'_2,o1_2)=>
  cond (decide (t50 < t49))
   (chk (inb o3 t50) <|
   (idx o3 t50).bind fun x_1=>
   cond (!(decide (x_1=0)))
    ((r38 (x_1,((z0g (o2_1.2.1-1)),())) o0_2 o0'_2 o1_2).bind fun r_1=>
    cond (!r_1.1.2.1)
     (kret false r_1.2.1.1 r_1.2.1.2.1 r_1.2.2.1)
     (kb ((z0g (t50+1)),r_1.2.1.1,r_1.2.1.2.1,r_1.2.2.1)))
    (kb ((z0g (t50+1)),o0_2,o0'_2,o1_2)))
   (kx2 o0_2 o0'_2 o1_2)
def zjg {R:Type} (N:Nat) (r38:Ye->Yd->Yq->Yj->Option (Yal)) (t39:List Ya) (t40:Int) (o2:Ye) (kb:Int×Yd×List Ya×Yj->Option R) (kret:Bool->Yd->Yq->Yj->Option R) (kx0:Yd->Yq->Yj->Option R):Int×Yd×List Ya×Yj->Option R:=
 fun (t41,o0_1,o0'_1,o1_1)=>
  cond (decide (t41 < t40))
   ((idx t39 t41).bind fun x=>
   (f55 N x o2.1).bind fun r=>
   iter (fun w=>zjf N r38 t39 t40 t41 (len r) o2 r w
    (fun t4 o0_3 o0'_3 o1_3=>
     kret t4 o0_3 o0'_3 o1_3)
    (fun o0_4 o0'_4 o1_4=>
     kb ((z0g (t41+1)),o0_4,o0'_4,o1_4))) N (0,o0_1,o0'_1,o1_1))
   (kx0 o0_1 o0'_1 o1_1)
def f38B (N:Nat) (r38:Ye->Yd->Yq->Yj->Option (Yal)) (t1:Ye) (o0:Yd) (o0':List Ya) (o1:List Yi):Option (Yal):=
 cond (Option.isSome (z80 (eqD .yg) o1 t1))
  (some (((),(true,())),((o0,(o0',((),()))),(o1,()))))
  (chk (decide ((List.length o1)≤z31)) <|
  cond (decide ((len o1)=4096))
   (some (((),(false,())),((o0,(o0',((),()))),(o1,()))))
   (cond (decide (t1.2.1=0))
    (some (((),(true,())),((o0,(o0',((),()))),((zb1 (eqD .yg) o1 t1 (-1)),()))))
    (iter (fun w=>zjg N r38 o0.2.1 (len o0.2.1) t1 w
     (fun t4_1 o0_5 o0'_5 o1_5=>
      some (((),(t4_1,())),((o0_5,(o0'_5,((),()))),(o1_5,()))))
     (fun o0_6 o0'_6 o1_6=>
      some (((),(true,())),((o0_6,(o0'_6,((),()))),(o1_6,()))))) N (0,o0,o0',(zb1 (eqD .yg) o1 t1 (-1))))))
def fi38B:SForm:=⟨[(0,(.bptr 0 [])),(1,(.val .yg))],[.con (.agg (.pr (.val .yf) (.pr (.val .yc) (.pr (.mref 1) .un)))),.map .yg .ya]⟩
def fo38B:SForm:=⟨[(0,(.bptr 0 [])),(4,(.val .bool))],[.con (.agg (.pr (.val .yf) (.pr (.val .yc) (.pr (.mref 1) .un)))),.map .yg .ya]⟩
def c38B (N:Nat) (r38:Ye->Yd->Yq->Yj->Option (Yal)):Callee:=.mut fi38B [0] fo38B fun d=>f38B N r38 d.1.2.1 d.2.1.1 d.2.1.2.1 d.2.2.1
def zvt:SForm:=⟨[(0,(.bptr 0 [])),(50,(.val .ya)),(3,(.bptr 2 [])),(48,(.ref 3)),(39,(.val .yc)),(40,(.val .ya)),(41,(.val .ya)),(49,(.val .ya))],[.con (.agg (.pr (.val .yf) (.pr (.val .yc) (.pr (.mref 1) .un)))),.map .yg .ya,.cell (.val .yg),.row .ya]⟩
def zvp (N:Nat) (r38:Ye->Yd->Yq->Yj->Option (Yal)):(R:Type)->zvt.den->(AExit->St->Option R)->Option R:=fun R d k=>iter (fun kb=>zjf N r38 d.1.2.2.2.2.1 d.1.2.2.2.2.2.1 d.1.2.2.2.2.2.2.1 d.1.2.2.2.2.2.2.2.1 d.2.2.2.1 d.2.2.2.2.1 kb
  (fun y0 y1 y2 y3=>k .ret (St.of [(0,(.bptr 0 [])),(4,(.data .bool y0))] [.cell (.tup (.agg (.pr (.data .yf y1) (.pr (.data .yc y2) (.pr (.mref 1) .un))))),.map .yg .ya y3]))
  (fun y3 y4 y5=>k (.exit 2) (St.of [(0,(.bptr 0 [])),(3,(.bptr 2 [])),(39,(.data .yc d.1.2.2.2.2.1)),(40,(.data .ya d.1.2.2.2.2.2.1)),(41,(.data .ya d.1.2.2.2.2.2.2.1))] [.cell (.tup (.agg (.pr (.data .yf y3) (.pr (.data .yc y4) (.pr (.mref 1) .un))))),.map .yg .ya y5,.cell (.data .yg d.2.2.2.1)]))) N (d.1.2.1,d.2.1.1,d.2.1.2.1,d.2.2.1)
def zvu:SForm:=⟨[(0,(.bptr 0 [])),(3,(.bptr 2 [])),(41,(.val .ya)),(39,(.val .yc)),(40,(.val .ya))],[.con (.agg (.pr (.val .yf) (.pr (.val .yc) (.pr (.mref 1) .un)))),.map .yg .ya,.cell (.val .yg)]⟩
def zvq (N:Nat) (r38:Ye->Yd->Yq->Yj->Option (Yal)):(R:Type)->zvu.den->(AExit->St->Option R)->Option R:=fun R d k=>iter (fun kb=>zjg N r38 d.1.2.2.2.1 d.1.2.2.2.2.1 d.2.2.2.1 kb
  (fun y0 y1 y2 y3=>k .ret (St.of [(0,(.bptr 0 [])),(4,(.data .bool y0))] [.cell (.tup (.agg (.pr (.data .yf y1) (.pr (.data .yc y2) (.pr (.mref 1) .un))))),.map .yg .ya y3]))
  (fun y0 y1 y2=>k (.exit 0) (St.of [(0,(.bptr 0 []))] [.cell (.tup (.agg (.pr (.data .yf y0) (.pr (.data .yc y1) (.pr (.mref 1) .un))))),.map .yg .ya y2]))) N (d.1.2.2.1,d.2.1.1,d.2.1.2.1,d.2.2.1)
def lp38B (N:Nat) (r38:Ye->Yd->Yq->Yj->Option (Yal)):Nat->Option z0h:=fun r=>cond (Nat.beq r 13) (some fun R sl os k=>zvt.take sl os fun d=>zvp N r38 R d k) (cond (Nat.beq r 10) (some fun R sl os k=>zvu.take sl os fun d=>zvq N r38 R d k) (none))
def zyn (N:Nat) (r38:Ye->Yd->Yq->Yj->Option (Yal)):Ctx:={ fuel:=N,tt:=z1k ttL,mt:=z1k mtL,ntmps:=68,env:=fun f=>(z1k [(55,[c55 N]),(38,[(.mut ⟨[(0,(.bptr 0 [])),(1,(.val .yg))],[.con (.agg (.pr (.val .yf) (.pr (.val .yc) (.pr (.mref 1) .un)))),.map .yg .ya]⟩ [0] ⟨[(0,(.bptr 0 [])),(4,(.val .bool))],[.con (.agg (.pr (.val .yf) (.pr (.val .yc) (.pr (.mref 1) .un)))),.map .yg .ya]⟩ fun d=>r38 d.1.2.1 d.2.1.1 d.2.1.2.1 d.2.2.1)])] f).getD [],cut:=z1k [(10,⟨[0,3,41,39,40],[]⟩),(13,⟨[0,50,3,48,39,40,41,49],[]⟩)],exits:=fun r=>z1k ((z1k [(10,[(0,⟨[0],[]⟩)]),(13,[(2,⟨[0,3,39,40,41],[]⟩)])] r).getD []),res:=⟨[0,4],[]⟩,own:=fun _=>none,lp:=lp38B N r38,eqs:=fun T=>z2e T eqL,ct:=fun T=>z2e T ctL,ms:=z9k msL }
noncomputable def zyg:Code:=((Go.Proofs.Tryz.f38).body).getD .skip
theorem s38B_13 (N:Nat) (r38:Ye->Yd->Yq->Yj->Option (Yal)) {R:Type} (k:AExit->St->Option R) (t39_1:List Ya) (t40_1:Int) (t41_1:Int) (t49:Int) (o2_1:Ye) (o3:List Int) (kb:List Yo->List Obj->Option R) (x:Int×Yd×List Ya×Yj):z0q (zyn N r38) (z03 13 (z00 zyg)) (St.of [(0,(.bptr 0 [])),(50,(.data .ya x.1)),(3,(.bptr 2 [])),(48,(.ref 3 [] 0)),(39,(.data .yc t39_1)),(40,(.data .ya t40_1)),(41,(.data .ya t41_1)),(49,(.data .ya t49))] [.cell (.tup (.agg (.pr (.data .yf x.2.1) (.pr (.data .yc x.2.2.1) (.pr (.mref 1) .un))))),.map .yg .ya x.2.2.2,.cell (.data .yg o2_1),.row .ya o3 0]) (z12 (zyn N r38) 13 ⟨[0,50,3,48,39,40,41,49],[]⟩ kb k)=zjf N r38 t39_1 t40_1 t41_1 t49 o2_1 o3 (fun y=>kb [(0,(.bptr 0 [])),(50,(.data .ya y.1)),(3,(.bptr 2 [])),(48,(.ref 3 [] 0)),(39,(.data .yc t39_1)),(40,(.data .ya t40_1)),(41,(.data .ya t41_1)),(49,(.data .ya t49))] [.cell (.tup (.agg (.pr (.data .yf y.2.1) (.pr (.data .yc y.2.2.1) (.pr (.mref 1) .un))))),.map .yg .ya y.2.2.2,.cell (.data .yg o2_1),.row .ya o3 0])
  (fun y0 y1 y2 y3=>k .ret (St.of [(0,(.bptr 0 [])),(4,(.data .bool y0))] [.cell (.tup (.agg (.pr (.data .yf y1) (.pr (.data .yc y2) (.pr (.mref 1) .un))))),.map .yg .ya y3]))
  (fun y3 y4 y5=>k (.exit 2) (St.of [(0,(.bptr 0 [])),(3,(.bptr 2 [])),(39,(.data .yc t39_1)),(40,(.data .ya t40_1)),(41,(.data .ya t41_1))] [.cell (.tup (.agg (.pr (.data .yf y3) (.pr (.data .yc y4) (.pr (.mref 1) .un))))),.map .yg .ya y5,.cell (.data .yg o2_1)])) x:=by kernel_rfl
theorem l38B_13 (N:Nat) (r38:Ye->Yd->Yq->Yj->Option (Yal)):z0f (zyn N r38) (z03 13 (z00 zyg)):=
 z0b (zvp N r38) (by kernel_rfl) (by kernel_rfl) (by kernel_rfl) fun R k d=>
  z0a (st:=fun (x:Int×Yd×List Ya×Yj)=>([(0,(.bptr 0 [])),(50,(.data .ya x.1)),(3,(.bptr 2 [])),(48,(.ref 3 [] 0)),(39,(.data .yc d.1.2.2.2.2.1)),(40,(.data .ya d.1.2.2.2.2.2.1)),(41,(.data .ya d.1.2.2.2.2.2.2.1)),(49,(.data .ya d.1.2.2.2.2.2.2.2.1))],[.cell (.tup (.agg (.pr (.data .yf x.2.1) (.pr (.data .yc x.2.2.1) (.pr (.mref 1) .un))))),.map .yg .ya x.2.2.2,.cell (.data .yg d.2.2.2.1),.row .ya d.2.2.2.2.1 0])) (s38B_13 N r38 k d.1.2.2.2.2.1 d.1.2.2.2.2.2.1 d.1.2.2.2.2.2.2.1 d.1.2.2.2.2.2.2.2.1 d.2.2.2.1 d.2.2.2.2.1) N (d.1.2.1,d.2.1.1,d.2.1.2.1,d.2.2.1)
theorem s38B_10 (N:Nat) (r38:Ye->Yd->Yq->Yj->Option (Yal)) {R:Type} (k:AExit->St->Option R) (t39:List Ya) (t40:Int) (o2:Ye) (kb:List Yo->List Obj->Option R) (x:Int×Yd×List Ya×Yj):z0q (zyn N r38) (z03 10 (z00 zyg)) (St.of [(0,(.bptr 0 [])),(3,(.bptr 2 [])),(41,(.data .ya x.1)),(39,(.data .yc t39)),(40,(.data .ya t40))] [.cell (.tup (.agg (.pr (.data .yf x.2.1) (.pr (.data .yc x.2.2.1) (.pr (.mref 1) .un))))),.map .yg .ya x.2.2.2,.cell (.data .yg o2)]) (z12 (zyn N r38) 10 ⟨[0,3,41,39,40],[]⟩ kb k)=zjg N r38 t39 t40 o2 (fun y=>kb [(0,(.bptr 0 [])),(3,(.bptr 2 [])),(41,(.data .ya y.1)),(39,(.data .yc t39)),(40,(.data .ya t40))] [.cell (.tup (.agg (.pr (.data .yf y.2.1) (.pr (.data .yc y.2.2.1) (.pr (.mref 1) .un))))),.map .yg .ya y.2.2.2,.cell (.data .yg o2)])
  (fun y0 y1 y2 y3=>k .ret (St.of [(0,(.bptr 0 [])),(4,(.data .bool y0))] [.cell (.tup (.agg (.pr (.data .yf y1) (.pr (.data .yc y2) (.pr (.mref 1) .un))))),.map .yg .ya y3]))
  (fun y0 y1 y2=>k (.exit 0) (St.of [(0,(.bptr 0 []))] [.cell (.tup (.agg (.pr (.data .yf y0) (.pr (.data .yc y1) (.pr (.mref 1) .un))))),.map .yg .ya y2])) x:=by kernel_rfl
theorem l38B_10 (N:Nat) (r38:Ye->Yd->Yq->Yj->Option (Yal)):z0f (zyn N r38) (z03 10 (z00 zyg)):=
 z0b (zvq N r38) (by kernel_rfl) (by kernel_rfl) (by kernel_rfl) fun R k d=>
  z0a (st:=fun (x:Int×Yd×List Ya×Yj)=>([(0,(.bptr 0 [])),(3,(.bptr 2 [])),(41,(.data .ya x.1)),(39,(.data .yc d.1.2.2.2.1)),(40,(.data .ya d.1.2.2.2.2.1))],[.cell (.tup (.agg (.pr (.data .yf x.2.1) (.pr (.data .yc x.2.2.1) (.pr (.mref 1) .un))))),.map .yg .ya x.2.2.2,.cell (.data .yg d.2.2.2.1)])) (s38B_10 N r38 k d.1.2.2.2.1 d.1.2.2.2.2.1 d.2.2.2.1) N (d.1.2.2.1,d.2.1.1,d.2.1.2.1,d.2.2.1)
theorem e38B (N:Nat) (r38:Ye->Yd->Yq->Yj->Option (Yal)) (t1:Ye) (o0:Yd) (o0':List Ya) (o1:List Yi):z9m (zyn N r38) fo38B zyg (St.of [(0,(.bptr 0 [])),(1,(.data .yg t1))] [.cell (.tup (.agg (.pr (.data .yf o0) (.pr (.data .yc o0') (.pr (.mref 1) .un))))),.map .yg .ya o1])=f38B N r38 t1 o0 o0' o1:=by kernel_rfl
theorem k38B (N:Nat) (r38:Ye->Yd->Yq->Yj->Option (Yal)) (h38:z04 Go.Proofs.Tryz.prog 38 (.mut ⟨[(0,(.bptr 0 [])),(1,(.val .yg))],[.con (.agg (.pr (.val .yf) (.pr (.val .yc) (.pr (.mref 1) .un)))),.map .yg .ya]⟩ [0] ⟨[(0,(.bptr 0 [])),(4,(.val .bool))],[.con (.agg (.pr (.val .yf) (.pr (.val .yc) (.pr (.mref 1) .un)))),.map .yg .ya]⟩ fun d=>r38 d.1.2.1 d.2.1.1 d.2.1.2.1 d.2.2.1)):z04 Go.Proofs.Tryz.prog 38 (c38B N r38):=
 z2a (fn:=Go.Proofs.Tryz.f38) (body:=zyg) (c:=zyn N r38) (rs:=[4]) Go.Proofs.Tryz.func38 (by kernel_rfl) (by kernel_rfl) ⟨ttL_ok,z0k,z0m,z0n,z0l,z02 (z01 (k55 N)) (z02 (z01 (h38)) (z09))⟩ mixed (by kernel_rfl) (zL (by kernel_rfl)) (by kernel_rfl) (by kernel_rfl) (by kernel_rfl) (z2o (by kernel_rfl))
  (z06 (by kernel_rfl:z00 zyg=[z03 10 (z00 zyg),z03 13 (z00 zyg)]) (.cons (l38B_10 N r38) (.cons (l38B_13 N r38) .nil))) fun d=>e38B N r38 d.1.2.1 d.2.1.1 d.2.1.2.1 d.2.2.1
def f38R (N:Nat) (M:Nat):Ye->Yd->Yq->Yj->Option (Yal):=Nat.rec (motive:=fun _=>Ye->Yd->Yq->Yj->Option (Yal)) (fun _ _ _ _=>none) (fun _ r=>f38B N r) M
def f38 (N:Nat) (a0:Ye) (a1:Yd) (a2:List Ya) (a3:List Yi):Option (Yal):=f38R N N a0 a1 a2 a3
def c38 (N:Nat):Callee:=(.mut ⟨[(0,(.bptr 0 [])),(1,(.val .yg))],[.con (.agg (.pr (.val .yf) (.pr (.val .yc) (.pr (.mref 1) .un)))),.map .yg .ya]⟩ [0] ⟨[(0,(.bptr 0 [])),(4,(.val .bool))],[.con (.agg (.pr (.val .yf) (.pr (.val .yc) (.pr (.mref 1) .un)))),.map .yg .ya]⟩ fun d=>f38 N d.1.2.1 d.2.1.1 d.2.1.2.1 d.2.2.1)
theorem k38 (N:Nat):z04 Go.Proofs.Tryz.prog 38 (c38 N):=
 have h:∀ M:Nat,z04 Go.Proofs.Tryz.prog 38 (.mut ⟨[(0,(.bptr 0 [])),(1,(.val .yg))],[.con (.agg (.pr (.val .yf) (.pr (.val .yc) (.pr (.mref 1) .un)))),.map .yg .ya]⟩ [0] ⟨[(0,(.bptr 0 [])),(4,(.val .bool))],[.con (.agg (.pr (.val .yf) (.pr (.val .yc) (.pr (.mref 1) .un)))),.map .yg .ya]⟩ fun d=>f38R N M d.1.2.1 d.2.1.1 d.2.1.2.1 d.2.2.1):=fun M=>Nat.rec (motive:=fun M=>z04 Go.Proofs.Tryz.prog 38 (.mut ⟨[(0,(.bptr 0 [])),(1,(.val .yg))],[.con (.agg (.pr (.val .yf) (.pr (.val .yc) (.pr (.mref 1) .un)))),.map .yg .ya]⟩ [0] ⟨[(0,(.bptr 0 [])),(4,(.val .bool))],[.con (.agg (.pr (.val .yf) (.pr (.val .yc) (.pr (.mref 1) .un)))),.map .yg .ya]⟩ fun d=>f38R N M d.1.2.1 d.2.1.1 d.2.1.2.1 d.2.2.1)) (z3m fun _=>rfl) (fun M ih=>k38B N _ ih) M
 h N
def zuk {R:Type} (N:Nat) (t1_1:Int) (t17:List Int) (t11_1:List Ya) (t12_1:Int) (t13_1:Int) (t5_1:Int) (t18:Int) (kb:Int×Int->Option R) (kx2:Int->Option R):Int×Int->Option R:=
 fun (t19,t8)=>
  cond (decide (t19 < t18))
   ((idx t17 t19).bind fun x_1=>
   cond (decide (t19 < 0))
    (none)
    (cond (decide ((z0g (((((BitVec.ofInt 64 (Int.fdiv t1_1 (Int.pow 2 (min (Int.toNat t19) 64)))).and (BitVec.ofInt 64 1)).toNat):Nat):Int))=1))
     (kb ((z0g (t19+1)),(z0g (t8+x_1))))
     (kb ((z0g (t19+1)),t8))))
   (kx2 t8)
def zul {R:Type} (N:Nat) (t1:Int) (t11:List Ya) (t12:Int) (kb:Int×Int->Option R) (kx0:Int->Option R):Int×Int->Option R:=
 fun (t13,t5)=>
  cond (decide (t13 < t12))
   ((idx t11 t13).bind fun x=>
   iter (fun w=>zuk N t1 x t11 t12 t13 t5 (len x) w
    (fun t8_1=>
     kb ((z0g (t13+1)),(zky t5 t8_1)))) N (0,0))
   (kx0 t5)
def f50 (N:Nat) (a0:List Ya) (a1:Int):Option (Int):=
 iter (fun w=>zul N a1 a0 (len a0) w
  (fun t5_2=>
   some t5_2)) N (0,0)
def c50 (N:Nat):Callee:=.pure (.pr (.val .yc) (.pr (.val .ya) .un)) [.ya] fun d=>f50 N d.1 d.2.1
def F50_7:SForm:=⟨[(19,(.val .ya)),(8,(.val .ya)),(1,(.val .ya)),(17,(.val .yb)),(11,(.val .yc)),(12,(.val .ya)),(13,(.val .ya)),(5,(.val .ya)),(18,(.val .ya))],[]⟩
def G50_7 (N:Nat):(R:Type)->F50_7.den->(AExit->St->Option R)->Option R:=fun R d k=>iter (fun kb=>zuk N d.1.2.2.1 d.1.2.2.2.1 d.1.2.2.2.2.1 d.1.2.2.2.2.2.1 d.1.2.2.2.2.2.2.1 d.1.2.2.2.2.2.2.2.1 d.1.2.2.2.2.2.2.2.2.1 kb
  (fun y4=>k (.exit 2) (St.of [(1,(.data .ya d.1.2.2.1)),(11,(.data .yc d.1.2.2.2.2.1)),(12,(.data .ya d.1.2.2.2.2.2.1)),(13,(.data .ya d.1.2.2.2.2.2.2.1)),(8,(.data .ya y4)),(5,(.data .ya d.1.2.2.2.2.2.2.2.1))] []))) N (d.1.1,d.1.2.1)
def F50_3:SForm:=⟨[(1,(.val .ya)),(13,(.val .ya)),(5,(.val .ya)),(11,(.val .yc)),(12,(.val .ya))],[]⟩
def G50_3 (N:Nat):(R:Type)->F50_3.den->(AExit->St->Option R)->Option R:=fun R d k=>iter (fun kb=>zul N d.1.1 d.1.2.2.2.1 d.1.2.2.2.2.1 kb
  (fun y0=>k (.exit 0) (St.of [(5,(.data .ya y0))] []))) N (d.1.2.1,d.1.2.2.1)
def lp50 (N:Nat):Nat->Option z0h:=fun r=>cond (Nat.beq r 7) (some fun R sl os k=>F50_7.take sl os fun d=>G50_7 N R d k) (cond (Nat.beq r 3) (some fun R sl os k=>F50_3.take sl os fun d=>G50_3 N R d k) (none))
def x50 (N:Nat):Ctx:=(mkX N 38 [] [(3,⟨[1,13,5,11,12],[]⟩),(7,⟨[19,8,1,17,11,12,13,5,18],[]⟩)] [(3,[(0,⟨[5],[]⟩)]),(7,[(2,⟨[1,11,12,13,8,5],[]⟩)])] ⟨[4],[]⟩ (fun _=>none) (lp50 N))
noncomputable def b50:Code:=((Go.Proofs.Tryz.f50).body).getD .skip
theorem s50_7 (N:Nat) {R:Type} (k:AExit->St->Option R) (t1_1:Int) (t17:List Int) (t11_1:List Ya) (t12_1:Int) (t13_1:Int) (t5_1:Int) (t18:Int) (kb:List Yo->List Obj->Option R) (x:Int×Int):z0q (x50 N) (z03 7 (z00 b50)) (St.of [(19,(.data .ya x.1)),(8,(.data .ya x.2)),(1,(.data .ya t1_1)),(17,(.data .yb t17)),(11,(.data .yc t11_1)),(12,(.data .ya t12_1)),(13,(.data .ya t13_1)),(5,(.data .ya t5_1)),(18,(.data .ya t18))] []) (z12 (x50 N) 7 ⟨[19,8,1,17,11,12,13,5,18],[]⟩ kb k)=zuk N t1_1 t17 t11_1 t12_1 t13_1 t5_1 t18 (fun y=>kb [(19,(.data .ya y.1)),(8,(.data .ya y.2)),(1,(.data .ya t1_1)),(17,(.data .yb t17)),(11,(.data .yc t11_1)),(12,(.data .ya t12_1)),(13,(.data .ya t13_1)),(5,(.data .ya t5_1)),(18,(.data .ya t18))] [])
  (fun y4=>k (.exit 2) (St.of [(1,(.data .ya t1_1)),(11,(.data .yc t11_1)),(12,(.data .ya t12_1)),(13,(.data .ya t13_1)),(8,(.data .ya y4)),(5,(.data .ya t5_1))] [])) x:=by kernel_rfl
theorem l50_7 (N:Nat):z0f (x50 N) (z03 7 (z00 b50)):=
 z0b (G50_7 N) (by kernel_rfl) (by kernel_rfl) (by kernel_rfl) fun R k d=>
  z0a (st:=fun (x:Int×Int)=>([(19,(.data .ya x.1)),(8,(.data .ya x.2)),(1,(.data .ya d.1.2.2.1)),(17,(.data .yb d.1.2.2.2.1)),(11,(.data .yc d.1.2.2.2.2.1)),(12,(.data .ya d.1.2.2.2.2.2.1)),(13,(.data .ya d.1.2.2.2.2.2.2.1)),(5,(.data .ya d.1.2.2.2.2.2.2.2.1)),(18,(.data .ya d.1.2.2.2.2.2.2.2.2.1))],[])) (s50_7 N k d.1.2.2.1 d.1.2.2.2.1 d.1.2.2.2.2.1 d.1.2.2.2.2.2.1 d.1.2.2.2.2.2.2.1 d.1.2.2.2.2.2.2.2.1 d.1.2.2.2.2.2.2.2.2.1) N (d.1.1,d.1.2.1)
theorem s50_3 (N:Nat) {R:Type} (k:AExit->St->Option R) (t1:Int) (t11:List Ya) (t12:Int) (kb:List Yo->List Obj->Option R) (x:Int×Int):z0q (x50 N) (z03 3 (z00 b50)) (St.of [(1,(.data .ya t1)),(13,(.data .ya x.1)),(5,(.data .ya x.2)),(11,(.data .yc t11)),(12,(.data .ya t12))] []) (z12 (x50 N) 3 ⟨[1,13,5,11,12],[]⟩ kb k)=zul N t1 t11 t12 (fun y=>kb [(1,(.data .ya t1)),(13,(.data .ya y.1)),(5,(.data .ya y.2)),(11,(.data .yc t11)),(12,(.data .ya t12))] [])
  (fun y0=>k (.exit 0) (St.of [(5,(.data .ya y0))] [])) x:=by kernel_rfl
theorem l50_3 (N:Nat):z0f (x50 N) (z03 3 (z00 b50)):=
 z0b (G50_3 N) (by kernel_rfl) (by kernel_rfl) (by kernel_rfl) fun R k d=>
  z0a (st:=fun (x:Int×Int)=>([(1,(.data .ya d.1.1)),(13,(.data .ya x.1)),(5,(.data .ya x.2)),(11,(.data .yc d.1.2.2.2.1)),(12,(.data .ya d.1.2.2.2.2.1))],[])) (s50_3 N k d.1.1 d.1.2.2.2.1 d.1.2.2.2.2.1) N (d.1.2.1,d.1.2.2.1)
theorem e50 (N:Nat) (a0:List Ya) (a1:Int):z1g (x50 N) [.ya] [.tmp 4] b50 (entry (.pr (.val .yc) (.pr (.val .ya) .un)) (a0,(a1,())))=f50 N a0 a1:=by kernel_rfl
theorem k50 (N:Nat):z04 Go.Proofs.Tryz.prog 50 (c50 N):=
 z1h (fn:=Go.Proofs.Tryz.f50) (body:=b50) (c:=x50 N) Go.Proofs.Tryz.func50 (by kernel_rfl) (by kernel_rfl) ⟨ttL_ok,z0k,z0m,z0n,z0l,z09⟩ mixed (by kernel_rfl) (zL (by kernel_rfl)) (by kernel_rfl) (by decide)
  (z06 (by kernel_rfl:z00 b50=[z03 3 (z00 b50),z03 7 (z00 b50)]) (.cons (l50_3 N) (.cons (l50_7 N) .nil))) fun d=>e50 N d.1 d.2.1
def zue {R:Type} (N:Nat) (r39:Ye->Yd->Yq->Yj->Option (Yah)) (t21:Int) (o0_1:Ye) (o3:List Int) (kb:Int×Int×Yd×List Ya×Yj->Option R) (kx0:Int->Yd->Yq->Yj->Option R):Int×Int×Yd×List Ya×Yj->Option R:=
 fun (t22,t7,o1_1,o1',o2)=>
  cond (decide (t22 < t21))
   (chk (inb o3 t22) <|
   (idx o3 t22).bind fun x_1=>
   cond (!(decide (x_1=0)))
    ((r39 (x_1,((z0g (o0_1.2.1-1)),())) o1_1 o1' o2).bind fun r_1=>
    kb ((z0g (t22+1)),(z0g (t7+r_1.1.2.1)),r_1.2.1.1,r_1.2.1.2.1,r_1.2.2.1))
    (kb ((z0g (t22+1)),t7,o1_1,o1',o2)))
   (kx0 t7 o1_1 o1' o2)
def f63 (N:Nat) (r39:Ye->Yd->Yq->Yj->Option (Yah)) (t1:Ye) (t2:Int) (o0:Yd) (o0':List Ya) (o1:List Yi):Option (Yah):=
 (idx o0.2.1 t2).bind fun x=>
 (f55 N x t1.1).bind fun r=>
 iter (fun w=>zue N r39 (len r) t1 r w
  (fun t7_1 o0_2 o0'_1 o1_2=>
   some (((),(t7_1,())),((o0_2,(o0'_1,((),()))),(o1_2,()))))) N (0,0,o0,o0',o1)
def fi63:SForm:=⟨[(0,(.bptr 0 [])),(1,(.val .yg)),(2,(.val .ya))],[.con (.agg (.pr (.val .yf) (.pr (.val .yc) (.pr (.mref 1) .un)))),.map .yg .ya]⟩
def fo63:SForm:=⟨[(0,(.bptr 0 [])),(6,(.val .ya))],[.con (.agg (.pr (.val .yf) (.pr (.val .yc) (.pr (.mref 1) .un)))),.map .yg .ya]⟩
def c63 (N:Nat) (r39:Ye->Yd->Yq->Yj->Option (Yah)):Callee:=.mut fi63 [0] fo63 fun d=>f63 N r39 d.1.2.1 d.1.2.2.1 d.2.1.1 d.2.1.2.1 d.2.2.1
def F63_3:SForm:=⟨[(22,(.val .ya)),(4,(.bptr 0 [])),(0,(.bptr 1 [])),(7,(.val .ya)),(20,(.ref 3)),(21,(.val .ya))],[.cell (.val .yg),.con (.agg (.pr (.val .yf) (.pr (.val .yc) (.pr (.mref 2) .un)))),.map .yg .ya,.row .ya]⟩
def G63_3 (N:Nat) (r39:Ye->Yd->Yq->Yj->Option (Yah)):(R:Type)->F63_3.den->(AExit->St->Option R)->Option R:=fun R d k=>iter (fun kb=>zue N r39 d.1.2.2.2.2.2.1 d.2.1 d.2.2.2.2.1 kb
  (fun y0 y1 y2 y3=>k (.exit 0) (St.of [(0,(.bptr 0 [])),(7,(.data .ya y0))] [.cell (.tup (.agg (.pr (.data .yf y1) (.pr (.data .yc y2) (.pr (.mref 1) .un))))),.map .yg .ya y3]))) N (d.1.1,d.1.2.2.2.1,d.2.2.1.1,d.2.2.1.2.1,d.2.2.2.1)
def lp63 (N:Nat) (r39:Ye->Yd->Yq->Yj->Option (Yah)):Nat->Option z0h:=fun r=>cond (Nat.beq r 3) (some fun R sl os k=>F63_3.take sl os fun d=>G63_3 N r39 R d k) (none)
def x63 (N:Nat) (r39:Ye->Yd->Yq->Yj->Option (Yah)):Ctx:={ fuel:=N,tt:=z1k ttL,mt:=z1k mtL,ntmps:=39,env:=fun f=>(z1k [(55,[c55 N]),(39,[(.mut ⟨[(0,(.bptr 0 [])),(1,(.val .yg))],[.con (.agg (.pr (.val .yf) (.pr (.val .yc) (.pr (.mref 1) .un)))),.map .yg .ya]⟩ [0] ⟨[(0,(.bptr 0 [])),(4,(.val .ya))],[.con (.agg (.pr (.val .yf) (.pr (.val .yc) (.pr (.mref 1) .un)))),.map .yg .ya]⟩ fun d=>r39 d.1.2.1 d.2.1.1 d.2.1.2.1 d.2.2.1)])] f).getD [],cut:=z1k [(3,⟨[22,4,0,7,20,21],[]⟩)],exits:=fun r=>z1k ((z1k [(3,[(0,⟨[0,7],[]⟩)])] r).getD []),res:=⟨[0,6],[]⟩,own:=fun _=>none,lp:=lp63 N r39,eqs:=fun T=>z2e T eqL,ct:=fun T=>z2e T ctL,ms:=z9k msL }
noncomputable def b63:Code:=((Go.Proofs.Tryz.f63).body).getD .skip
theorem s63_3 (N:Nat) (r39:Ye->Yd->Yq->Yj->Option (Yah)) {R:Type} (k:AExit->St->Option R) (t21:Int) (o0_1:Ye) (o3:List Int) (kb:List Yo->List Obj->Option R) (x:Int×Int×Yd×List Ya×Yj):z0q (x63 N r39) (z03 3 (z00 b63)) (St.of [(22,(.data .ya x.1)),(4,(.bptr 0 [])),(0,(.bptr 1 [])),(7,(.data .ya x.2.1)),(20,(.ref 3 [] 0)),(21,(.data .ya t21))] [.cell (.data .yg o0_1),.cell (.tup (.agg (.pr (.data .yf x.2.2.1) (.pr (.data .yc x.2.2.2.1) (.pr (.mref 2) .un))))),.map .yg .ya x.2.2.2.2,.row .ya o3 0]) (z12 (x63 N r39) 3 ⟨[22,4,0,7,20,21],[]⟩ kb k)=zue N r39 t21 o0_1 o3 (fun y=>kb [(22,(.data .ya y.1)),(4,(.bptr 0 [])),(0,(.bptr 1 [])),(7,(.data .ya y.2.1)),(20,(.ref 3 [] 0)),(21,(.data .ya t21))] [.cell (.data .yg o0_1),.cell (.tup (.agg (.pr (.data .yf y.2.2.1) (.pr (.data .yc y.2.2.2.1) (.pr (.mref 2) .un))))),.map .yg .ya y.2.2.2.2,.row .ya o3 0])
  (fun y0 y1 y2 y3=>k (.exit 0) (St.of [(0,(.bptr 0 [])),(7,(.data .ya y0))] [.cell (.tup (.agg (.pr (.data .yf y1) (.pr (.data .yc y2) (.pr (.mref 1) .un))))),.map .yg .ya y3])) x:=by kernel_rfl
theorem l63_3 (N:Nat) (r39:Ye->Yd->Yq->Yj->Option (Yah)):z0f (x63 N r39) (z03 3 (z00 b63)):=
 z0b (G63_3 N r39) (by kernel_rfl) (by kernel_rfl) (by kernel_rfl) fun R k d=>
  z0a (st:=fun (x:Int×Int×Yd×List Ya×Yj)=>([(22,(.data .ya x.1)),(4,(.bptr 0 [])),(0,(.bptr 1 [])),(7,(.data .ya x.2.1)),(20,(.ref 3 [] 0)),(21,(.data .ya d.1.2.2.2.2.2.1))],[.cell (.data .yg d.2.1),.cell (.tup (.agg (.pr (.data .yf x.2.2.1) (.pr (.data .yc x.2.2.2.1) (.pr (.mref 2) .un))))),.map .yg .ya x.2.2.2.2,.row .ya d.2.2.2.2.1 0])) (s63_3 N r39 k d.1.2.2.2.2.2.1 d.2.1 d.2.2.2.2.1) N (d.1.1,d.1.2.2.2.1,d.2.2.1.1,d.2.2.1.2.1,d.2.2.2.1)
theorem e63 (N:Nat) (r39:Ye->Yd->Yq->Yj->Option (Yah)) (t1:Ye) (t2:Int) (o0:Yd) (o0':List Ya) (o1:List Yi):z9m (x63 N r39) fo63 b63 (St.of [(0,(.bptr 0 [])),(1,(.data .yg t1)),(2,(.data .ya t2))] [.cell (.tup (.agg (.pr (.data .yf o0) (.pr (.data .yc o0') (.pr (.mref 1) .un))))),.map .yg .ya o1])=f63 N r39 t1 t2 o0 o0' o1:=by kernel_rfl
theorem k63 (N:Nat) (r39:Ye->Yd->Yq->Yj->Option (Yah)) (h39:z04 Go.Proofs.Tryz.prog 39 (.mut ⟨[(0,(.bptr 0 [])),(1,(.val .yg))],[.con (.agg (.pr (.val .yf) (.pr (.val .yc) (.pr (.mref 1) .un)))),.map .yg .ya]⟩ [0] ⟨[(0,(.bptr 0 [])),(4,(.val .ya))],[.con (.agg (.pr (.val .yf) (.pr (.val .yc) (.pr (.mref 1) .un)))),.map .yg .ya]⟩ fun d=>r39 d.1.2.1 d.2.1.1 d.2.1.2.1 d.2.2.1)):z04 Go.Proofs.Tryz.prog 63 (c63 N r39):=
 z2a (fn:=Go.Proofs.Tryz.f63) (body:=b63) (c:=x63 N r39) (rs:=[6]) Go.Proofs.Tryz.func63 (by kernel_rfl) (by kernel_rfl) ⟨ttL_ok,z0k,z0m,z0n,z0l,z02 (z01 (k55 N)) (z02 (z01 (h39)) (z09))⟩ mixed (by kernel_rfl) (zL (by kernel_rfl)) (by kernel_rfl) (by kernel_rfl) (by kernel_rfl) (z2o (by kernel_rfl))
  (z06 (by kernel_rfl:z00 b63=[z03 3 (z00 b63)]) (.cons (l63_3 N r39) .nil)) fun d=>e63 N r39 d.1.2.1 d.1.2.2.1 d.2.1.1 d.2.1.2.1 d.2.2.1
def zo5 {R:Type} (N:Nat) (r39:Ye->Yd->Yq->Yj->Option (Yah)) (t32:Int) (o0_1:Ye) (kb:Int×Int×Yd×List Ya×Yj->Option R) (kx0:Int->Yd->Yq->Yj->Option R):Int×Int×Yd×List Ya×Yj->Option R:=
 fun (t33,t6,o1_1,o1',o2)=>
  cond (decide (t33 < t32))
   ((f63 N r39 o0_1 t33 o1_1 o1' o2).bind fun r_1=>
   kb ((z0g (t33+1)),(zky t6 r_1.1.2.1),r_1.2.1.1,r_1.2.1.2.1,r_1.2.2.1))
   (kx0 t6 o1_1 o1' o2)
def f39B (N:Nat) (r39:Ye->Yd->Yq->Yj->Option (Yah)) (t1:Ye) (o0:Yd) (o0':List Ya) (o1:List Yi):Option (Yah):=
 cond (decide (0≤(Option.getD (z80 (eqD .yg) o1 t1) 0)))
  (some (((),((Option.getD (z80 (eqD .yg) o1 t1) 0),())),((o0,(o0',((),()))),(o1,()))))
  ((f50 N o0' t1.1).bind fun r=>
  cond (decide (0 < t1.2.1))
   (iter (fun w=>zo5 N r39 (len o0.2.1) t1 w
    (fun t6_1 o0_2 o0'_1 o1_2=>
     some (((),(t6_1,())),((o0_2,(o0'_1,((),()))),((zb1 (eqD .yg) o1_2 t1 t6_1),()))))) N (0,r,o0,o0',o1))
   (some (((),(r,())),((o0,(o0',((),()))),((zb1 (eqD .yg) o1 t1 r),())))))
def fi39B:SForm:=⟨[(0,(.bptr 0 [])),(1,(.val .yg))],[.con (.agg (.pr (.val .yf) (.pr (.val .yc) (.pr (.mref 1) .un)))),.map .yg .ya]⟩
def fo39B:SForm:=⟨[(0,(.bptr 0 [])),(4,(.val .ya))],[.con (.agg (.pr (.val .yf) (.pr (.val .yc) (.pr (.mref 1) .un)))),.map .yg .ya]⟩
def c39B (N:Nat) (r39:Ye->Yd->Yq->Yj->Option (Yah)):Callee:=.mut fi39B [0] fo39B fun d=>f39B N r39 d.1.2.1 d.2.1.1 d.2.1.2.1 d.2.2.1
def F39B_7:SForm:=⟨[(33,(.val .ya)),(3,(.bptr 0 [])),(0,(.bptr 1 [])),(6,(.val .ya)),(32,(.val .ya))],[.cell (.val .yg),.con (.agg (.pr (.val .yf) (.pr (.val .yc) (.pr (.mref 2) .un)))),.map .yg .ya]⟩
def zzz (N:Nat) (r39:Ye->Yd->Yq->Yj->Option (Yah)):(R:Type)->F39B_7.den->(AExit->St->Option R)->Option R:=fun R d k=>iter (fun kb=>zo5 N r39 d.1.2.2.2.2.1 d.2.1 kb
  (fun y0 y1 y2 y3=>k (.exit 0) (St.of [(0,(.bptr 0 [])),(6,(.data .ya y0)),(3,(.bptr 2 []))] [.cell (.tup (.agg (.pr (.data .yf y1) (.pr (.data .yc y2) (.pr (.mref 1) .un))))),.map .yg .ya y3,.cell (.data .yg d.2.1)]))) N (d.1.1,d.1.2.2.2.1,d.2.2.1.1,d.2.2.1.2.1,d.2.2.2.1)
def lp39B (N:Nat) (r39:Ye->Yd->Yq->Yj->Option (Yah)):Nat->Option z0h:=fun r=>cond (Nat.beq r 7) (some fun R sl os k=>F39B_7.take sl os fun d=>zzz N r39 R d k) (none)
def x39B (N:Nat) (r39:Ye->Yd->Yq->Yj->Option (Yah)):Ctx:={ fuel:=N,tt:=z1k ttL,mt:=z1k mtL,ntmps:=50,env:=fun f=>(z1k [(50,[c50 N]),(63,[c63 N r39])] f).getD [],cut:=z1k [(7,⟨[33,3,0,6,32],[]⟩)],exits:=fun r=>z1k ((z1k [(7,[(0,⟨[0,6,3],[]⟩)])] r).getD []),res:=⟨[0,4],[]⟩,own:=fun _=>none,lp:=lp39B N r39,eqs:=fun T=>z2e T eqL,ct:=fun T=>z2e T ctL,ms:=z9k msL }
noncomputable def b39B:Code:=((Go.Proofs.Tryz.f39).body).getD .skip
theorem s39B_7 (N:Nat) (r39:Ye->Yd->Yq->Yj->Option (Yah)) {R:Type} (k:AExit->St->Option R) (t32:Int) (o0_1:Ye) (kb:List Yo->List Obj->Option R) (x:Int×Int×Yd×List Ya×Yj):z0q (x39B N r39) (z03 7 (z00 b39B)) (St.of [(33,(.data .ya x.1)),(3,(.bptr 0 [])),(0,(.bptr 1 [])),(6,(.data .ya x.2.1)),(32,(.data .ya t32))] [.cell (.data .yg o0_1),.cell (.tup (.agg (.pr (.data .yf x.2.2.1) (.pr (.data .yc x.2.2.2.1) (.pr (.mref 2) .un))))),.map .yg .ya x.2.2.2.2]) (z12 (x39B N r39) 7 ⟨[33,3,0,6,32],[]⟩ kb k)=zo5 N r39 t32 o0_1 (fun y=>kb [(33,(.data .ya y.1)),(3,(.bptr 0 [])),(0,(.bptr 1 [])),(6,(.data .ya y.2.1)),(32,(.data .ya t32))] [.cell (.data .yg o0_1),.cell (.tup (.agg (.pr (.data .yf y.2.2.1) (.pr (.data .yc y.2.2.2.1) (.pr (.mref 2) .un))))),.map .yg .ya y.2.2.2.2])
  (fun y0 y1 y2 y3=>k (.exit 0) (St.of [(0,(.bptr 0 [])),(6,(.data .ya y0)),(3,(.bptr 2 []))] [.cell (.tup (.agg (.pr (.data .yf y1) (.pr (.data .yc y2) (.pr (.mref 1) .un))))),.map .yg .ya y3,.cell (.data .yg o0_1)])) x:=by kernel_rfl
theorem l39B_7 (N:Nat) (r39:Ye->Yd->Yq->Yj->Option (Yah)):z0f (x39B N r39) (z03 7 (z00 b39B)):=
 z0b (zzz N r39) (by kernel_rfl) (by kernel_rfl) (by kernel_rfl) fun R k d=>
  z0a (st:=fun (x:Int×Int×Yd×List Ya×Yj)=>([(33,(.data .ya x.1)),(3,(.bptr 0 [])),(0,(.bptr 1 [])),(6,(.data .ya x.2.1)),(32,(.data .ya d.1.2.2.2.2.1))],[.cell (.data .yg d.2.1),.cell (.tup (.agg (.pr (.data .yf x.2.2.1) (.pr (.data .yc x.2.2.2.1) (.pr (.mref 2) .un))))),.map .yg .ya x.2.2.2.2])) (s39B_7 N r39 k d.1.2.2.2.2.1 d.2.1) N (d.1.1,d.1.2.2.2.1,d.2.2.1.1,d.2.2.1.2.1,d.2.2.2.1)
theorem e39B (N:Nat) (r39:Ye->Yd->Yq->Yj->Option (Yah)) (t1:Ye) (o0:Yd) (o0':List Ya) (o1:List Yi):z9m (x39B N r39) fo39B b39B (St.of [(0,(.bptr 0 [])),(1,(.data .yg t1))] [.cell (.tup (.agg (.pr (.data .yf o0) (.pr (.data .yc o0') (.pr (.mref 1) .un))))),.map .yg .ya o1])=f39B N r39 t1 o0 o0' o1:=by kernel_rfl
theorem k39B (N:Nat) (r39:Ye->Yd->Yq->Yj->Option (Yah)) (h39:z04 Go.Proofs.Tryz.prog 39 (.mut ⟨[(0,(.bptr 0 [])),(1,(.val .yg))],[.con (.agg (.pr (.val .yf) (.pr (.val .yc) (.pr (.mref 1) .un)))),.map .yg .ya]⟩ [0] ⟨[(0,(.bptr 0 [])),(4,(.val .ya))],[.con (.agg (.pr (.val .yf) (.pr (.val .yc) (.pr (.mref 1) .un)))),.map .yg .ya]⟩ fun d=>r39 d.1.2.1 d.2.1.1 d.2.1.2.1 d.2.2.1)):z04 Go.Proofs.Tryz.prog 39 (c39B N r39):=
 z2a (fn:=Go.Proofs.Tryz.f39) (body:=b39B) (c:=x39B N r39) (rs:=[4]) Go.Proofs.Tryz.func39 (by kernel_rfl) (by kernel_rfl) ⟨ttL_ok,z0k,z0m,z0n,z0l,z02 (z01 (k50 N)) (z02 (z01 (k63 N r39 h39)) (z09))⟩ mixed (by kernel_rfl) (zL (by kernel_rfl)) (by kernel_rfl) (by kernel_rfl) (by kernel_rfl) (z2o (by kernel_rfl))
  (z06 (by kernel_rfl:z00 b39B=[z03 7 (z00 b39B)]) (.cons (l39B_7 N r39) .nil)) fun d=>e39B N r39 d.1.2.1 d.2.1.1 d.2.1.2.1 d.2.2.1
def f39R (N:Nat) (M:Nat):Ye->Yd->Yq->Yj->Option (Yah):=Nat.rec (motive:=fun _=>Ye->Yd->Yq->Yj->Option (Yah)) (fun _ _ _ _=>none) (fun _ r=>f39B N r) M
def f39 (N:Nat) (a0:Ye) (a1:Yd) (a2:List Ya) (a3:List Yi):Option (Yah):=f39R N N a0 a1 a2 a3
def c39 (N:Nat):Callee:=(.mut ⟨[(0,(.bptr 0 [])),(1,(.val .yg))],[.con (.agg (.pr (.val .yf) (.pr (.val .yc) (.pr (.mref 1) .un)))),.map .yg .ya]⟩ [0] ⟨[(0,(.bptr 0 [])),(4,(.val .ya))],[.con (.agg (.pr (.val .yf) (.pr (.val .yc) (.pr (.mref 1) .un)))),.map .yg .ya]⟩ fun d=>f39 N d.1.2.1 d.2.1.1 d.2.1.2.1 d.2.2.1)
theorem k39 (N:Nat):z04 Go.Proofs.Tryz.prog 39 (c39 N):=
 have h:∀ M:Nat,z04 Go.Proofs.Tryz.prog 39 (.mut ⟨[(0,(.bptr 0 [])),(1,(.val .yg))],[.con (.agg (.pr (.val .yf) (.pr (.val .yc) (.pr (.mref 1) .un)))),.map .yg .ya]⟩ [0] ⟨[(0,(.bptr 0 [])),(4,(.val .ya))],[.con (.agg (.pr (.val .yf) (.pr (.val .yc) (.pr (.mref 1) .un)))),.map .yg .ya]⟩ fun d=>f39R N M d.1.2.1 d.2.1.1 d.2.1.2.1 d.2.2.1):=fun M=>Nat.rec (motive:=fun M=>z04 Go.Proofs.Tryz.prog 39 (.mut ⟨[(0,(.bptr 0 [])),(1,(.val .yg))],[.con (.agg (.pr (.val .yf) (.pr (.val .yc) (.pr (.mref 1) .un)))),.map .yg .ya]⟩ [0] ⟨[(0,(.bptr 0 [])),(4,(.val .ya))],[.con (.agg (.pr (.val .yf) (.pr (.val .yc) (.pr (.mref 1) .un)))),.map .yg .ya]⟩ fun d=>f39R N M d.1.2.1 d.2.1.1 d.2.1.2.1 d.2.2.1)) (z3m fun _=>rfl) (fun M ih=>k39B N _ ih) M
 h N
def f40 (N:Nat) (t1:Ye) (o0:Yd) (o0':List Ya) (o1:List Yi):Option (Yal):=
 z17 [(f50 N o0' t1.1).bind fun r=>
  (f39 N t1 o0 o0' o1).bind fun r_1=>
  some (((),((decide (r=r_1.1.2.1)),())),((r_1.2.1.1,(r_1.2.1.2.1,((),()))),(r_1.2.2.1,()))),
  (f50 N o0' t1.1).bind fun r_2=>
  (f39 N t1 o0 o0' o1).bind fun r_3=>
  some (((),((decide (r_2=r_3.1.2.1)),())),((r_3.2.1.1,(r_3.2.1.2.1,((),()))),(r_3.2.2.1,())))]
def fi40:SForm:=⟨[(0,(.bptr 0 [])),(1,(.val .yg))],[.con (.agg (.pr (.val .yf) (.pr (.val .yc) (.pr (.mref 1) .un)))),.map .yg .ya]⟩
def fo40:SForm:=⟨[(0,(.bptr 0 [])),(4,(.val .bool))],[.con (.agg (.pr (.val .yf) (.pr (.val .yc) (.pr (.mref 1) .un)))),.map .yg .ya]⟩
def c40 (N:Nat):Callee:=.mut fi40 [0] fo40 fun d=>f40 N d.1.2.1 d.2.1.1 d.2.1.2.1 d.2.2.1
def lp40 (N:Nat):Nat->Option z0h:=fun r=>none
def x40 (N:Nat):Ctx:=(mkX N 16 [(50,[c50 N]),(39,[c39 N])] [] [] ⟨[0,4],[]⟩ (fun _=>none) (lp40 N))
noncomputable def b40:Code:=((Go.Proofs.Tryz.f40).body).getD .skip
theorem e40 (N:Nat) (t1:Ye) (o0:Yd) (o0':List Ya) (o1:List Yi):z9m (x40 N) fo40 b40 (St.of [(0,(.bptr 0 [])),(1,(.data .yg t1))] [.cell (.tup (.agg (.pr (.data .yf o0) (.pr (.data .yc o0') (.pr (.mref 1) .un))))),.map .yg .ya o1])=f40 N t1 o0 o0' o1:=by kernel_rfl
theorem k40 (N:Nat):z04 Go.Proofs.Tryz.prog 40 (c40 N):=
 z2a (fn:=Go.Proofs.Tryz.f40) (body:=b40) (c:=x40 N) (rs:=[4]) Go.Proofs.Tryz.func40 (by kernel_rfl) (by kernel_rfl) ⟨ttL_ok,z0k,z0m,z0n,z0l,z02 (z01 (k50 N)) (z02 (z01 (k39 N)) (z09))⟩ mixed (by kernel_rfl) (zL (by kernel_rfl)) (by kernel_rfl) (by kernel_rfl) (by kernel_rfl) (z2o (by kernel_rfl))
  (z06 (by kernel_rfl:z00 b40=[]) .nil) fun d=>e40 N d.1.2.1 d.2.1.1 d.2.1.2.1 d.2.2.1
def f92 (N:Nat) (a0:Int) (a1:Int):Option Yh:=
 some ((zmv ((zmv ((zmv ((Int.fdiv a0 (2 ^ (min (Int.toNat 32) 64)))*(Int.fdiv a1 (2 ^ (min (Int.toNat 32) 64)))))+(Int.fdiv (zmv ((zmv ((Int.fdiv a0 (2 ^ (min (Int.toNat 32) 64)))*(zmv (((((BitVec.ofInt 64 a1).and (BitVec.ofInt 64 4294967295)).toNat):Nat):Int))))+(Int.fdiv (zmv ((zmv (((((BitVec.ofInt 64 a0).and (BitVec.ofInt 64 4294967295)).toNat):Nat):Int))*(zmv (((((BitVec.ofInt 64 a1).and (BitVec.ofInt 64 4294967295)).toNat):Nat):Int)))) (2 ^ (min (Int.toNat 32) 64))))) (2 ^ (min (Int.toNat 32) 64)))))+(Int.fdiv (zmv ((zmv (((((BitVec.ofInt 64
    (Go.IntKind.u64.wrap
     ((Go.IntKind.u64.wrap
        ((Int.fdiv a0 (Int.pow 2 (min (Int.toNat 32) 64))).mul
         (Go.IntKind.u64.wrap ↑((BitVec.ofInt 64 a1).and (BitVec.ofInt 64 4294967295)).toNat))).add
      ((Go.IntKind.u64.wrap
         ((Go.IntKind.u64.wrap ↑((BitVec.ofInt 64 a0).and (BitVec.ofInt 64 4294967295)).toNat).mul
          (Go.IntKind.u64.wrap ↑((BitVec.ofInt 64 a1).and (BitVec.ofInt 64 4294967295)).toNat))).fdiv
       (Int.pow 2 (min (Int.toNat 32) 64)))))).and
  (BitVec.ofInt 64 4294967295)).toNat):Nat):Int))+(zmv ((zmv (((((BitVec.ofInt 64 a0).and (BitVec.ofInt 64 4294967295)).toNat):Nat):Int))*(Int.fdiv a1 (2 ^ (min (Int.toNat 32) 64))))))) (2 ^ (min (Int.toNat 32) 64))))),(zmv (a0*a1)))
def c92 (N:Nat):Callee:=.pure (.pr (.val .yr) (.pr (.val .yr) .un)) [.yr,.yr] fun d=>f92 N d.1 d.2.1
def lp92 (N:Nat):Nat->Option z0h:=fun r=>none
def x92 (N:Nat):Ctx:=(mkX N 51 [] [] [] ⟨[4,5],[]⟩ (fun _=>none) (lp92 N))
noncomputable def b92:Code:=((Go.Proofs.Tryz.f92).body).getD .skip
theorem e92 (N:Nat) (a0:Int) (a1:Int):z1g (x92 N) [.yr,.yr] [.tmp 4,.tmp 5] b92 (entry (.pr (.val .yr) (.pr (.val .yr) .un)) (a0,(a1,())))=f92 N a0 a1:=by kernel_rfl
theorem k92 (N:Nat):z04 Go.Proofs.Tryz.prog 92 (c92 N):=
 z1h (fn:=Go.Proofs.Tryz.f92) (body:=b92) (c:=x92 N) Go.Proofs.Tryz.func92 (by kernel_rfl) (by kernel_rfl) ⟨ttL_ok,z0k,z0m,z0n,z0l,z09⟩ mixed (by kernel_rfl) (zL (by kernel_rfl)) (by kernel_rfl) (by decide)
  (z06 (by kernel_rfl:z00 b92=[]) .nil) fun d=>e92 N d.1 d.2.1
end
end Go.Kz
