/-
  The functions of the program as plain functions on lists and numbers, and the proofs that the program computes them. Printed by a program.
-/
import Derived.Test.YtoccnkcnkcngjaaKzAR
import Derived.Test.YtoccnkcnkcngjaaProg
set_option linter.unusedSimpArgs false
set_option maxRecDepth 100000
set_option linter.unusedVariables false
namespace Go.Kz
open Go.Proofs
noncomputable section

def ttL : List (Nat × Ty) := [(1, (.fn 0 .unit)), (2, (.int .i64)), (3, (.int .i64)), (4, .bool), (5, (.int .u8)), (6, (.int .u8)), (7, (.pair (.int .i64) (.pair (.int .i64) (.pair .bool (.pair (.int .u8) .unit))))), (8, (.pair (.int .i64) (.pair (.int .i64) (.pair .bool (.pair (.int .u8) .unit))))), (9, .str), (10, .str), (11, .str), (12, (.int .u64)), (13, (.pair .str (.pair (.int .u64) .unit))), (14, (.pair .str (.pair (.int .u64) .unit))), (21, (.int .i32)), (22, (.sl false (.int .i64))), (23, (.fn 0 .unit)), (24, (.fn 0 .unit)), (25, (.fn 0 .unit)), (26, (.fn 0 .unit)), (28, (.fn 0 .unit)), (30, (.fn 0 .unit)), (31, (.fn 0 .unit)), (32, (.int .i64)), (34, (.fn 0 .unit)), (36, (.fn 0 .unit)), (37, (.fn 0 .unit)), (38, (.fn 0 .unit)), (39, (.fn 0 .unit)), (40, (.sl false (.sl false (.int .i64)))), (42, (.fn 0 .unit)), (43, (.fn 0 .unit)), (44, (.fn 0 .unit)), (47, (.fn 0 .unit)), (48, (.fn 0 .unit)), (49, (.fn 0 .unit)), (50, (.fn 0 .unit)), (51, (.fn 0 .unit)), (52, (.fn 0 .unit)), (58, (.fn 0 .unit)), (59, (.int .u32)), (60, (.int .u8)), (61, (.int .u8)), (62, (.fn 0 .unit)), (64, (.int .i32)), (65, (.int .i32))]
def mtL : List (Nat × Ty × Ty) := [(45, (.int .i64), (.int .i64))]
def eqL : List Nat := [7, 8]
def ctL : List Nat := []
def msL : List (Nat × String × Nat × Option Nat) := []
theorem ttL_ok : TtOK Go.Proofs.Try.prog (getL ttL) := ttB_ok (by kernel_rfl)
theorem mtL_ok : MtOK Go.Proofs.Try.prog (getL mtL) := mtB_ok (by kernel_rfl)
theorem eqL_ok : EqsOK Go.Proofs.Try.prog (fun T => memN T eqL) := eqsB_ok (by kernel_rfl)
theorem ctL_ok : CtOK Go.Proofs.Try.prog (fun T => memN T ctL) := ctB_ok (by kernel_rfl)
theorem msL_ok : MsOK Go.Proofs.Try.prog (getMs msL) := msB_ok (by kernel_rfl)
theorem mixed : Go.Proofs.Try.prog.follows .mixedOrders = true := by kernel_rfl

def f11_L4 {R : Type} (N : Nat) (t13 : List Int) (t14 : Int) (kb : Int × List Int × (List (Int × Int)) → Option R) (kx0 : (List Int) → Option R) : Int × List Int × (List (Int × Int)) → Option R :=
  fun (t15, o0, o1) =>
    cond (decide (t15 < t14))
      ((idx t13 t15).bind fun x =>
      cond (!(Option.isSome (mget (keyEq (.int .i64)) o1 x)))
        (chk (decide ((List.length o1) ≤ room)) <|
        chk (decide ((Nat.succ (List.length o0)) ≤ room)) <|
        kb ((wi64 (t15 + 1)), (o0 ++ ((len o1) :: ([] : List Int))), (mput (keyEq (.int .i64)) o1 x (len o1))))
        (chk (decide ((Nat.succ (List.length o0)) ≤ room)) <|
        kb ((wi64 (t15 + 1)), (o0 ++ ((Option.getD (mget (keyEq (.int .i64)) o1 x) 0) :: ([] : List Int))), o1)))
      (kx0 o0)
def f11 (N : Nat) (a0 : List Int) : Option (List Int) :=
  chk ((decide (0 ≤ (len a0))) && (decide ((len a0) ≤ ((room : Nat) : Int)))) <|
  iter (fun w => f11_L4 N a0 (len a0) w
    (fun o0_1 =>
      some o0_1)) N (0, (List.replicate (Int.toNat 0) 0 : List Int), ([] : List (Int × Int)))
def c11 (N : Nat) : Callee := .pure (.pr (.val (.sl false (.int .i64))) .un) [(.sl true (.int .i64))] fun d => f11 N d.1
def F11_4 : SForm := ⟨[(15, (.val (.int .i64))), (4, (.ref 0)), (3, (.mref 1)), (13, (.val (.sl false (.int .i64)))), (14, (.val (.int .i64)))], [.row (.int .i64), .map (.int .i64) (.int .i64)]⟩
def G11_4 (N : Nat) : (R : Type) → F11_4.den → (AExit → St → Option R) → Option R := fun R d k => iter (fun kb => f11_L4 N d.1.2.2.2.1 d.1.2.2.2.2.1 kb
    (fun y0 => k (.exit 0) (St.of [(4, (.ref 0 [] 0))] [.row (.int .i64) y0 0]))) N (d.1.1, d.2.1, d.2.2.1)
def lp11 (N : Nat) : Nat → Option LoopFn := fun r => cond (Nat.beq r 4) (some fun R sl os k => F11_4.take sl os fun d => G11_4 N R d k) (none)
def x11 (N : Nat) : Ctx := { fuel := N, tt := getL ttL, mt := getL mtL, ntmps := 38, env := fun f => (getL [] f).getD [], cut := getL [(4, ⟨[15, 4, 3, 13, 14], []⟩)], exits := fun r => getL ((getL [(4, [(0, ⟨[4], []⟩)])] r).getD []), res := ⟨[2], []⟩, own := fun _ => none, lp := lp11 N, eqs := fun T => memN T eqL, ct := fun T => memN T ctL, ms := getMs msL }
noncomputable def b11 : Code := ((Go.Proofs.Try.f11).body).getD .skip
theorem s11_4 (N : Nat) {R : Type} (k : AExit → St → Option R) (t13 : List Int) (t14 : Int) (kb : List (Nat × AVal) → List Obj → Option R) (x : Int × List Int × (List (Int × Int))) : codeK (x11 N) (loopAt 4 (loopsOf b11)) (St.of [(15, (.data (.int .i64) x.1)), (4, (.ref 0 [] 0)), (3, (.mref 1)), (13, (.data (.sl false (.int .i64)) t13)), (14, (.data (.int .i64) t14))] [.row (.int .i64) x.2.1 0, .map (.int .i64) (.int .i64) x.2.2]) (kLoop (x11 N) 4 ⟨[15, 4, 3, 13, 14], []⟩ kb k) = f11_L4 N t13 t14 (fun y => kb [(15, (.data (.int .i64) y.1)), (4, (.ref 0 [] 0)), (3, (.mref 1)), (13, (.data (.sl false (.int .i64)) t13)), (14, (.data (.int .i64) t14))] [.row (.int .i64) y.2.1 0, .map (.int .i64) (.int .i64) y.2.2])
    (fun y0 => k (.exit 0) (St.of [(4, (.ref 0 [] 0))] [.row (.int .i64) y0 0])) x := by kernel_rfl
theorem l11_4 (N : Nat) : LoopOK (x11 N) (loopAt 4 (loopsOf b11)) :=
  loop_mk (G11_4 N) (by kernel_rfl) (by kernel_rfl) (by kernel_rfl) fun R k d =>
    loop_eq (st := fun (x : Int × List Int × (List (Int × Int))) => ([(15, (.data (.int .i64) x.1)), (4, (.ref 0 [] 0)), (3, (.mref 1)), (13, (.data (.sl false (.int .i64)) d.1.2.2.2.1)), (14, (.data (.int .i64) d.1.2.2.2.2.1))], [.row (.int .i64) x.2.1 0, .map (.int .i64) (.int .i64) x.2.2])) (s11_4 N k d.1.2.2.2.1 d.1.2.2.2.2.1) N (d.1.1, d.2.1, d.2.2.1)
theorem e11 (N : Nat) (a0 : List Int) : bodyK (x11 N) [(.sl true (.int .i64))] [.tmp 2] b11 (entry (.pr (.val (.sl false (.int .i64))) .un) (a0, ())) = f11 N a0 := by kernel_rfl
theorem k11 (N : Nat) : CalleeOK Go.Proofs.Try.prog 11 (c11 N) :=
  fn_ok (fn := Go.Proofs.Try.f11) (body := b11) (c := x11 N) Go.Proofs.Try.func11 (by kernel_rfl) (by kernel_rfl) ⟨ttL_ok, mtL_ok, eqL_ok, ctL_ok, msL_ok, env_nil⟩ mixed (by kernel_rfl) (Nat.le_of_ble_eq_true (by kernel_rfl)) (by kernel_rfl) (by decide)
    (loops_ok (by kernel_rfl : loopsOf b11 = [loopAt 4 (loopsOf b11)]) (.cons (l11_4 N) .nil)) fun d => e11 N d.1
def f14_L3 {R : Type} (N : Nat) (t6 : List Int) (t7 : Int) (kb : Int × Int → Option R) (kret : Bool → Option R) (kx0 : Unit → Option R) : Int × Int → Option R :=
  fun (t8, t3) =>
    cond (decide (t8 < t7))
      ((idx t6 t8).bind fun x =>
      (cond (decide (x < 0))
          (some true)
          (some (decide (t3 < x)))).bind fun b =>
      cond b
        (kret false)
        (kb ((wi64 (t8 + 1)), (maxI t3 (wi64 (x + 1))))))
      (kx0 ())
def f14 (N : Nat) (a0 : List Int) : Option (Bool) :=
  iter (fun w => f14_L3 N a0 (len a0) w
    (fun t2 =>
      some t2)
    (fun (_ : Unit) =>
      some true)) N (0, 0)
def c14 (N : Nat) : Callee := .pure (.pr (.val (.sl false (.int .i64))) .un) [.bool] fun d => f14 N d.1
def F14_3 : SForm := ⟨[(8, (.val (.int .i64))), (3, (.val (.int .i64))), (6, (.val (.sl false (.int .i64)))), (7, (.val (.int .i64)))], []⟩
def G14_3 (N : Nat) : (R : Type) → F14_3.den → (AExit → St → Option R) → Option R := fun R d k => iter (fun kb => f14_L3 N d.1.2.2.1 d.1.2.2.2.1 kb
    (fun y0 => k .ret (St.of [(2, (.data .bool y0))] []))
    (fun _ => k (.exit 0) (St.of [] []))) N (d.1.1, d.1.2.1)
def lp14 (N : Nat) : Nat → Option LoopFn := fun r => cond (Nat.beq r 3) (some fun R sl os k => F14_3.take sl os fun d => G14_3 N R d k) (none)
def x14 (N : Nat) : Ctx := { fuel := N, tt := getL ttL, mt := getL mtL, ntmps := 24, env := fun f => (getL [] f).getD [], cut := getL [(3, ⟨[8, 3, 6, 7], []⟩)], exits := fun r => getL ((getL [(3, [(0, ⟨[], []⟩)])] r).getD []), res := ⟨[2], []⟩, own := fun _ => none, lp := lp14 N, eqs := fun T => memN T eqL, ct := fun T => memN T ctL, ms := getMs msL }
noncomputable def b14 : Code := ((Go.Proofs.Try.f14).body).getD .skip
theorem s14_3 (N : Nat) {R : Type} (k : AExit → St → Option R) (t6 : List Int) (t7 : Int) (kb : List (Nat × AVal) → List Obj → Option R) (x : Int × Int) : codeK (x14 N) (loopAt 3 (loopsOf b14)) (St.of [(8, (.data (.int .i64) x.1)), (3, (.data (.int .i64) x.2)), (6, (.data (.sl false (.int .i64)) t6)), (7, (.data (.int .i64) t7))] []) (kLoop (x14 N) 3 ⟨[8, 3, 6, 7], []⟩ kb k) = f14_L3 N t6 t7 (fun y => kb [(8, (.data (.int .i64) y.1)), (3, (.data (.int .i64) y.2)), (6, (.data (.sl false (.int .i64)) t6)), (7, (.data (.int .i64) t7))] [])
    (fun y0 => k .ret (St.of [(2, (.data .bool y0))] []))
    (fun _ => k (.exit 0) (St.of [] [])) x := by kernel_rfl
theorem l14_3 (N : Nat) : LoopOK (x14 N) (loopAt 3 (loopsOf b14)) :=
  loop_mk (G14_3 N) (by kernel_rfl) (by kernel_rfl) (by kernel_rfl) fun R k d =>
    loop_eq (st := fun (x : Int × Int) => ([(8, (.data (.int .i64) x.1)), (3, (.data (.int .i64) x.2)), (6, (.data (.sl false (.int .i64)) d.1.2.2.1)), (7, (.data (.int .i64) d.1.2.2.2.1))], [])) (s14_3 N k d.1.2.2.1 d.1.2.2.2.1) N (d.1.1, d.1.2.1)
theorem e14 (N : Nat) (a0 : List Int) : bodyK (x14 N) [.bool] [.tmp 2] b14 (entry (.pr (.val (.sl false (.int .i64))) .un) (a0, ())) = f14 N a0 := by kernel_rfl
theorem k14 (N : Nat) : CalleeOK Go.Proofs.Try.prog 14 (c14 N) :=
  fn_ok (fn := Go.Proofs.Try.f14) (body := b14) (c := x14 N) Go.Proofs.Try.func14 (by kernel_rfl) (by kernel_rfl) ⟨ttL_ok, mtL_ok, eqL_ok, ctL_ok, msL_ok, env_nil⟩ mixed (by kernel_rfl) (Nat.le_of_ble_eq_true (by kernel_rfl)) (by kernel_rfl) (by decide)
    (loops_ok (by kernel_rfl : loopsOf b14 = [loopAt 3 (loopsOf b14)]) (.cons (l14_3 N) .nil)) fun d => e14 N d.1
def f38 (N : Nat) (a0 : List Int) (a1 : List Int) : Option (Int) :=
  (f14 N a0).bind fun r =>
  (cond (!r)
      (some true)
      ((f14 N a1).bind fun r_1 =>
      some (!r_1))).bind fun b =>
  cond b
    (some 1)
    (cond (!(decide ((len a0) = (len a1))))
      (some 2)
      (some 0))
def c38 (N : Nat) : Callee := .pure (.pr (.val (.sl false (.int .i64))) (.pr (.val (.sl false (.int .i64))) .un)) [(.int .i64)] fun d => f38 N d.1 d.2.1
def lp38 (N : Nat) : Nat → Option LoopFn := fun r => none
def x38 (N : Nat) : Ctx := { fuel := N, tt := getL ttL, mt := getL mtL, ntmps := 18, env := fun f => (getL [(14, [c14 N])] f).getD [], cut := getL [], exits := fun r => getL ((getL [] r).getD []), res := ⟨[4], []⟩, own := fun _ => none, lp := lp38 N, eqs := fun T => memN T eqL, ct := fun T => memN T ctL, ms := getMs msL }
noncomputable def b38 : Code := ((Go.Proofs.Try.f38).body).getD .skip
theorem e38 (N : Nat) (a0 : List Int) (a1 : List Int) : bodyK (x38 N) [(.int .i64)] [.tmp 4] b38 (entry (.pr (.val (.sl false (.int .i64))) (.pr (.val (.sl false (.int .i64))) .un)) (a0, (a1, ()))) = f38 N a0 a1 := by kernel_rfl
theorem k38 (N : Nat) : CalleeOK Go.Proofs.Try.prog 38 (c38 N) :=
  fn_ok (fn := Go.Proofs.Try.f38) (body := b38) (c := x38 N) Go.Proofs.Try.func38 (by kernel_rfl) (by kernel_rfl) ⟨ttL_ok, mtL_ok, eqL_ok, ctL_ok, msL_ok, env_cons (forall_mem1 (k14 N)) (env_nil)⟩ mixed (by kernel_rfl) (Nat.le_of_ble_eq_true (by kernel_rfl)) (by kernel_rfl) (by decide)
    (loops_ok (by kernel_rfl : loopsOf b38 = []) .nil) fun d => e38 N d.1 d.2.1
def f19_L6 {R : Type} (N : Nat) (t1 : List Int) (t0 : List Int) (t19 : Int) (kb : Int × List Int → Option R) (kx0 : (List Int) → Option R) : Int × List Int → Option R :=
  fun (t20, o0) =>
    cond (decide (t20 < t19))
      ((idx t0 t20).bind fun x =>
      (idx t1 t20).bind fun x_1 =>
      chk (inb o0 t20) <|
      (idx o0 t20).bind fun x_2 =>
      (idx o0 t20).bind fun x_3 =>
      kb ((wi64 (t20 + 1)), (setI o0 t20 (wi64 ((wi64 (x * (wi64 ((len t0) + 1)))) + x_1)))))
      (kx0 o0)
def f19 (N : Nat) (a0 : List Int) (a1 : List Int) : Option (List Int × Int) :=
  (f38 N a0 a1).bind fun r =>
  cond (!(decide (r = 0)))
    (some (([] : List Int), r))
    (chk (((decide (0 ≤ (len a0))) && (decide ((len a0) ≤ (len a0)))) && (decide ((len a0) ≤ ((room : Nat) : Int)))) <|
    iter (fun w => f19_L6 N a1 a0 (len a0) w
      (fun o0_1 =>
        (f11 N o0_1).bind fun r_1 =>
        some (r_1, 0))) N (0, (List.replicate (Int.toNat (len a0)) 0 : List Int)))
def c19 (N : Nat) : Callee := .pure (.pr (.val (.sl false (.int .i64))) (.pr (.val (.sl false (.int .i64))) .un)) [(.sl true (.int .i64)), (.int .i64)] fun d => f19 N d.1 d.2.1
def F19_6 : SForm := ⟨[(20, (.val (.int .i64))), (1, (.val (.sl false (.int .i64)))), (0, (.val (.sl false (.int .i64)))), (7, (.ref 0)), (19, (.val (.int .i64)))], [.row (.int .i64)]⟩
def G19_6 (N : Nat) : (R : Type) → F19_6.den → (AExit → St → Option R) → Option R := fun R d k => iter (fun kb => f19_L6 N d.1.2.1 d.1.2.2.1 d.1.2.2.2.2.1 kb
    (fun y0 => k (.exit 0) (St.of [(7, (.ref 0 [] 0))] [.row (.int .i64) y0 0]))) N (d.1.1, d.2.1)
def lp19 (N : Nat) : Nat → Option LoopFn := fun r => cond (Nat.beq r 6) (some fun R sl os k => F19_6.take sl os fun d => G19_6 N R d k) (none)
def x19 (N : Nat) : Ctx := { fuel := N, tt := getL ttL, mt := getL mtL, ntmps := 42, env := fun f => (getL [(38, [c38 N]), (11, [c11 N])] f).getD [], cut := getL [(6, ⟨[20, 1, 0, 7, 19], []⟩)], exits := fun r => getL ((getL [(6, [(0, ⟨[7], []⟩)])] r).getD []), res := ⟨[4, 5], []⟩, own := fun _ => none, lp := lp19 N, eqs := fun T => memN T eqL, ct := fun T => memN T ctL, ms := getMs msL }
noncomputable def b19 : Code := ((Go.Proofs.Try.f19).body).getD .skip
theorem s19_6 (N : Nat) {R : Type} (k : AExit → St → Option R) (t1 : List Int) (t0 : List Int) (t19 : Int) (kb : List (Nat × AVal) → List Obj → Option R) (x : Int × List Int) : codeK (x19 N) (loopAt 6 (loopsOf b19)) (St.of [(20, (.data (.int .i64) x.1)), (1, (.data (.sl false (.int .i64)) t1)), (0, (.data (.sl false (.int .i64)) t0)), (7, (.ref 0 [] 0)), (19, (.data (.int .i64) t19))] [.row (.int .i64) x.2 0]) (kLoop (x19 N) 6 ⟨[20, 1, 0, 7, 19], []⟩ kb k) = f19_L6 N t1 t0 t19 (fun y => kb [(20, (.data (.int .i64) y.1)), (1, (.data (.sl false (.int .i64)) t1)), (0, (.data (.sl false (.int .i64)) t0)), (7, (.ref 0 [] 0)), (19, (.data (.int .i64) t19))] [.row (.int .i64) y.2 0])
    (fun y0 => k (.exit 0) (St.of [(7, (.ref 0 [] 0))] [.row (.int .i64) y0 0])) x := by kernel_rfl
theorem l19_6 (N : Nat) : LoopOK (x19 N) (loopAt 6 (loopsOf b19)) :=
  loop_mk (G19_6 N) (by kernel_rfl) (by kernel_rfl) (by kernel_rfl) fun R k d =>
    loop_eq (st := fun (x : Int × List Int) => ([(20, (.data (.int .i64) x.1)), (1, (.data (.sl false (.int .i64)) d.1.2.1)), (0, (.data (.sl false (.int .i64)) d.1.2.2.1)), (7, (.ref 0 [] 0)), (19, (.data (.int .i64) d.1.2.2.2.2.1))], [.row (.int .i64) x.2 0])) (s19_6 N k d.1.2.1 d.1.2.2.1 d.1.2.2.2.2.1) N (d.1.1, d.2.1)
theorem e19 (N : Nat) (a0 : List Int) (a1 : List Int) : bodyK (x19 N) [(.sl true (.int .i64)), (.int .i64)] [.tmp 4, .tmp 5] b19 (entry (.pr (.val (.sl false (.int .i64))) (.pr (.val (.sl false (.int .i64))) .un)) (a0, (a1, ()))) = f19 N a0 a1 := by kernel_rfl
theorem k19 (N : Nat) : CalleeOK Go.Proofs.Try.prog 19 (c19 N) :=
  fn_ok (fn := Go.Proofs.Try.f19) (body := b19) (c := x19 N) Go.Proofs.Try.func19 (by kernel_rfl) (by kernel_rfl) ⟨ttL_ok, mtL_ok, eqL_ok, ctL_ok, msL_ok, env_cons (forall_mem1 (k38 N)) (env_cons (forall_mem1 (k11 N)) (env_nil))⟩ mixed (by kernel_rfl) (Nat.le_of_ble_eq_true (by kernel_rfl)) (by kernel_rfl) (by decide)
    (loops_ok (by kernel_rfl : loopsOf b19 = [loopAt 6 (loopsOf b19)]) (.cons (l19_6 N) .nil)) fun d => e19 N d.1 d.2.1
def f40_L1 {R : Type} (N : Nat) (t1 : List Int) (kb : Int → Option R) (kx0 : Int → Option R) : Int → Option R :=
  fun t0 =>
    (idx t1 t0).bind fun x =>
    cond (!(decide (x = t0)))
      ((idx t1 t0).bind fun x_1 =>
      kb x_1)
      (kx0 t0)
def f40 (N : Nat) (a0 : Int) (a1 : List Int) : Option (Int) :=
  iter (fun w => f40_L1 N a1 w
    (fun t0_1 =>
      some t0_1)) N a0
def c40 (N : Nat) : Callee := .pure (.pr (.val (.int .i64)) (.pr (.val (.ptr (.sl false (.int .i64)))) .un)) [(.int .i64)] fun d => f40 N d.1 d.2.1
def F40_1 : SForm := ⟨[(0, (.val (.int .i64))), (1, (.val (.ptr (.sl false (.int .i64)))))], []⟩
def G40_1 (N : Nat) : (R : Type) → F40_1.den → (AExit → St → Option R) → Option R := fun R d k => iter (fun kb => f40_L1 N d.1.2.1 kb
    (fun y0 => k (.exit 0) (St.of [(0, (.data (.int .i64) y0))] []))) N d.1.1
def lp40 (N : Nat) : Nat → Option LoopFn := fun r => cond (Nat.beq r 1) (some fun R sl os k => F40_1.take sl os fun d => G40_1 N R d k) (none)
def x40 (N : Nat) : Ctx := { fuel := N, tt := getL ttL, mt := getL mtL, ntmps := 15, env := fun f => (getL [] f).getD [], cut := getL [(1, ⟨[0, 1], []⟩)], exits := fun r => getL ((getL [(1, [(0, ⟨[0], []⟩)])] r).getD []), res := ⟨[3], []⟩, own := fun _ => none, lp := lp40 N, eqs := fun T => memN T eqL, ct := fun T => memN T ctL, ms := getMs msL }
noncomputable def b40 : Code := ((Go.Proofs.Try.f40).body).getD .skip
theorem s40_1 (N : Nat) {R : Type} (k : AExit → St → Option R) (t1 : List Int) (kb : List (Nat × AVal) → List Obj → Option R) (x : Int) : codeK (x40 N) (loopAt 1 (loopsOf b40)) (St.of [(0, (.data (.int .i64) x)), (1, (.data (.ptr (.sl false (.int .i64))) t1))] []) (kLoop (x40 N) 1 ⟨[0, 1], []⟩ kb k) = f40_L1 N t1 (fun y => kb [(0, (.data (.int .i64) y)), (1, (.data (.ptr (.sl false (.int .i64))) t1))] [])
    (fun y0 => k (.exit 0) (St.of [(0, (.data (.int .i64) y0))] [])) x := by kernel_rfl
theorem l40_1 (N : Nat) : LoopOK (x40 N) (loopAt 1 (loopsOf b40)) :=
  loop_mk (G40_1 N) (by kernel_rfl) (by kernel_rfl) (by kernel_rfl) fun R k d =>
    loop_eq (st := fun (x : Int) => ([(0, (.data (.int .i64) x)), (1, (.data (.ptr (.sl false (.int .i64))) d.1.2.1))], [])) (s40_1 N k d.1.2.1) N d.1.1
theorem e40 (N : Nat) (a0 : Int) (a1 : List Int) : bodyK (x40 N) [(.int .i64)] [.tmp 3] b40 (entry (.pr (.val (.int .i64)) (.pr (.val (.ptr (.sl false (.int .i64)))) .un)) (a0, (a1, ()))) = f40 N a0 a1 := by kernel_rfl
theorem k40 (N : Nat) : CalleeOK Go.Proofs.Try.prog 40 (c40 N) :=
  fn_ok (fn := Go.Proofs.Try.f40) (body := b40) (c := x40 N) Go.Proofs.Try.func40 (by kernel_rfl) (by kernel_rfl) ⟨ttL_ok, mtL_ok, eqL_ok, ctL_ok, msL_ok, env_nil⟩ mixed (by kernel_rfl) (Nat.le_of_ble_eq_true (by kernel_rfl)) (by kernel_rfl) (by decide)
    (loops_ok (by kernel_rfl : loopsOf b40 = [loopAt 1 (loopsOf b40)]) (.cons (l40_1 N) .nil)) fun d => e40 N d.1 d.2.1
def f21_L6 {R : Type} (N : Nat) (t0 : List Int) (t1 : List Int) (t30 : Int) (kb : Int × List Int → Option R) (kx0 : (List Int) → Option R) : Int × List Int → Option R :=
  fun (t31, o1) =>
    cond (decide (t31 < t30))
      (chk (inb o1 t31) <|
      (idx o1 t31).bind fun x =>
      (idx o1 t31).bind fun x_1 =>
      kb ((wi64 (t31 + 1)), (setI o1 t31 t31)))
      (kx0 o1)
def f21_L16 {R : Type} (N : Nat) (t0_2 : List Int) (t43_1 : Int) (t44_1 : Int) (t11 : List Int) (t52 : Int) (o2_1 : List Int) (o3 : List (List Int)) (kb : Int × List Int → Option R) (kx4 : (List Int) → Option R) : Int × List Int → Option R :=
  fun (t53, o0) =>
    cond (decide (t53 < t52))
      (chk (inb o0 t53) <|
      (idx o0 t53).bind fun x_3 =>
      (idx o0 t53).bind fun x_4 =>
      kb ((wi64 (t53 + 1)), (setI o0 t53 (-1))))
      (kx4 o0)
def f21_L21 {R : Type} (N : Nat) (t60 : List Int) (t0_3 : List Int) (t43_2 : Int) (t44_2 : Int) (t61 : Int) (o3_1 : List (List Int)) (kb : Int × List Int × List Int → Option R) (kx6 : (List Int) → Option R) : Int × List Int × List Int → Option R :=
  fun (t62, o0_2, o2_2) =>
    cond (decide (t62 < t61))
      ((idx t60 t62).bind fun x_5 =>
      chk (inb o0_2 x_5) <|
      (idx o0_2 x_5).bind fun x_6 =>
      cond (decide (x_6 < 0))
        (chk (inb o0_2 x_5) <|
        (idx o0_2 x_5).bind fun x_7 =>
        (idx o0_2 x_5).bind fun x_8 =>
        kb ((wi64 (t62 + 1)), (setI o0_2 x_5 t62), o2_2))
        (chk (inb o0_2 x_5) <|
        (idx o0_2 x_5).bind fun x_9 =>
        (f40 N x_9 o2_2).bind fun r_1 =>
        (f40 N t62 o2_2).bind fun r_2 =>
        chk (inb o2_2 (maxI r_1 r_2)) <|
        (idx o2_2 (maxI r_1 r_2)).bind fun x_10 =>
        (idx o2_2 (maxI r_1 r_2)).bind fun x_11 =>
        kb ((wi64 (t62 + 1)), o0_2, (setI o2_2 (maxI r_1 r_2) (minI r_1 r_2)))))
      (kx6 o2_2)
def f21_L12 {R : Type} (N : Nat) (t0_1 : List Int) (t43 : Int) (o2 : List (List Int)) (kb : Int × List Int → Option R) (kx2 : (List Int) → Option R) : Int × List Int → Option R :=
  fun (t44, o1_2) =>
    cond (decide (t44 < t43))
      (chk (inb o2 t44) <|
      (idx o2 t44).bind fun x_2 =>
      chk (((decide (0 ≤ (len t0_1))) && (decide ((len t0_1) ≤ (len t0_1)))) && (decide ((len t0_1) ≤ ((room : Nat) : Int)))) <|
      iter (fun w => f21_L16 N t0_1 t43 t44 x_2 (len (List.replicate (Int.toNat (len t0_1)) 0 : List Int)) o1_2 o2 w
        (fun o0_1 =>
          iter (fun w => f21_L21 N x_2 t0_1 t43 t44 (len x_2) o2 w
            (fun o1_3 =>
              kb ((wi64 (t44 + 1)), o1_3))) N (0, o0_1, o1_2))) N (0, (List.replicate (Int.toNat (len t0_1)) 0 : List Int)))
      (kx2 o1_2)
def f21_L31 {R : Type} (N : Nat) (t99 : Int) (o1_5 : List Int) (kb : Int × List Int → Option R) (kx8 : (List Int) → Option R) : Int × List Int → Option R :=
  fun (t100, o2_3) =>
    cond (decide (t100 < t99))
      ((f40 N t100 o1_5).bind fun r_3 =>
      chk (inb o2_3 t100) <|
      (idx o2_3 t100).bind fun x_12 =>
      (idx o2_3 t100).bind fun x_13 =>
      kb ((wi64 (t100 + 1)), (setI o2_3 t100 r_3)))
      (kx8 o2_3)
def f21 (N : Nat) (a0 : List Int) (a1 : List Int) : Option (List Int × Int) :=
  (f38 N a0 a1).bind fun r =>
  cond (!(decide (r = 0)))
    (some (([] : List Int), r))
    (chk (((decide (0 ≤ (len a0))) && (decide ((len a0) ≤ (len a0)))) && (decide ((len a0) ≤ ((room : Nat) : Int)))) <|
    iter (fun w => f21_L6 N a0 a1 (len (List.replicate (Int.toNat (len a0)) 0 : List Int)) w
      (fun o1_1 =>
        iter (fun w => f21_L12 N a0 (((Nat.succ 1) : Nat) : Int) (a0 :: (a1 :: ([] : List (List Int)))) w
          (fun o1_4 =>
            chk (((decide (0 ≤ (len a0))) && (decide ((len a0) ≤ (len a0)))) && (decide ((len a0) ≤ ((room : Nat) : Int)))) <|
            iter (fun w => f21_L31 N (len (List.replicate (Int.toNat (len a0)) 0 : List Int)) o1_4 w
              (fun o0_3 =>
                (f11 N o0_3).bind fun r_4 =>
                some (r_4, 0))) N (0, (List.replicate (Int.toNat (len a0)) 0 : List Int)))) N (0, o1_1))) N (0, (List.replicate (Int.toNat (len a0)) 0 : List Int)))
def c21 (N : Nat) : Callee := .pure (.pr (.val (.sl false (.int .i64))) (.pr (.val (.sl false (.int .i64))) .un)) [(.sl true (.int .i64)), (.int .i64)] fun d => f21 N d.1 d.2.1
def F21_6 : SForm := ⟨[(31, (.val (.int .i64))), (7, (.bptr 0 [])), (0, (.val (.sl false (.int .i64)))), (1, (.val (.sl false (.int .i64)))), (30, (.val (.int .i64)))], [.cell (.ref 1), .row (.int .i64)]⟩
def G21_6 (N : Nat) : (R : Type) → F21_6.den → (AExit → St → Option R) → Option R := fun R d k => iter (fun kb => f21_L6 N d.1.2.2.1 d.1.2.2.2.1 d.1.2.2.2.2.1 kb
    (fun y2 => k (.exit 0) (St.of [(7, (.bptr 0 [])), (0, (.data (.sl false (.int .i64)) d.1.2.2.1)), (1, (.data (.sl false (.int .i64)) d.1.2.2.2.1))] [.cell (.ref 1 [] 0), .row (.int .i64) y2 0]))) N (d.1.1, d.2.2.1)
def F21_16 : SForm := ⟨[(53, (.val (.int .i64))), (12, (.ref 0)), (7, (.bptr 1 [])), (9, (.clos 40 (.pr (.bptr 1 []) .un))), (0, (.val (.sl false (.int .i64)))), (42, (.ref 3)), (43, (.val (.int .i64))), (44, (.val (.int .i64))), (11, (.val (.sl false (.int .i64)))), (52, (.val (.int .i64)))], [.row (.int .i64), .cell (.ref 2), .row (.int .i64), .row (.sl false (.int .i64))]⟩
def G21_16 (N : Nat) : (R : Type) → F21_16.den → (AExit → St → Option R) → Option R := fun R d k => iter (fun kb => f21_L16 N d.1.2.2.2.2.1 d.1.2.2.2.2.2.2.1 d.1.2.2.2.2.2.2.2.1 d.1.2.2.2.2.2.2.2.2.1 d.1.2.2.2.2.2.2.2.2.2.1 d.2.2.2.1 d.2.2.2.2.1 kb
    (fun y4 => k (.exit 4) (St.of [(12, (.ref 0 [] 0)), (7, (.bptr 1 [])), (9, (.clos 40 (.pr (.bptr 1 []) .un))), (0, (.data (.sl false (.int .i64)) d.1.2.2.2.2.1)), (42, (.ref 3 [] 0)), (43, (.data (.int .i64) d.1.2.2.2.2.2.2.1)), (44, (.data (.int .i64) d.1.2.2.2.2.2.2.2.1)), (11, (.data (.sl false (.int .i64)) d.1.2.2.2.2.2.2.2.2.1))] [.row (.int .i64) y4 0, .cell (.ref 2 [] 0), .row (.int .i64) d.2.2.2.1 0, .row (.sl false (.int .i64)) d.2.2.2.2.1 0]))) N (d.1.1, d.2.1)
def F21_21 : SForm := ⟨[(62, (.val (.int .i64))), (12, (.ref 0)), (7, (.bptr 1 [])), (9, (.clos 40 (.pr (.bptr 1 []) .un))), (60, (.val (.sl false (.int .i64)))), (0, (.val (.sl false (.int .i64)))), (42, (.ref 3)), (43, (.val (.int .i64))), (44, (.val (.int .i64))), (61, (.val (.int .i64)))], [.row (.int .i64), .cell (.ref 2), .row (.int .i64), .row (.sl false (.int .i64))]⟩
def G21_21 (N : Nat) : (R : Type) → F21_21.den → (AExit → St → Option R) → Option R := fun R d k => iter (fun kb => f21_L21 N d.1.2.2.2.2.1 d.1.2.2.2.2.2.1 d.1.2.2.2.2.2.2.2.1 d.1.2.2.2.2.2.2.2.2.1 d.1.2.2.2.2.2.2.2.2.2.1 d.2.2.2.2.1 kb
    (fun y3 => k (.exit 6) (St.of [(7, (.bptr 0 [])), (9, (.clos 40 (.pr (.bptr 0 []) .un))), (0, (.data (.sl false (.int .i64)) d.1.2.2.2.2.2.1)), (42, (.ref 2 [] 0)), (43, (.data (.int .i64) d.1.2.2.2.2.2.2.2.1)), (44, (.data (.int .i64) d.1.2.2.2.2.2.2.2.2.1))] [.cell (.ref 1 [] 0), .row (.int .i64) y3 0, .row (.sl false (.int .i64)) d.2.2.2.2.1 0]))) N (d.1.1, d.2.1, d.2.2.2.1)
def F21_12 : SForm := ⟨[(7, (.bptr 0 [])), (9, (.clos 40 (.pr (.bptr 0 []) .un))), (44, (.val (.int .i64))), (0, (.val (.sl false (.int .i64)))), (42, (.ref 2)), (43, (.val (.int .i64)))], [.cell (.ref 1), .row (.int .i64), .row (.sl false (.int .i64))]⟩
def G21_12 (N : Nat) : (R : Type) → F21_12.den → (AExit → St → Option R) → Option R := fun R d k => iter (fun kb => f21_L12 N d.1.2.2.2.1 d.1.2.2.2.2.2.1 d.2.2.2.1 kb
    (fun y1 => k (.exit 2) (St.of [(9, (.clos 40 (.pr (.bptr 0 []) .un))), (0, (.data (.sl false (.int .i64)) d.1.2.2.2.1))] [.cell (.ref 1 [] 0), .row (.int .i64) y1 0]))) N (d.1.2.2.1, d.2.2.1)
def F21_31 : SForm := ⟨[(100, (.val (.int .i64))), (9, (.clos 40 (.pr (.bptr 0 []) .un))), (18, (.ref 2)), (99, (.val (.int .i64)))], [.cell (.ref 1), .row (.int .i64), .row (.int .i64)]⟩
def G21_31 (N : Nat) : (R : Type) → F21_31.den → (AExit → St → Option R) → Option R := fun R d k => iter (fun kb => f21_L31 N d.1.2.2.2.1 d.2.2.1 kb
    (fun y0 => k (.exit 8) (St.of [(18, (.ref 0 [] 0))] [.row (.int .i64) y0 0]))) N (d.1.1, d.2.2.2.1)
def lp21 (N : Nat) : Nat → Option LoopFn := fun r => cond (Nat.beq r 6) (some fun R sl os k => F21_6.take sl os fun d => G21_6 N R d k) (cond (Nat.beq r 16) (some fun R sl os k => F21_16.take sl os fun d => G21_16 N R d k) (cond (Nat.beq r 21) (some fun R sl os k => F21_21.take sl os fun d => G21_21 N R d k) (cond (Nat.beq r 12) (some fun R sl os k => F21_12.take sl os fun d => G21_12 N R d k) (cond (Nat.beq r 31) (some fun R sl os k => F21_31.take sl os fun d => G21_31 N R d k) (none)))))
def x21 (N : Nat) : Ctx := { fuel := N, tt := getL ttL, mt := getL mtL, ntmps := 112, env := fun f => (getL [(38, [c38 N]), (40, [c40 N]), (11, [c11 N])] f).getD [], cut := getL [(6, ⟨[31, 7, 0, 1, 30], []⟩), (12, ⟨[7, 9, 44, 0, 42, 43], []⟩), (16, ⟨[53, 12, 7, 9, 0, 42, 43, 44, 11, 52], []⟩), (21, ⟨[62, 12, 7, 9, 60, 0, 42, 43, 44, 61], []⟩), (31, ⟨[100, 9, 18, 99], []⟩)], exits := fun r => getL ((getL [(6, [(0, ⟨[7, 0, 1], []⟩)]), (12, [(2, ⟨[9, 0], []⟩)]), (16, [(4, ⟨[12, 7, 9, 0, 42, 43, 44, 11], []⟩)]), (21, [(6, ⟨[7, 9, 0, 42, 43, 44], []⟩)]), (31, [(8, ⟨[18], []⟩)])] r).getD []), res := ⟨[4, 5], []⟩, own := fun _ => none, lp := lp21 N, eqs := fun T => memN T eqL, ct := fun T => memN T ctL, ms := getMs msL }
noncomputable def b21 : Code := ((Go.Proofs.Try.f21).body).getD .skip
theorem s21_6 (N : Nat) {R : Type} (k : AExit → St → Option R) (t0 : List Int) (t1 : List Int) (t30 : Int) (kb : List (Nat × AVal) → List Obj → Option R) (x : Int × List Int) : codeK (x21 N) (loopAt 6 (loopsOf b21)) (St.of [(31, (.data (.int .i64) x.1)), (7, (.bptr 0 [])), (0, (.data (.sl false (.int .i64)) t0)), (1, (.data (.sl false (.int .i64)) t1)), (30, (.data (.int .i64) t30))] [.cell (.ref 1 [] 0), .row (.int .i64) x.2 0]) (kLoop (x21 N) 6 ⟨[31, 7, 0, 1, 30], []⟩ kb k) = f21_L6 N t0 t1 t30 (fun y => kb [(31, (.data (.int .i64) y.1)), (7, (.bptr 0 [])), (0, (.data (.sl false (.int .i64)) t0)), (1, (.data (.sl false (.int .i64)) t1)), (30, (.data (.int .i64) t30))] [.cell (.ref 1 [] 0), .row (.int .i64) y.2 0])
    (fun y2 => k (.exit 0) (St.of [(7, (.bptr 0 [])), (0, (.data (.sl false (.int .i64)) t0)), (1, (.data (.sl false (.int .i64)) t1))] [.cell (.ref 1 [] 0), .row (.int .i64) y2 0])) x := by kernel_rfl
theorem l21_6 (N : Nat) : LoopOK (x21 N) (loopAt 6 (loopsOf b21)) :=
  loop_mk (G21_6 N) (by kernel_rfl) (by kernel_rfl) (by kernel_rfl) fun R k d =>
    loop_eq (st := fun (x : Int × List Int) => ([(31, (.data (.int .i64) x.1)), (7, (.bptr 0 [])), (0, (.data (.sl false (.int .i64)) d.1.2.2.1)), (1, (.data (.sl false (.int .i64)) d.1.2.2.2.1)), (30, (.data (.int .i64) d.1.2.2.2.2.1))], [.cell (.ref 1 [] 0), .row (.int .i64) x.2 0])) (s21_6 N k d.1.2.2.1 d.1.2.2.2.1 d.1.2.2.2.2.1) N (d.1.1, d.2.2.1)
theorem s21_16 (N : Nat) {R : Type} (k : AExit → St → Option R) (t0_2 : List Int) (t43_1 : Int) (t44_1 : Int) (t11 : List Int) (t52 : Int) (o2_1 : List Int) (o3 : List (List Int)) (kb : List (Nat × AVal) → List Obj → Option R) (x : Int × List Int) : codeK (x21 N) (loopAt 16 (loopsOf b21)) (St.of [(53, (.data (.int .i64) x.1)), (12, (.ref 0 [] 0)), (7, (.bptr 1 [])), (9, (.clos 40 (.pr (.bptr 1 []) .un))), (0, (.data (.sl false (.int .i64)) t0_2)), (42, (.ref 3 [] 0)), (43, (.data (.int .i64) t43_1)), (44, (.data (.int .i64) t44_1)), (11, (.data (.sl false (.int .i64)) t11)), (52, (.data (.int .i64) t52))] [.row (.int .i64) x.2 0, .cell (.ref 2 [] 0), .row (.int .i64) o2_1 0, .row (.sl false (.int .i64)) o3 0]) (kLoop (x21 N) 16 ⟨[53, 12, 7, 9, 0, 42, 43, 44, 11, 52], []⟩ kb k) = f21_L16 N t0_2 t43_1 t44_1 t11 t52 o2_1 o3 (fun y => kb [(53, (.data (.int .i64) y.1)), (12, (.ref 0 [] 0)), (7, (.bptr 1 [])), (9, (.clos 40 (.pr (.bptr 1 []) .un))), (0, (.data (.sl false (.int .i64)) t0_2)), (42, (.ref 3 [] 0)), (43, (.data (.int .i64) t43_1)), (44, (.data (.int .i64) t44_1)), (11, (.data (.sl false (.int .i64)) t11)), (52, (.data (.int .i64) t52))] [.row (.int .i64) y.2 0, .cell (.ref 2 [] 0), .row (.int .i64) o2_1 0, .row (.sl false (.int .i64)) o3 0])
    (fun y4 => k (.exit 4) (St.of [(12, (.ref 0 [] 0)), (7, (.bptr 1 [])), (9, (.clos 40 (.pr (.bptr 1 []) .un))), (0, (.data (.sl false (.int .i64)) t0_2)), (42, (.ref 3 [] 0)), (43, (.data (.int .i64) t43_1)), (44, (.data (.int .i64) t44_1)), (11, (.data (.sl false (.int .i64)) t11))] [.row (.int .i64) y4 0, .cell (.ref 2 [] 0), .row (.int .i64) o2_1 0, .row (.sl false (.int .i64)) o3 0])) x := by kernel_rfl
theorem l21_16 (N : Nat) : LoopOK (x21 N) (loopAt 16 (loopsOf b21)) :=
  loop_mk (G21_16 N) (by kernel_rfl) (by kernel_rfl) (by kernel_rfl) fun R k d =>
    loop_eq (st := fun (x : Int × List Int) => ([(53, (.data (.int .i64) x.1)), (12, (.ref 0 [] 0)), (7, (.bptr 1 [])), (9, (.clos 40 (.pr (.bptr 1 []) .un))), (0, (.data (.sl false (.int .i64)) d.1.2.2.2.2.1)), (42, (.ref 3 [] 0)), (43, (.data (.int .i64) d.1.2.2.2.2.2.2.1)), (44, (.data (.int .i64) d.1.2.2.2.2.2.2.2.1)), (11, (.data (.sl false (.int .i64)) d.1.2.2.2.2.2.2.2.2.1)), (52, (.data (.int .i64) d.1.2.2.2.2.2.2.2.2.2.1))], [.row (.int .i64) x.2 0, .cell (.ref 2 [] 0), .row (.int .i64) d.2.2.2.1 0, .row (.sl false (.int .i64)) d.2.2.2.2.1 0])) (s21_16 N k d.1.2.2.2.2.1 d.1.2.2.2.2.2.2.1 d.1.2.2.2.2.2.2.2.1 d.1.2.2.2.2.2.2.2.2.1 d.1.2.2.2.2.2.2.2.2.2.1 d.2.2.2.1 d.2.2.2.2.1) N (d.1.1, d.2.1)
theorem s21_21 (N : Nat) {R : Type} (k : AExit → St → Option R) (t60 : List Int) (t0_3 : List Int) (t43_2 : Int) (t44_2 : Int) (t61 : Int) (o3_1 : List (List Int)) (kb : List (Nat × AVal) → List Obj → Option R) (x : Int × List Int × List Int) : codeK (x21 N) (loopAt 21 (loopsOf b21)) (St.of [(62, (.data (.int .i64) x.1)), (12, (.ref 0 [] 0)), (7, (.bptr 1 [])), (9, (.clos 40 (.pr (.bptr 1 []) .un))), (60, (.data (.sl false (.int .i64)) t60)), (0, (.data (.sl false (.int .i64)) t0_3)), (42, (.ref 3 [] 0)), (43, (.data (.int .i64) t43_2)), (44, (.data (.int .i64) t44_2)), (61, (.data (.int .i64) t61))] [.row (.int .i64) x.2.1 0, .cell (.ref 2 [] 0), .row (.int .i64) x.2.2 0, .row (.sl false (.int .i64)) o3_1 0]) (kLoop (x21 N) 21 ⟨[62, 12, 7, 9, 60, 0, 42, 43, 44, 61], []⟩ kb k) = f21_L21 N t60 t0_3 t43_2 t44_2 t61 o3_1 (fun y => kb [(62, (.data (.int .i64) y.1)), (12, (.ref 0 [] 0)), (7, (.bptr 1 [])), (9, (.clos 40 (.pr (.bptr 1 []) .un))), (60, (.data (.sl false (.int .i64)) t60)), (0, (.data (.sl false (.int .i64)) t0_3)), (42, (.ref 3 [] 0)), (43, (.data (.int .i64) t43_2)), (44, (.data (.int .i64) t44_2)), (61, (.data (.int .i64) t61))] [.row (.int .i64) y.2.1 0, .cell (.ref 2 [] 0), .row (.int .i64) y.2.2 0, .row (.sl false (.int .i64)) o3_1 0])
    (fun y3 => k (.exit 6) (St.of [(7, (.bptr 0 [])), (9, (.clos 40 (.pr (.bptr 0 []) .un))), (0, (.data (.sl false (.int .i64)) t0_3)), (42, (.ref 2 [] 0)), (43, (.data (.int .i64) t43_2)), (44, (.data (.int .i64) t44_2))] [.cell (.ref 1 [] 0), .row (.int .i64) y3 0, .row (.sl false (.int .i64)) o3_1 0])) x := by kernel_rfl
theorem l21_21 (N : Nat) : LoopOK (x21 N) (loopAt 21 (loopsOf b21)) :=
  loop_mk (G21_21 N) (by kernel_rfl) (by kernel_rfl) (by kernel_rfl) fun R k d =>
    loop_eq (st := fun (x : Int × List Int × List Int) => ([(62, (.data (.int .i64) x.1)), (12, (.ref 0 [] 0)), (7, (.bptr 1 [])), (9, (.clos 40 (.pr (.bptr 1 []) .un))), (60, (.data (.sl false (.int .i64)) d.1.2.2.2.2.1)), (0, (.data (.sl false (.int .i64)) d.1.2.2.2.2.2.1)), (42, (.ref 3 [] 0)), (43, (.data (.int .i64) d.1.2.2.2.2.2.2.2.1)), (44, (.data (.int .i64) d.1.2.2.2.2.2.2.2.2.1)), (61, (.data (.int .i64) d.1.2.2.2.2.2.2.2.2.2.1))], [.row (.int .i64) x.2.1 0, .cell (.ref 2 [] 0), .row (.int .i64) x.2.2 0, .row (.sl false (.int .i64)) d.2.2.2.2.1 0])) (s21_21 N k d.1.2.2.2.2.1 d.1.2.2.2.2.2.1 d.1.2.2.2.2.2.2.2.1 d.1.2.2.2.2.2.2.2.2.1 d.1.2.2.2.2.2.2.2.2.2.1 d.2.2.2.2.1) N (d.1.1, d.2.1, d.2.2.2.1)
theorem s21_12 (N : Nat) {R : Type} (k : AExit → St → Option R) (t0_1 : List Int) (t43 : Int) (o2 : List (List Int)) (kb : List (Nat × AVal) → List Obj → Option R) (x : Int × List Int) : codeK (x21 N) (loopAt 12 (loopsOf b21)) (St.of [(7, (.bptr 0 [])), (9, (.clos 40 (.pr (.bptr 0 []) .un))), (44, (.data (.int .i64) x.1)), (0, (.data (.sl false (.int .i64)) t0_1)), (42, (.ref 2 [] 0)), (43, (.data (.int .i64) t43))] [.cell (.ref 1 [] 0), .row (.int .i64) x.2 0, .row (.sl false (.int .i64)) o2 0]) (kLoop (x21 N) 12 ⟨[7, 9, 44, 0, 42, 43], []⟩ kb k) = f21_L12 N t0_1 t43 o2 (fun y => kb [(7, (.bptr 0 [])), (9, (.clos 40 (.pr (.bptr 0 []) .un))), (44, (.data (.int .i64) y.1)), (0, (.data (.sl false (.int .i64)) t0_1)), (42, (.ref 2 [] 0)), (43, (.data (.int .i64) t43))] [.cell (.ref 1 [] 0), .row (.int .i64) y.2 0, .row (.sl false (.int .i64)) o2 0])
    (fun y1 => k (.exit 2) (St.of [(9, (.clos 40 (.pr (.bptr 0 []) .un))), (0, (.data (.sl false (.int .i64)) t0_1))] [.cell (.ref 1 [] 0), .row (.int .i64) y1 0])) x := by kernel_rfl
theorem l21_12 (N : Nat) : LoopOK (x21 N) (loopAt 12 (loopsOf b21)) :=
  loop_mk (G21_12 N) (by kernel_rfl) (by kernel_rfl) (by kernel_rfl) fun R k d =>
    loop_eq (st := fun (x : Int × List Int) => ([(7, (.bptr 0 [])), (9, (.clos 40 (.pr (.bptr 0 []) .un))), (44, (.data (.int .i64) x.1)), (0, (.data (.sl false (.int .i64)) d.1.2.2.2.1)), (42, (.ref 2 [] 0)), (43, (.data (.int .i64) d.1.2.2.2.2.2.1))], [.cell (.ref 1 [] 0), .row (.int .i64) x.2 0, .row (.sl false (.int .i64)) d.2.2.2.1 0])) (s21_12 N k d.1.2.2.2.1 d.1.2.2.2.2.2.1 d.2.2.2.1) N (d.1.2.2.1, d.2.2.1)
theorem s21_31 (N : Nat) {R : Type} (k : AExit → St → Option R) (t99 : Int) (o1_5 : List Int) (kb : List (Nat × AVal) → List Obj → Option R) (x : Int × List Int) : codeK (x21 N) (loopAt 31 (loopsOf b21)) (St.of [(100, (.data (.int .i64) x.1)), (9, (.clos 40 (.pr (.bptr 0 []) .un))), (18, (.ref 2 [] 0)), (99, (.data (.int .i64) t99))] [.cell (.ref 1 [] 0), .row (.int .i64) o1_5 0, .row (.int .i64) x.2 0]) (kLoop (x21 N) 31 ⟨[100, 9, 18, 99], []⟩ kb k) = f21_L31 N t99 o1_5 (fun y => kb [(100, (.data (.int .i64) y.1)), (9, (.clos 40 (.pr (.bptr 0 []) .un))), (18, (.ref 2 [] 0)), (99, (.data (.int .i64) t99))] [.cell (.ref 1 [] 0), .row (.int .i64) o1_5 0, .row (.int .i64) y.2 0])
    (fun y0 => k (.exit 8) (St.of [(18, (.ref 0 [] 0))] [.row (.int .i64) y0 0])) x := by kernel_rfl
theorem l21_31 (N : Nat) : LoopOK (x21 N) (loopAt 31 (loopsOf b21)) :=
  loop_mk (G21_31 N) (by kernel_rfl) (by kernel_rfl) (by kernel_rfl) fun R k d =>
    loop_eq (st := fun (x : Int × List Int) => ([(100, (.data (.int .i64) x.1)), (9, (.clos 40 (.pr (.bptr 0 []) .un))), (18, (.ref 2 [] 0)), (99, (.data (.int .i64) d.1.2.2.2.1))], [.cell (.ref 1 [] 0), .row (.int .i64) d.2.2.1 0, .row (.int .i64) x.2 0])) (s21_31 N k d.1.2.2.2.1 d.2.2.1) N (d.1.1, d.2.2.2.1)
theorem e21 (N : Nat) (a0 : List Int) (a1 : List Int) : bodyK (x21 N) [(.sl true (.int .i64)), (.int .i64)] [.tmp 4, .tmp 5] b21 (entry (.pr (.val (.sl false (.int .i64))) (.pr (.val (.sl false (.int .i64))) .un)) (a0, (a1, ()))) = f21 N a0 a1 := by kernel_rfl
theorem k21 (N : Nat) : CalleeOK Go.Proofs.Try.prog 21 (c21 N) :=
  fn_ok (fn := Go.Proofs.Try.f21) (body := b21) (c := x21 N) Go.Proofs.Try.func21 (by kernel_rfl) (by kernel_rfl) ⟨ttL_ok, mtL_ok, eqL_ok, ctL_ok, msL_ok, env_cons (forall_mem1 (k38 N)) (env_cons (forall_mem1 (k40 N)) (env_cons (forall_mem1 (k11 N)) (env_nil)))⟩ mixed (by kernel_rfl) (Nat.le_of_ble_eq_true (by kernel_rfl)) (by kernel_rfl) (by decide)
    (loops_ok (by kernel_rfl : loopsOf b21 = [loopAt 6 (loopsOf b21), loopAt 12 (loopsOf b21), loopAt 16 (loopsOf b21), loopAt 21 (loopsOf b21), loopAt 31 (loopsOf b21)]) (.cons (l21_6 N) (.cons (l21_12 N) (.cons (l21_16 N) (.cons (l21_21 N) (.cons (l21_31 N) .nil)))))) fun d => e21 N d.1 d.2.1
def f12_L4 {R : Type} (N : Nat) (t1 : List Int) (t0 : List Int) (t12 : Int) (kb : Int → Option R) (kret : Bool → Option R) (kx0 : Unit → Option R) : Int → Option R :=
  fun t13 =>
    cond (decide (t13 < t12))
      ((idx t0 t13).bind fun x =>
      (idx t1 t13).bind fun x_1 =>
      cond (!(decide (x = x_1)))
        (kret false)
        (kb (wi64 (t13 + 1))))
      (kx0 ())
def f12 (N : Nat) (a0 : List Int) (a1 : List Int) : Option (Bool) :=
  cond (!(decide ((len a0) = (len a1))))
    (some false)
    (iter (fun w => f12_L4 N a1 a0 (len a0) w
      (fun t4 =>
        some t4)
      (fun (_ : Unit) =>
        some true)) N 0)
def c12 (N : Nat) : Callee := .pure (.pr (.val (.sl false (.int .i64))) (.pr (.val (.sl false (.int .i64))) .un)) [.bool] fun d => f12 N d.1 d.2.1
def F12_4 : SForm := ⟨[(13, (.val (.int .i64))), (1, (.val (.sl false (.int .i64)))), (0, (.val (.sl false (.int .i64)))), (12, (.val (.int .i64)))], []⟩
def G12_4 (N : Nat) : (R : Type) → F12_4.den → (AExit → St → Option R) → Option R := fun R d k => iter (fun kb => f12_L4 N d.1.2.1 d.1.2.2.1 d.1.2.2.2.1 kb
    (fun y0 => k .ret (St.of [(4, (.data .bool y0))] []))
    (fun _ => k (.exit 0) (St.of [] []))) N d.1.1
def lp12 (N : Nat) : Nat → Option LoopFn := fun r => cond (Nat.beq r 4) (some fun R sl os k => F12_4.take sl os fun d => G12_4 N R d k) (none)
def x12 (N : Nat) : Ctx := { fuel := N, tt := getL ttL, mt := getL mtL, ntmps := 26, env := fun f => (getL [] f).getD [], cut := getL [(4, ⟨[13, 1, 0, 12], []⟩)], exits := fun r => getL ((getL [(4, [(0, ⟨[], []⟩)])] r).getD []), res := ⟨[4], []⟩, own := fun _ => none, lp := lp12 N, eqs := fun T => memN T eqL, ct := fun T => memN T ctL, ms := getMs msL }
noncomputable def b12 : Code := ((Go.Proofs.Try.f12).body).getD .skip
theorem s12_4 (N : Nat) {R : Type} (k : AExit → St → Option R) (t1 : List Int) (t0 : List Int) (t12 : Int) (kb : List (Nat × AVal) → List Obj → Option R) (x : Int) : codeK (x12 N) (loopAt 4 (loopsOf b12)) (St.of [(13, (.data (.int .i64) x)), (1, (.data (.sl false (.int .i64)) t1)), (0, (.data (.sl false (.int .i64)) t0)), (12, (.data (.int .i64) t12))] []) (kLoop (x12 N) 4 ⟨[13, 1, 0, 12], []⟩ kb k) = f12_L4 N t1 t0 t12 (fun y => kb [(13, (.data (.int .i64) y)), (1, (.data (.sl false (.int .i64)) t1)), (0, (.data (.sl false (.int .i64)) t0)), (12, (.data (.int .i64) t12))] [])
    (fun y0 => k .ret (St.of [(4, (.data .bool y0))] []))
    (fun _ => k (.exit 0) (St.of [] [])) x := by kernel_rfl
theorem l12_4 (N : Nat) : LoopOK (x12 N) (loopAt 4 (loopsOf b12)) :=
  loop_mk (G12_4 N) (by kernel_rfl) (by kernel_rfl) (by kernel_rfl) fun R k d =>
    loop_eq (st := fun (x : Int) => ([(13, (.data (.int .i64) x)), (1, (.data (.sl false (.int .i64)) d.1.2.1)), (0, (.data (.sl false (.int .i64)) d.1.2.2.1)), (12, (.data (.int .i64) d.1.2.2.2.1))], [])) (s12_4 N k d.1.2.1 d.1.2.2.1 d.1.2.2.2.1) N d.1.1
theorem e12 (N : Nat) (a0 : List Int) (a1 : List Int) : bodyK (x12 N) [.bool] [.tmp 4] b12 (entry (.pr (.val (.sl false (.int .i64))) (.pr (.val (.sl false (.int .i64))) .un)) (a0, (a1, ()))) = f12 N a0 a1 := by kernel_rfl
theorem k12 (N : Nat) : CalleeOK Go.Proofs.Try.prog 12 (c12 N) :=
  fn_ok (fn := Go.Proofs.Try.f12) (body := b12) (c := x12 N) Go.Proofs.Try.func12 (by kernel_rfl) (by kernel_rfl) ⟨ttL_ok, mtL_ok, eqL_ok, ctL_ok, msL_ok, env_nil⟩ mixed (by kernel_rfl) (Nat.le_of_ble_eq_true (by kernel_rfl)) (by kernel_rfl) (by decide)
    (loops_ok (by kernel_rfl : loopsOf b12 = [loopAt 4 (loopsOf b12)]) (.cons (l12_4 N) .nil)) fun d => e12 N d.1 d.2.1
def f30_L5 {R : Type} (N : Nat) (t9 : List Int) (t10 : Int) (kb : Int × List Int → Option R) (kx0 : (List Int) → Option R) : Int × List Int → Option R :=
  fun (t11, o0) =>
    cond (decide (t11 < t10))
      ((idx t9 t11).bind fun x =>
      cond (decide (x = (len o0)))
        (chk (decide ((Nat.succ (List.length o0)) ≤ room)) <|
        chk (inb (o0 ++ (0 :: ([] : List Int))) x) <|
        (idx (o0 ++ (0 :: ([] : List Int))) x).bind fun x_1 =>
        chk (inb (o0 ++ (0 :: ([] : List Int))) x) <|
        (idx (o0 ++ (0 :: ([] : List Int))) x).bind fun x_2 =>
        (idx (o0 ++ (0 :: ([] : List Int))) x).bind fun x_3 =>
        kb ((wi64 (t11 + 1)), (setI (o0 ++ (0 :: ([] : List Int))) x (wi64 (x_1 + 1)))))
        (chk (inb o0 x) <|
        (idx o0 x).bind fun x_4 =>
        chk (inb o0 x) <|
        (idx o0 x).bind fun x_5 =>
        (idx o0 x).bind fun x_6 =>
        kb ((wi64 (t11 + 1)), (setI o0 x (wi64 (x_4 + 1))))))
      (kx0 o0)
def f30 (N : Nat) (a0 : List Int) : Option (List Int) :=
  (f14 N a0).bind fun r =>
  cond (!r)
    (some ([] : List Int))
    (iter (fun w => f30_L5 N a0 (len a0) w
      (fun o0_1 =>
        some o0_1)) N (0, ([] : List Int)))
def c30 (N : Nat) : Callee := .pure (.pr (.val (.sl false (.int .i64))) .un) [(.sl true (.int .i64))] fun d => f30 N d.1
def F30_5 : SForm := ⟨[(11, (.val (.int .i64))), (3, (.ref 0)), (9, (.val (.sl false (.int .i64)))), (10, (.val (.int .i64)))], [.row (.int .i64)]⟩
def G30_5 (N : Nat) : (R : Type) → F30_5.den → (AExit → St → Option R) → Option R := fun R d k => iter (fun kb => f30_L5 N d.1.2.2.1 d.1.2.2.2.1 kb
    (fun y0 => k (.exit 0) (St.of [(3, (.ref 0 [] 0))] [.row (.int .i64) y0 0]))) N (d.1.1, d.2.1)
def lp30 (N : Nat) : Nat → Option LoopFn := fun r => cond (Nat.beq r 5) (some fun R sl os k => F30_5.take sl os fun d => G30_5 N R d k) (none)
def x30 (N : Nat) : Ctx := { fuel := N, tt := getL ttL, mt := getL mtL, ntmps := 30, env := fun f => (getL [(14, [c14 N])] f).getD [], cut := getL [(5, ⟨[11, 3, 9, 10], [(3, none, .row (.int .i64))]⟩)], exits := fun r => getL ((getL [(5, [(0, ⟨[3], []⟩)])] r).getD []), res := ⟨[2], []⟩, own := fun _ => none, lp := lp30 N, eqs := fun T => memN T eqL, ct := fun T => memN T ctL, ms := getMs msL }
noncomputable def b30 : Code := ((Go.Proofs.Try.f30).body).getD .skip
theorem s30_5 (N : Nat) {R : Type} (k : AExit → St → Option R) (t9 : List Int) (t10 : Int) (kb : List (Nat × AVal) → List Obj → Option R) (x : Int × List Int) : codeK (x30 N) (loopAt 5 (loopsOf b30)) (St.of [(11, (.data (.int .i64) x.1)), (3, (.ref 0 [] 0)), (9, (.data (.sl false (.int .i64)) t9)), (10, (.data (.int .i64) t10))] [.row (.int .i64) x.2 0]) (kLoop (x30 N) 5 ⟨[11, 3, 9, 10], [(3, none, .row (.int .i64))]⟩ kb k) = f30_L5 N t9 t10 (fun y => kb [(11, (.data (.int .i64) y.1)), (3, (.ref 0 [] 0)), (9, (.data (.sl false (.int .i64)) t9)), (10, (.data (.int .i64) t10))] [.row (.int .i64) y.2 0])
    (fun y0 => k (.exit 0) (St.of [(3, (.ref 0 [] 0))] [.row (.int .i64) y0 0])) x := by kernel_rfl
theorem l30_5 (N : Nat) : LoopOK (x30 N) (loopAt 5 (loopsOf b30)) :=
  loop_mk (G30_5 N) (by kernel_rfl) (by kernel_rfl) (by kernel_rfl) fun R k d =>
    loop_eq (st := fun (x : Int × List Int) => ([(11, (.data (.int .i64) x.1)), (3, (.ref 0 [] 0)), (9, (.data (.sl false (.int .i64)) d.1.2.2.1)), (10, (.data (.int .i64) d.1.2.2.2.1))], [.row (.int .i64) x.2 0])) (s30_5 N k d.1.2.2.1 d.1.2.2.2.1) N (d.1.1, d.2.1)
theorem e30 (N : Nat) (a0 : List Int) : bodyK (x30 N) [(.sl true (.int .i64))] [.tmp 2] b30 (entry (.pr (.val (.sl false (.int .i64))) .un) (a0, ())) = f30 N a0 := by kernel_rfl
theorem k30 (N : Nat) : CalleeOK Go.Proofs.Try.prog 30 (c30 N) :=
  fn_ok (fn := Go.Proofs.Try.f30) (body := b30) (c := x30 N) Go.Proofs.Try.func30 (by kernel_rfl) (by kernel_rfl) ⟨ttL_ok, mtL_ok, eqL_ok, ctL_ok, msL_ok, env_cons (forall_mem1 (k14 N)) (env_nil)⟩ mixed (by kernel_rfl) (Nat.le_of_ble_eq_true (by kernel_rfl)) (by kernel_rfl) (by decide)
    (loops_ok (by kernel_rfl : loopsOf b30 = [loopAt 5 (loopsOf b30)]) (.cons (l30_5 N) .nil)) fun d => e30 N d.1
def f26 (N : Nat) (a0 : List Int) : Option (Int) :=
  (f30 N a0).bind fun r =>
  some (len r)
def c26 (N : Nat) : Callee := .pure (.pr (.val (.sl false (.int .i64))) .un) [(.int .i64)] fun d => f26 N d.1
def lp26 (N : Nat) : Nat → Option LoopFn := fun r => none
def x26 (N : Nat) : Ctx := { fuel := N, tt := getL ttL, mt := getL mtL, ntmps := 6, env := fun f => (getL [(30, [c30 N])] f).getD [], cut := getL [], exits := fun r => getL ((getL [] r).getD []), res := ⟨[2], []⟩, own := fun _ => none, lp := lp26 N, eqs := fun T => memN T eqL, ct := fun T => memN T ctL, ms := getMs msL }
noncomputable def b26 : Code := ((Go.Proofs.Try.f26).body).getD .skip
theorem e26 (N : Nat) (a0 : List Int) : bodyK (x26 N) [(.int .i64)] [.tmp 2] b26 (entry (.pr (.val (.sl false (.int .i64))) .un) (a0, ())) = f26 N a0 := by kernel_rfl
theorem k26 (N : Nat) : CalleeOK Go.Proofs.Try.prog 26 (c26 N) :=
  fn_ok (fn := Go.Proofs.Try.f26) (body := b26) (c := x26 N) Go.Proofs.Try.func26 (by kernel_rfl) (by kernel_rfl) ⟨ttL_ok, mtL_ok, eqL_ok, ctL_ok, msL_ok, env_cons (forall_mem1 (k30 N)) (env_nil)⟩ mixed (by kernel_rfl) (Nat.le_of_ble_eq_true (by kernel_rfl)) (by kernel_rfl) (by decide)
    (loops_ok (by kernel_rfl : loopsOf b26 = []) .nil) fun d => e26 N d.1
def f27_L3 {R : Type} (N : Nat) (t9 : Int) (o0 : List Int) (kb : Int × Int × Int → Option R) (kx0 : Int → Option R) : Int × Int × Int → Option R :=
  fun (t10, t4, t3) =>
    cond (decide (t10 < t9))
      (chk (inb o0 t10) <|
      (idx o0 t10).bind fun x =>
      kb ((wi64 (t10 + 1)), (wi64 (t4 + x)), (wi64 (t3 + (wi64 (x * t4))))))
      (kx0 t3)
def f27 (N : Nat) (a0 : List Int) : Option (Int) :=
  (f30 N a0).bind fun r =>
  iter (fun w => f27_L3 N (len r) r w
    (fun t3_1 =>
      some t3_1)) N (0, 0, 0)
def c27 (N : Nat) : Callee := .pure (.pr (.val (.sl false (.int .i64))) .un) [(.int .i64)] fun d => f27 N d.1
def F27_3 : SForm := ⟨[(10, (.val (.int .i64))), (4, (.val (.int .i64))), (3, (.val (.int .i64))), (8, (.ref 0)), (9, (.val (.int .i64)))], [.row (.int .i64)]⟩
def G27_3 (N : Nat) : (R : Type) → F27_3.den → (AExit → St → Option R) → Option R := fun R d k => iter (fun kb => f27_L3 N d.1.2.2.2.2.1 d.2.1 kb
    (fun y0 => k (.exit 0) (St.of [(3, (.data (.int .i64) y0))] []))) N (d.1.1, d.1.2.1, d.1.2.2.1)
def lp27 (N : Nat) : Nat → Option LoopFn := fun r => cond (Nat.beq r 3) (some fun R sl os k => F27_3.take sl os fun d => G27_3 N R d k) (none)
def x27 (N : Nat) : Ctx := { fuel := N, tt := getL ttL, mt := getL mtL, ntmps := 24, env := fun f => (getL [(30, [c30 N])] f).getD [], cut := getL [(3, ⟨[10, 4, 3, 8, 9], []⟩)], exits := fun r => getL ((getL [(3, [(0, ⟨[3], []⟩)])] r).getD []), res := ⟨[2], []⟩, own := fun _ => none, lp := lp27 N, eqs := fun T => memN T eqL, ct := fun T => memN T ctL, ms := getMs msL }
noncomputable def b27 : Code := ((Go.Proofs.Try.f27).body).getD .skip
theorem s27_3 (N : Nat) {R : Type} (k : AExit → St → Option R) (t9 : Int) (o0 : List Int) (kb : List (Nat × AVal) → List Obj → Option R) (x : Int × Int × Int) : codeK (x27 N) (loopAt 3 (loopsOf b27)) (St.of [(10, (.data (.int .i64) x.1)), (4, (.data (.int .i64) x.2.1)), (3, (.data (.int .i64) x.2.2)), (8, (.ref 0 [] 0)), (9, (.data (.int .i64) t9))] [.row (.int .i64) o0 0]) (kLoop (x27 N) 3 ⟨[10, 4, 3, 8, 9], []⟩ kb k) = f27_L3 N t9 o0 (fun y => kb [(10, (.data (.int .i64) y.1)), (4, (.data (.int .i64) y.2.1)), (3, (.data (.int .i64) y.2.2)), (8, (.ref 0 [] 0)), (9, (.data (.int .i64) t9))] [.row (.int .i64) o0 0])
    (fun y0 => k (.exit 0) (St.of [(3, (.data (.int .i64) y0))] [])) x := by kernel_rfl
theorem l27_3 (N : Nat) : LoopOK (x27 N) (loopAt 3 (loopsOf b27)) :=
  loop_mk (G27_3 N) (by kernel_rfl) (by kernel_rfl) (by kernel_rfl) fun R k d =>
    loop_eq (st := fun (x : Int × Int × Int) => ([(10, (.data (.int .i64) x.1)), (4, (.data (.int .i64) x.2.1)), (3, (.data (.int .i64) x.2.2)), (8, (.ref 0 [] 0)), (9, (.data (.int .i64) d.1.2.2.2.2.1))], [.row (.int .i64) d.2.1 0])) (s27_3 N k d.1.2.2.2.2.1 d.2.1) N (d.1.1, d.1.2.1, d.1.2.2.1)
theorem e27 (N : Nat) (a0 : List Int) : bodyK (x27 N) [(.int .i64)] [.tmp 2] b27 (entry (.pr (.val (.sl false (.int .i64))) .un) (a0, ())) = f27 N a0 := by kernel_rfl
theorem k27 (N : Nat) : CalleeOK Go.Proofs.Try.prog 27 (c27 N) :=
  fn_ok (fn := Go.Proofs.Try.f27) (body := b27) (c := x27 N) Go.Proofs.Try.func27 (by kernel_rfl) (by kernel_rfl) ⟨ttL_ok, mtL_ok, eqL_ok, ctL_ok, msL_ok, env_cons (forall_mem1 (k30 N)) (env_nil)⟩ mixed (by kernel_rfl) (Nat.le_of_ble_eq_true (by kernel_rfl)) (by kernel_rfl) (by decide)
    (loops_ok (by kernel_rfl : loopsOf b27 = [loopAt 3 (loopsOf b27)]) (.cons (l27_3 N) .nil)) fun d => e27 N d.1
def f10 (N : Nat) : Option (Bool) :=
  (f11 N (7 :: (3 :: (7 :: (9 :: ([] : List Int)))))).bind fun r =>
  (f19 N r (0 :: (0 :: (1 :: (1 :: ([] : List Int)))))).bind fun r_1 =>
  (f21 N r (0 :: (0 :: (1 :: (1 :: ([] : List Int)))))).bind fun r_2 =>
  (f12 N r (0 :: (1 :: (0 :: (2 :: ([] : List Int)))))).bind fun r_3 =>
  (cond r_3
      ((f26 N r).bind fun r_4 =>
      some (decide (r_4 = 3)))
      (some false)).bind fun b =>
  (cond b
      ((f27 N r).bind fun r_5 =>
      some (decide (r_5 = 5)))
      (some false)).bind fun b_1 =>
  (cond b_1
      (some (decide (r_1.2 = 0)))
      (some false)).bind fun b_2 =>
  (cond b_2
      ((f12 N r_1.1 (0 :: (1 :: (2 :: (3 :: ([] : List Int)))))).bind fun r_6 =>
      some r_6)
      (some false)).bind fun b_3 =>
  (cond b_3
      (some (decide (r_2.2 = 0)))
      (some false)).bind fun b_4 =>
  (cond b_4
      ((f12 N r_2.1 (0 :: (0 :: (0 :: (0 :: ([] : List Int)))))).bind fun r_7 =>
      some r_7)
      (some false)).bind fun b_5 =>
  some b_5
def c10 (N : Nat) : Callee := .pure .un [.bool] fun d => f10 N 
def lp10 (N : Nat) : Nat → Option LoopFn := fun r => none
def x10 (N : Nat) : Ctx := { fuel := N, tt := getL ttL, mt := getL mtL, ntmps := 51, env := fun f => (getL [(11, [c11 N]), (19, [c19 N]), (21, [c21 N]), (12, [c12 N]), (26, [c26 N]), (27, [c27 N])] f).getD [], cut := getL [], exits := fun r => getL ((getL [] r).getD []), res := ⟨[0], []⟩, own := getL [(6, (.sl false (.int .i64))), (10, (.sl false (.int .i64))), (16, (.sl false (.int .i64))), (21, (.sl false (.int .i64))), (39, (.sl false (.int .i64))), (48, (.sl false (.int .i64)))], lp := lp10 N, eqs := fun T => memN T eqL, ct := fun T => memN T ctL, ms := getMs msL }
noncomputable def b10 : Code := ((Go.Proofs.Try.f10).body).getD .skip
theorem e10 (N : Nat) : bodyK (x10 N) [.bool] [.tmp 0] b10 (entry .un ()) = f10 N := by kernel_rfl
theorem k10 (N : Nat) : CalleeOK Go.Proofs.Try.prog 10 (c10 N) :=
  fn_ok (fn := Go.Proofs.Try.f10) (body := b10) (c := x10 N) Go.Proofs.Try.func10 (by kernel_rfl) (by kernel_rfl) ⟨ttL_ok, mtL_ok, eqL_ok, ctL_ok, msL_ok, env_cons (forall_mem1 (k11 N)) (env_cons (forall_mem1 (k19 N)) (env_cons (forall_mem1 (k21 N)) (env_cons (forall_mem1 (k12 N)) (env_cons (forall_mem1 (k26 N)) (env_cons (forall_mem1 (k27 N)) (env_nil))))))⟩ mixed (by kernel_rfl) (Nat.le_of_ble_eq_true (by kernel_rfl)) (by kernel_rfl) (by decide)
    (loops_ok (by kernel_rfl : loopsOf b10 = []) .nil) fun d => e10 N 
def f42 (N : Nat) (a0 : List Int) : Option (List Int) := chk (decide (0 + List.length a0 ≤ room)) (some a0)
def c42 (N : Nat) : Callee := .pure (.pr (.val (.sl false (.int .i64))) .un) [(.sl true (.int .i64))] fun d => f42 N d.1
def x42 (N : Nat) : Ctx := { fuel := N, tt := getL ttL, mt := getL mtL, ntmps := 8, env := fun f => (getL [] f).getD [], cut := fun _ => none, exits := fun _ _ => none, res := ⟨[2], []⟩, own := fun _ => none, lp := fun _ => none, eqs := fun T => memN T eqL, ct := fun T => memN T ctL, ms := getMs msL }
theorem k42 (N : Nat) : CalleeOK Go.Proofs.Try.prog 42 (c42 N) :=
  fn_ok_nil (fn := Go.Proofs.Try.f42) (c := x42 N) (p := .pr (.val (.sl false (.int .i64))) .un) (ts := [(.sl true (.int .i64))]) (t := (.int .i64)) (σ0 := fun d => ⟨(entry (.pr (.val (.sl false (.int .i64))) .un) d |>.set 2 .nilS).slots, fun _ => none, 8⟩) Go.Proofs.Try.func42 (by kernel_rfl) rfl ⟨ttL_ok, mtL_ok, eqL_ok, ctL_ok, msL_ok, env_nil⟩ mixed (by kernel_rfl) (Nat.le_of_ble_eq_true (by kernel_rfl)) (by kernel_rfl)
    (AllL.mem .nil) (AllL.mem .nil) (AllL.mem .nil) (fun d => by kernel_rfl) rfl rfl rfl rfl rfl rfl (Nat.le_of_ble_eq_true (by kernel_rfl)) (Nat.le_of_ble_eq_true (by kernel_rfl)) (by kernel_rfl : (x42 N).tt 22 = some (.sl false (.int .i64))) (fun d => d.1) (fun d => by kernel_rfl)
    (fun d b hb => match d, b, hb with
      | (a0, u), false, _ => by kernel_rfl
      | ([], u), true, _ => by kernel_rfl
      | (_ :: _, u), true, hb => nomatch hb rfl)
def f41v1B_L3 {R : Type} (N : Nat) (r41v1 : Int → (List Int) → Int → (List (List Int)) → Option (((Unit × (Unit × (Unit × (Unit × Unit)))) × (Unit × ((List Int) × (Int × (Unit × ((List (List Int)) × ((Unit × (Unit × (Unit × (Unit × Unit)))) × Unit))))))))) (t0_1 : Int) (kb : Int × List Int × Int × List (List Int) → Option R) (kx0 : (List Int) → Int → (List (List Int)) → Option R) : Int × List Int × Int × List (List Int) → Option R :=
  fun (t6, o1_1, o3, o5) =>
    cond (decide (t6 ≤ t0_1))
      (chk (decide ((Nat.succ (List.length o1_1)) ≤ room)) <|
      (r41v1 (maxI t0_1 (wi64 (t6 + 1))) (o1_1 ++ (t6 :: ([] : List Int))) o3 o5).bind fun r_1 =>
      chk ((decide (0 ≤ (wi64 ((len r_1.2.2.1) - 1)))) && (decide ((wi64 ((len r_1.2.2.1) - 1)) ≤ (len r_1.2.2.1)))) <|
      kb ((wi64 (t6 + 1)), (sub r_1.2.2.1 0 (wi64 ((len r_1.2.2.1) - 1))), r_1.2.2.2.1, r_1.2.2.2.2.2.1))
      (kx0 o1_1 o3 o5)
def f41v1B (N : Nat) (r41v1 : Int → (List Int) → Int → (List (List Int)) → Option (((Unit × (Unit × (Unit × (Unit × Unit)))) × (Unit × ((List Int) × (Int × (Unit × ((List (List Int)) × ((Unit × (Unit × (Unit × (Unit × Unit)))) × Unit))))))))) (t0 : Int) (o1 : List Int) (o2 : Int) (o4 : List (List Int)) : Option (((Unit × (Unit × (Unit × (Unit × Unit)))) × (Unit × ((List Int) × (Int × (Unit × ((List (List Int)) × ((Unit × (Unit × (Unit × (Unit × Unit)))) × Unit)))))))) :=
  cond (decide ((len o1) = o2))
    ((f42 N o1).bind fun r =>
    chk (decide ((Nat.succ (List.length o4)) ≤ room)) <|
    some (((), ((), ((), ((), ())))), ((), (o1, (o2, ((), ((o4 ++ (r :: ([] : List (List Int)))), (((), ((), ((), ((), ())))), ()))))))))
    (iter (fun w => f41v1B_L3 N r41v1 t0 w
      (fun o1_2 o2_1 o4_1 =>
        some (((), ((), ((), ((), ())))), ((), (o1_2, (o2_1, ((), (o4_1, (((), ((), ((), ((), ())))), ()))))))))) N (0, o1, o2, o4))
def fi41v1B : SForm := ⟨[(0, (.val (.int .i64))), (1, (.bptr 0 [])), (2, (.bptr 2 [])), (3, (.bptr 3 [])), (4, (.bptr 5 []))], [.cell (.ref 1), .row (.int .i64), .cell (.val (.int .i64)), .cell (.ref 4), .row (.sl false (.int .i64)), .cell (.clos 41 (.pr (.bptr 0 []) (.pr (.bptr 2 []) (.pr (.bptr 3 []) (.pr (.bptr 5 []) .un)))))]⟩
def fo41v1B : SForm := ⟨[(1, (.bptr 0 [])), (2, (.bptr 2 [])), (3, (.bptr 3 [])), (4, (.bptr 5 []))], [.cell (.ref 1), .row (.int .i64), .cell (.val (.int .i64)), .cell (.ref 4), .row (.sl false (.int .i64)), .cell (.clos 41 (.pr (.bptr 0 []) (.pr (.bptr 2 []) (.pr (.bptr 3 []) (.pr (.bptr 5 []) .un)))))]⟩
def c41v1B (N : Nat) (r41v1 : Int → (List Int) → Int → (List (List Int)) → Option (((Unit × (Unit × (Unit × (Unit × Unit)))) × (Unit × ((List Int) × (Int × (Unit × ((List (List Int)) × ((Unit × (Unit × (Unit × (Unit × Unit)))) × Unit))))))))) : Callee := .mut fi41v1B [1, 2, 3, 4] fo41v1B fun d => f41v1B N r41v1 d.1.1 d.2.2.1 d.2.2.2.1 d.2.2.2.2.2.1
def F41v1B_3 : SForm := ⟨[(6, (.val (.int .i64))), (1, (.bptr 0 [])), (0, (.val (.int .i64))), (4, (.bptr 2 [])), (2, (.bptr 3 [])), (3, (.bptr 4 []))], [.cell (.ref 1), .row (.int .i64), .cell (.clos 41 (.pr (.bptr 0 []) (.pr (.bptr 3 []) (.pr (.bptr 4 []) (.pr (.bptr 2 []) .un))))), .cell (.val (.int .i64)), .cell (.ref 5), .row (.sl false (.int .i64))]⟩
def G41v1B_3 (N : Nat) (r41v1 : Int → (List Int) → Int → (List (List Int)) → Option (((Unit × (Unit × (Unit × (Unit × Unit)))) × (Unit × ((List Int) × (Int × (Unit × ((List (List Int)) × ((Unit × (Unit × (Unit × (Unit × Unit)))) × Unit))))))))) : (R : Type) → F41v1B_3.den → (AExit → St → Option R) → Option R := fun R d k => iter (fun kb => f41v1B_L3 N r41v1 d.1.2.2.1 kb
    (fun y0 y1 y2 => k (.exit 0) (St.of [(1, (.bptr 0 [])), (2, (.bptr 2 [])), (3, (.bptr 3 [])), (4, (.bptr 5 []))] [.cell (.ref 1 [] 0), .row (.int .i64) y0 0, .cell (.data (.int .i64) y1), .cell (.ref 4 [] 0), .row (.sl false (.int .i64)) y2 0, .cell (.clos 41 (.pr (.bptr 0 []) (.pr (.bptr 2 []) (.pr (.bptr 3 []) (.pr (.bptr 5 []) .un)))))]))) N (d.1.1, d.2.2.1, d.2.2.2.2.1, d.2.2.2.2.2.2.1)
def lp41v1B (N : Nat) (r41v1 : Int → (List Int) → Int → (List (List Int)) → Option (((Unit × (Unit × (Unit × (Unit × Unit)))) × (Unit × ((List Int) × (Int × (Unit × ((List (List Int)) × ((Unit × (Unit × (Unit × (Unit × Unit)))) × Unit))))))))) : Nat → Option LoopFn := fun r => cond (Nat.beq r 3) (some fun R sl os k => F41v1B_3.take sl os fun d => G41v1B_3 N r41v1 R d k) (none)
def x41v1B (N : Nat) (r41v1 : Int → (List Int) → Int → (List (List Int)) → Option (((Unit × (Unit × (Unit × (Unit × Unit)))) × (Unit × ((List Int) × (Int × (Unit × ((List (List Int)) × ((Unit × (Unit × (Unit × (Unit × Unit)))) × Unit))))))))) : Ctx := { fuel := N, tt := getL ttL, mt := getL mtL, ntmps := 36, env := fun f => (getL [(42, [c42 N]), (41, [(.mut ⟨[(0, (.val (.int .i64))), (1, (.bptr 0 [])), (2, (.bptr 2 [])), (3, (.bptr 3 [])), (4, (.bptr 5 []))], [.cell (.ref 1), .row (.int .i64), .cell (.val (.int .i64)), .cell (.ref 4), .row (.sl false (.int .i64)), .cell (.clos 41 (.pr (.bptr 0 []) (.pr (.bptr 2 []) (.pr (.bptr 3 []) (.pr (.bptr 5 []) .un)))))]⟩ [1, 2, 3, 4] ⟨[(1, (.bptr 0 [])), (2, (.bptr 2 [])), (3, (.bptr 3 [])), (4, (.bptr 5 []))], [.cell (.ref 1), .row (.int .i64), .cell (.val (.int .i64)), .cell (.ref 4), .row (.sl false (.int .i64)), .cell (.clos 41 (.pr (.bptr 0 []) (.pr (.bptr 2 []) (.pr (.bptr 3 []) (.pr (.bptr 5 []) .un)))))]⟩ fun d => r41v1 d.1.1 d.2.2.1 d.2.2.2.1 d.2.2.2.2.2.1)])] f).getD [], cut := getL [(3, ⟨[6, 1, 0, 4, 2, 3], [(1, some [], .row (.int .i64))]⟩)], exits := fun r => getL ((getL [(3, [(0, ⟨[1, 2, 3, 4], []⟩)])] r).getD []), res := ⟨[1, 2, 3, 4], []⟩, own := fun _ => none, lp := lp41v1B N r41v1, eqs := fun T => memN T eqL, ct := fun T => memN T ctL, ms := getMs msL }
noncomputable def b41v1B : Code := ((Go.Proofs.Try.f41).body).getD .skip
theorem s41v1B_3 (N : Nat) (r41v1 : Int → (List Int) → Int → (List (List Int)) → Option (((Unit × (Unit × (Unit × (Unit × Unit)))) × (Unit × ((List Int) × (Int × (Unit × ((List (List Int)) × ((Unit × (Unit × (Unit × (Unit × Unit)))) × Unit))))))))) {R : Type} (k : AExit → St → Option R) (t0_1 : Int) (kb : List (Nat × AVal) → List Obj → Option R) (x : Int × List Int × Int × List (List Int)) : codeK (x41v1B N r41v1) (loopAt 3 (loopsOf b41v1B)) (St.of [(6, (.data (.int .i64) x.1)), (1, (.bptr 0 [])), (0, (.data (.int .i64) t0_1)), (4, (.bptr 2 [])), (2, (.bptr 3 [])), (3, (.bptr 4 []))] [.cell (.ref 1 [] 0), .row (.int .i64) x.2.1 0, .cell (.clos 41 (.pr (.bptr 0 []) (.pr (.bptr 3 []) (.pr (.bptr 4 []) (.pr (.bptr 2 []) .un))))), .cell (.data (.int .i64) x.2.2.1), .cell (.ref 5 [] 0), .row (.sl false (.int .i64)) x.2.2.2 0]) (kLoop (x41v1B N r41v1) 3 ⟨[6, 1, 0, 4, 2, 3], [(1, some [], .row (.int .i64))]⟩ kb k) = f41v1B_L3 N r41v1 t0_1 (fun y => kb [(6, (.data (.int .i64) y.1)), (1, (.bptr 0 [])), (0, (.data (.int .i64) t0_1)), (4, (.bptr 2 [])), (2, (.bptr 3 [])), (3, (.bptr 4 []))] [.cell (.ref 1 [] 0), .row (.int .i64) y.2.1 0, .cell (.clos 41 (.pr (.bptr 0 []) (.pr (.bptr 3 []) (.pr (.bptr 4 []) (.pr (.bptr 2 []) .un))))), .cell (.data (.int .i64) y.2.2.1), .cell (.ref 5 [] 0), .row (.sl false (.int .i64)) y.2.2.2 0])
    (fun y0 y1 y2 => k (.exit 0) (St.of [(1, (.bptr 0 [])), (2, (.bptr 2 [])), (3, (.bptr 3 [])), (4, (.bptr 5 []))] [.cell (.ref 1 [] 0), .row (.int .i64) y0 0, .cell (.data (.int .i64) y1), .cell (.ref 4 [] 0), .row (.sl false (.int .i64)) y2 0, .cell (.clos 41 (.pr (.bptr 0 []) (.pr (.bptr 2 []) (.pr (.bptr 3 []) (.pr (.bptr 5 []) .un)))))])) x := by kernel_rfl
theorem l41v1B_3 (N : Nat) (r41v1 : Int → (List Int) → Int → (List (List Int)) → Option (((Unit × (Unit × (Unit × (Unit × Unit)))) × (Unit × ((List Int) × (Int × (Unit × ((List (List Int)) × ((Unit × (Unit × (Unit × (Unit × Unit)))) × Unit))))))))) : LoopOK (x41v1B N r41v1) (loopAt 3 (loopsOf b41v1B)) :=
  loop_mk (G41v1B_3 N r41v1) (by kernel_rfl) (by kernel_rfl) (by kernel_rfl) fun R k d =>
    loop_eq (st := fun (x : Int × List Int × Int × List (List Int)) => ([(6, (.data (.int .i64) x.1)), (1, (.bptr 0 [])), (0, (.data (.int .i64) d.1.2.2.1)), (4, (.bptr 2 [])), (2, (.bptr 3 [])), (3, (.bptr 4 []))], [.cell (.ref 1 [] 0), .row (.int .i64) x.2.1 0, .cell (.clos 41 (.pr (.bptr 0 []) (.pr (.bptr 3 []) (.pr (.bptr 4 []) (.pr (.bptr 2 []) .un))))), .cell (.data (.int .i64) x.2.2.1), .cell (.ref 5 [] 0), .row (.sl false (.int .i64)) x.2.2.2 0])) (s41v1B_3 N r41v1 k d.1.2.2.1) N (d.1.1, d.2.2.1, d.2.2.2.2.1, d.2.2.2.2.2.2.1)
theorem e41v1B (N : Nat) (r41v1 : Int → (List Int) → Int → (List (List Int)) → Option (((Unit × (Unit × (Unit × (Unit × Unit)))) × (Unit × ((List Int) × (Int × (Unit × ((List (List Int)) × ((Unit × (Unit × (Unit × (Unit × Unit)))) × Unit))))))))) (t0 : Int) (o1 : List Int) (o2 : Int) (o4 : List (List Int)) : bodyM (x41v1B N r41v1) fo41v1B b41v1B (St.of [(0, (.data (.int .i64) t0)), (1, (.bptr 0 [])), (2, (.bptr 2 [])), (3, (.bptr 3 [])), (4, (.bptr 5 []))] [.cell (.ref 1 [] 0), .row (.int .i64) o1 0, .cell (.data (.int .i64) o2), .cell (.ref 4 [] 0), .row (.sl false (.int .i64)) o4 0, .cell (.clos 41 (.pr (.bptr 0 []) (.pr (.bptr 2 []) (.pr (.bptr 3 []) (.pr (.bptr 5 []) .un)))))]) = f41v1B N r41v1 t0 o1 o2 o4 := by kernel_rfl
theorem k41v1B (N : Nat) (r41v1 : Int → (List Int) → Int → (List (List Int)) → Option (((Unit × (Unit × (Unit × (Unit × Unit)))) × (Unit × ((List Int) × (Int × (Unit × ((List (List Int)) × ((Unit × (Unit × (Unit × (Unit × Unit)))) × Unit))))))))) (h41v1 : CalleeOK Go.Proofs.Try.prog 41 (.mut ⟨[(0, (.val (.int .i64))), (1, (.bptr 0 [])), (2, (.bptr 2 [])), (3, (.bptr 3 [])), (4, (.bptr 5 []))], [.cell (.ref 1), .row (.int .i64), .cell (.val (.int .i64)), .cell (.ref 4), .row (.sl false (.int .i64)), .cell (.clos 41 (.pr (.bptr 0 []) (.pr (.bptr 2 []) (.pr (.bptr 3 []) (.pr (.bptr 5 []) .un)))))]⟩ [1, 2, 3, 4] ⟨[(1, (.bptr 0 [])), (2, (.bptr 2 [])), (3, (.bptr 3 [])), (4, (.bptr 5 []))], [.cell (.ref 1), .row (.int .i64), .cell (.val (.int .i64)), .cell (.ref 4), .row (.sl false (.int .i64)), .cell (.clos 41 (.pr (.bptr 0 []) (.pr (.bptr 2 []) (.pr (.bptr 3 []) (.pr (.bptr 5 []) .un)))))]⟩ fun d => r41v1 d.1.1 d.2.2.1 d.2.2.2.1 d.2.2.2.2.2.1)) : CalleeOK Go.Proofs.Try.prog 41 (c41v1B N r41v1) :=
  fn_ok_mut (fn := Go.Proofs.Try.f41) (body := b41v1B) (c := x41v1B N r41v1) (rs := []) Go.Proofs.Try.func41 (by kernel_rfl) (by kernel_rfl) ⟨ttL_ok, mtL_ok, eqL_ok, ctL_ok, msL_ok, env_cons (forall_mem1 (k42 N)) (env_cons (forall_mem1 (h41v1)) (env_nil))⟩ mixed (by kernel_rfl) (Nat.le_of_ble_eq_true (by kernel_rfl)) (by kernel_rfl) (by kernel_rfl) (by kernel_rfl) (anchB_ok (by kernel_rfl))
    (loops_ok (by kernel_rfl : loopsOf b41v1B = [loopAt 3 (loopsOf b41v1B)]) (.cons (l41v1B_3 N r41v1) .nil)) fun d => e41v1B N r41v1 d.1.1 d.2.2.1 d.2.2.2.1 d.2.2.2.2.2.1
def f41v1R (N : Nat) (M : Nat) : Int → (List Int) → Int → (List (List Int)) → Option (((Unit × (Unit × (Unit × (Unit × Unit)))) × (Unit × ((List Int) × (Int × (Unit × ((List (List Int)) × ((Unit × (Unit × (Unit × (Unit × Unit)))) × Unit)))))))) := Nat.rec (motive := fun _ => Int → (List Int) → Int → (List (List Int)) → Option (((Unit × (Unit × (Unit × (Unit × Unit)))) × (Unit × ((List Int) × (Int × (Unit × ((List (List Int)) × ((Unit × (Unit × (Unit × (Unit × Unit)))) × Unit))))))))) (fun _ _ _ _ => none) (fun _ r => f41v1B N r) M
def f41v1 (N : Nat) (a0 : Int) (a1 : List Int) (a2 : Int) (a3 : List (List Int)) : Option (((Unit × (Unit × (Unit × (Unit × Unit)))) × (Unit × ((List Int) × (Int × (Unit × ((List (List Int)) × ((Unit × (Unit × (Unit × (Unit × Unit)))) × Unit)))))))) := f41v1R N N a0 a1 a2 a3
def c41v1 (N : Nat) : Callee := (.mut ⟨[(0, (.val (.int .i64))), (1, (.bptr 0 [])), (2, (.bptr 2 [])), (3, (.bptr 3 [])), (4, (.bptr 5 []))], [.cell (.ref 1), .row (.int .i64), .cell (.val (.int .i64)), .cell (.ref 4), .row (.sl false (.int .i64)), .cell (.clos 41 (.pr (.bptr 0 []) (.pr (.bptr 2 []) (.pr (.bptr 3 []) (.pr (.bptr 5 []) .un)))))]⟩ [1, 2, 3, 4] ⟨[(1, (.bptr 0 [])), (2, (.bptr 2 [])), (3, (.bptr 3 [])), (4, (.bptr 5 []))], [.cell (.ref 1), .row (.int .i64), .cell (.val (.int .i64)), .cell (.ref 4), .row (.sl false (.int .i64)), .cell (.clos 41 (.pr (.bptr 0 []) (.pr (.bptr 2 []) (.pr (.bptr 3 []) (.pr (.bptr 5 []) .un)))))]⟩ fun d => f41v1 N d.1.1 d.2.2.1 d.2.2.2.1 d.2.2.2.2.2.1)
theorem k41v1 (N : Nat) : CalleeOK Go.Proofs.Try.prog 41 (c41v1 N) :=
  have h : ∀ M : Nat, CalleeOK Go.Proofs.Try.prog 41 (.mut ⟨[(0, (.val (.int .i64))), (1, (.bptr 0 [])), (2, (.bptr 2 [])), (3, (.bptr 3 [])), (4, (.bptr 5 []))], [.cell (.ref 1), .row (.int .i64), .cell (.val (.int .i64)), .cell (.ref 4), .row (.sl false (.int .i64)), .cell (.clos 41 (.pr (.bptr 0 []) (.pr (.bptr 2 []) (.pr (.bptr 3 []) (.pr (.bptr 5 []) .un)))))]⟩ [1, 2, 3, 4] ⟨[(1, (.bptr 0 [])), (2, (.bptr 2 [])), (3, (.bptr 3 [])), (4, (.bptr 5 []))], [.cell (.ref 1), .row (.int .i64), .cell (.val (.int .i64)), .cell (.ref 4), .row (.sl false (.int .i64)), .cell (.clos 41 (.pr (.bptr 0 []) (.pr (.bptr 2 []) (.pr (.bptr 3 []) (.pr (.bptr 5 []) .un)))))]⟩ fun d => f41v1R N M d.1.1 d.2.2.1 d.2.2.2.1 d.2.2.2.2.2.1) := fun M => Nat.rec (motive := fun M => CalleeOK Go.Proofs.Try.prog 41 (.mut ⟨[(0, (.val (.int .i64))), (1, (.bptr 0 [])), (2, (.bptr 2 [])), (3, (.bptr 3 [])), (4, (.bptr 5 []))], [.cell (.ref 1), .row (.int .i64), .cell (.val (.int .i64)), .cell (.ref 4), .row (.sl false (.int .i64)), .cell (.clos 41 (.pr (.bptr 0 []) (.pr (.bptr 2 []) (.pr (.bptr 3 []) (.pr (.bptr 5 []) .un)))))]⟩ [1, 2, 3, 4] ⟨[(1, (.bptr 0 [])), (2, (.bptr 2 [])), (3, (.bptr 3 [])), (4, (.bptr 5 []))], [.cell (.ref 1), .row (.int .i64), .cell (.val (.int .i64)), .cell (.ref 4), .row (.sl false (.int .i64)), .cell (.clos 41 (.pr (.bptr 0 []) (.pr (.bptr 2 []) (.pr (.bptr 3 []) (.pr (.bptr 5 []) .un)))))]⟩ fun d => f41v1R N M d.1.1 d.2.2.1 d.2.2.2.1 d.2.2.2.2.2.1)) (callee_noneM fun _ => rfl) (fun M ih => k41v1B N _ ih) M
  h N
def f41_L3 {R : Type} (N : Nat) (t0_1 : Int) (kb : Int × List Int × Int × List (List Int) → Option R) (kx0 : (List Int) → Int → (List (List Int)) → Option R) : Int × List Int × Int × List (List Int) → Option R :=
  fun (t6, o1_1, o3, o5) =>
    cond (decide (t6 ≤ t0_1))
      (chk (decide ((Nat.succ (List.length o1_1)) ≤ room)) <|
      (f41v1 N (maxI t0_1 (wi64 (t6 + 1))) (o1_1 ++ (t6 :: ([] : List Int))) o3 o5).bind fun r_1 =>
      chk ((decide (0 ≤ (wi64 ((len r_1.2.2.1) - 1)))) && (decide ((wi64 ((len r_1.2.2.1) - 1)) ≤ (len r_1.2.2.1)))) <|
      kb ((wi64 (t6 + 1)), (sub r_1.2.2.1 0 (wi64 ((len r_1.2.2.1) - 1))), r_1.2.2.2.1, r_1.2.2.2.2.2.1))
      (kx0 o1_1 o3 o5)
def f41 (N : Nat) (t0 : Int) (o1 : List Int) (o2 : Int) : Option (((Unit × (Unit × (Unit × (Unit × Unit)))) × (Unit × ((List Int) × (Int × (Unit × ((List (List Int)) × ((Unit × (Unit × (Unit × (Unit × Unit)))) × Unit)))))))) :=
  cond (decide ((len o1) = o2))
    ((f42 N o1).bind fun r =>
    chk (decide (1 ≤ room)) <|
    some (((), ((), ((), ((), ())))), ((), (o1, (o2, ((), ((r :: ([] : List (List Int))), (((), ((), ((), ((), ())))), ()))))))))
    (iter (fun w => f41_L3 N t0 w
      (fun o1_2 o2_1 o4 =>
        some (((), ((), ((), ((), ())))), ((), (o1_2, (o2_1, ((), (o4, (((), ((), ((), ((), ())))), ()))))))))) N (0, o1, o2, ([] : List (List Int))))
def fi41 : SForm := ⟨[(0, (.val (.int .i64))), (1, (.bptr 0 [])), (2, (.bptr 2 [])), (3, (.bptr 3 [])), (4, (.bptr 4 []))], [.cell (.ref 1), .row (.int .i64), .cell (.val (.int .i64)), .cell .nilS, .cell (.clos 41 (.pr (.bptr 0 []) (.pr (.bptr 2 []) (.pr (.bptr 3 []) (.pr (.bptr 4 []) .un)))))]⟩
def fo41 : SForm := ⟨[(1, (.bptr 0 [])), (2, (.bptr 2 [])), (3, (.bptr 3 [])), (4, (.bptr 5 []))], [.cell (.ref 1), .row (.int .i64), .cell (.val (.int .i64)), .cell (.ref 4), .row (.sl false (.int .i64)), .cell (.clos 41 (.pr (.bptr 0 []) (.pr (.bptr 2 []) (.pr (.bptr 3 []) (.pr (.bptr 5 []) .un)))))]⟩
def c41 (N : Nat) : Callee := .mut fi41 [1, 2, 3, 4] fo41 fun d => f41 N d.1.1 d.2.2.1 d.2.2.2.1
def F41_3 : SForm := ⟨[(6, (.val (.int .i64))), (1, (.bptr 0 [])), (0, (.val (.int .i64))), (4, (.bptr 2 [])), (2, (.bptr 3 [])), (3, (.bptr 4 []))], [.cell (.ref 1), .row (.int .i64), .cell (.clos 41 (.pr (.bptr 0 []) (.pr (.bptr 3 []) (.pr (.bptr 4 []) (.pr (.bptr 2 []) .un))))), .cell (.val (.int .i64)), .cell (.ref 5), .row (.sl false (.int .i64))]⟩
def G41_3 (N : Nat) : (R : Type) → F41_3.den → (AExit → St → Option R) → Option R := fun R d k => iter (fun kb => f41_L3 N d.1.2.2.1 kb
    (fun y0 y1 y2 => k (.exit 0) (St.of [(1, (.bptr 0 [])), (2, (.bptr 2 [])), (3, (.bptr 3 [])), (4, (.bptr 5 []))] [.cell (.ref 1 [] 0), .row (.int .i64) y0 0, .cell (.data (.int .i64) y1), .cell (.ref 4 [] 0), .row (.sl false (.int .i64)) y2 0, .cell (.clos 41 (.pr (.bptr 0 []) (.pr (.bptr 2 []) (.pr (.bptr 3 []) (.pr (.bptr 5 []) .un)))))]))) N (d.1.1, d.2.2.1, d.2.2.2.2.1, d.2.2.2.2.2.2.1)
def lp41 (N : Nat) : Nat → Option LoopFn := fun r => cond (Nat.beq r 3) (some fun R sl os k => F41_3.take sl os fun d => G41_3 N R d k) (none)
def x41 (N : Nat) : Ctx := { fuel := N, tt := getL ttL, mt := getL mtL, ntmps := 36, env := fun f => (getL [(42, [c42 N]), (41, [c41v1 N])] f).getD [], cut := getL [(3, ⟨[6, 1, 0, 4, 2, 3], [(1, some [], .row (.int .i64)), (3, some [], .row (.sl false (.int .i64)))]⟩)], exits := fun r => getL ((getL [(3, [(0, ⟨[1, 2, 3, 4], []⟩)])] r).getD []), res := ⟨[1, 2, 3, 4], [(3, some [], .row (.sl false (.int .i64)))]⟩, own := fun _ => none, lp := lp41 N, eqs := fun T => memN T eqL, ct := fun T => memN T ctL, ms := getMs msL }
noncomputable def b41 : Code := ((Go.Proofs.Try.f41).body).getD .skip
theorem s41_3 (N : Nat) {R : Type} (k : AExit → St → Option R) (t0_1 : Int) (kb : List (Nat × AVal) → List Obj → Option R) (x : Int × List Int × Int × List (List Int)) : codeK (x41 N) (loopAt 3 (loopsOf b41)) (St.of [(6, (.data (.int .i64) x.1)), (1, (.bptr 0 [])), (0, (.data (.int .i64) t0_1)), (4, (.bptr 2 [])), (2, (.bptr 3 [])), (3, (.bptr 4 []))] [.cell (.ref 1 [] 0), .row (.int .i64) x.2.1 0, .cell (.clos 41 (.pr (.bptr 0 []) (.pr (.bptr 3 []) (.pr (.bptr 4 []) (.pr (.bptr 2 []) .un))))), .cell (.data (.int .i64) x.2.2.1), .cell (.ref 5 [] 0), .row (.sl false (.int .i64)) x.2.2.2 0]) (kLoop (x41 N) 3 ⟨[6, 1, 0, 4, 2, 3], [(1, some [], .row (.int .i64)), (3, some [], .row (.sl false (.int .i64)))]⟩ kb k) = f41_L3 N t0_1 (fun y => kb [(6, (.data (.int .i64) y.1)), (1, (.bptr 0 [])), (0, (.data (.int .i64) t0_1)), (4, (.bptr 2 [])), (2, (.bptr 3 [])), (3, (.bptr 4 []))] [.cell (.ref 1 [] 0), .row (.int .i64) y.2.1 0, .cell (.clos 41 (.pr (.bptr 0 []) (.pr (.bptr 3 []) (.pr (.bptr 4 []) (.pr (.bptr 2 []) .un))))), .cell (.data (.int .i64) y.2.2.1), .cell (.ref 5 [] 0), .row (.sl false (.int .i64)) y.2.2.2 0])
    (fun y0 y1 y2 => k (.exit 0) (St.of [(1, (.bptr 0 [])), (2, (.bptr 2 [])), (3, (.bptr 3 [])), (4, (.bptr 5 []))] [.cell (.ref 1 [] 0), .row (.int .i64) y0 0, .cell (.data (.int .i64) y1), .cell (.ref 4 [] 0), .row (.sl false (.int .i64)) y2 0, .cell (.clos 41 (.pr (.bptr 0 []) (.pr (.bptr 2 []) (.pr (.bptr 3 []) (.pr (.bptr 5 []) .un)))))])) x := by kernel_rfl
theorem l41_3 (N : Nat) : LoopOK (x41 N) (loopAt 3 (loopsOf b41)) :=
  loop_mk (G41_3 N) (by kernel_rfl) (by kernel_rfl) (by kernel_rfl) fun R k d =>
    loop_eq (st := fun (x : Int × List Int × Int × List (List Int)) => ([(6, (.data (.int .i64) x.1)), (1, (.bptr 0 [])), (0, (.data (.int .i64) d.1.2.2.1)), (4, (.bptr 2 [])), (2, (.bptr 3 [])), (3, (.bptr 4 []))], [.cell (.ref 1 [] 0), .row (.int .i64) x.2.1 0, .cell (.clos 41 (.pr (.bptr 0 []) (.pr (.bptr 3 []) (.pr (.bptr 4 []) (.pr (.bptr 2 []) .un))))), .cell (.data (.int .i64) x.2.2.1), .cell (.ref 5 [] 0), .row (.sl false (.int .i64)) x.2.2.2 0])) (s41_3 N k d.1.2.2.1) N (d.1.1, d.2.2.1, d.2.2.2.2.1, d.2.2.2.2.2.2.1)
theorem e41 (N : Nat) (t0 : Int) (o1 : List Int) (o2 : Int) : bodyM (x41 N) fo41 b41 (St.of [(0, (.data (.int .i64) t0)), (1, (.bptr 0 [])), (2, (.bptr 2 [])), (3, (.bptr 3 [])), (4, (.bptr 4 []))] [.cell (.ref 1 [] 0), .row (.int .i64) o1 0, .cell (.data (.int .i64) o2), .cell .nilS, .cell (.clos 41 (.pr (.bptr 0 []) (.pr (.bptr 2 []) (.pr (.bptr 3 []) (.pr (.bptr 4 []) .un)))))]) = f41 N t0 o1 o2 := by kernel_rfl
theorem k41 (N : Nat) : CalleeOK Go.Proofs.Try.prog 41 (c41 N) :=
  fn_ok_mut (fn := Go.Proofs.Try.f41) (body := b41) (c := x41 N) (rs := []) Go.Proofs.Try.func41 (by kernel_rfl) (by kernel_rfl) ⟨ttL_ok, mtL_ok, eqL_ok, ctL_ok, msL_ok, env_cons (forall_mem1 (k42 N)) (env_cons (forall_mem1 (k41v1 N)) (env_nil))⟩ mixed (by kernel_rfl) (Nat.le_of_ble_eq_true (by kernel_rfl)) (by kernel_rfl) (by kernel_rfl) (by kernel_rfl) (anchB_ok (by kernel_rfl))
    (loops_ok (by kernel_rfl : loopsOf b41 = [loopAt 3 (loopsOf b41)]) (.cons (l41_3 N) .nil)) fun d => e41 N d.1.1 d.2.2.1 d.2.2.2.1
def f36 (N : Nat) (a0 : Int) : Option (List (List Int) × Int) :=
  cond (decide (a0 < 0))
    (some (([] : List (List Int)), 1))
    (cond (decide (8 < a0))
      (some (([] : List (List Int)), 4))
      (chk ((decide (0 ≤ a0)) && (decide (a0 ≤ ((room : Nat) : Int)))) <|
      (f41 N 0 (List.replicate (Int.toNat 0) 0 : List Int) a0).bind fun r =>
      some (r.2.2.2.2.2.1, 0)))
def c36 (N : Nat) : Callee := .pure (.pr (.val (.int .i64)) .un) [(.sl false (.sl false (.int .i64))), (.int .i64)] fun d => f36 N d.1
def lp36 (N : Nat) : Nat → Option LoopFn := fun r => none
def x36 (N : Nat) : Ctx := { fuel := N, tt := getL ttL, mt := getL mtL, ntmps := 17, env := fun f => (getL [(41, [c41 N])] f).getD [], cut := getL [], exits := fun r => getL ((getL [] r).getD []), res := ⟨[2, 3], []⟩, own := fun _ => none, lp := lp36 N, eqs := fun T => memN T eqL, ct := fun T => memN T ctL, ms := getMs msL }
noncomputable def b36 : Code := ((Go.Proofs.Try.f36).body).getD .skip
theorem e36 (N : Nat) (a0 : Int) : bodyK (x36 N) [(.sl false (.sl false (.int .i64))), (.int .i64)] [.tmp 2, .tmp 3] b36 (entry (.pr (.val (.int .i64)) .un) (a0, ())) = f36 N a0 := by kernel_rfl
theorem k36 (N : Nat) : CalleeOK Go.Proofs.Try.prog 36 (c36 N) :=
  fn_ok (fn := Go.Proofs.Try.f36) (body := b36) (c := x36 N) Go.Proofs.Try.func36 (by kernel_rfl) (by kernel_rfl) ⟨ttL_ok, mtL_ok, eqL_ok, ctL_ok, msL_ok, env_cons (forall_mem1 (k41 N)) (env_nil)⟩ mixed (by kernel_rfl) (Nat.le_of_ble_eq_true (by kernel_rfl)) (by kernel_rfl) (by decide)
    (loops_ok (by kernel_rfl : loopsOf b36 = []) .nil) fun d => e36 N d.1
def f15_L3 {R : Type} (N : Nat) (t0 : List Int) (kb : Int × Int → Option R) (kret : Bool → Option R) (kx0 : Unit → Option R) : Int × Int → Option R :=
  fun (t4, t3) =>
    cond (decide (t4 < (len t0)))
      ((idx t0 t4).bind fun x =>
      (cond (decide (x < 0))
          (some true)
          ((idx t0 t4).bind fun x_1 =>
          some (decide (t3 < x_1)))).bind fun b =>
      cond b
        (kret false)
        ((idx t0 t4).bind fun x_2 =>
        cond (decide (x_2 = t3))
          (kb ((wi64 (t4 + 1)), (wi64 (t3 + 1))))
          (kb ((wi64 (t4 + 1)), t3))))
      (kx0 ())
def f15 (N : Nat) (a0 : List Int) : Option (Bool) :=
  iter (fun w => f15_L3 N a0 w
    (fun t2 =>
      some t2)
    (fun (_ : Unit) =>
      some true)) N (0, 0)
def c15 (N : Nat) : Callee := .pure (.pr (.val (.sl false (.int .i64))) .un) [.bool] fun d => f15 N d.1
def F15_3 : SForm := ⟨[(4, (.val (.int .i64))), (3, (.val (.int .i64))), (0, (.val (.sl false (.int .i64))))], []⟩
def G15_3 (N : Nat) : (R : Type) → F15_3.den → (AExit → St → Option R) → Option R := fun R d k => iter (fun kb => f15_L3 N d.1.2.2.1 kb
    (fun y0 => k .ret (St.of [(2, (.data .bool y0))] []))
    (fun _ => k (.exit 0) (St.of [] []))) N (d.1.1, d.1.2.1)
def lp15 (N : Nat) : Nat → Option LoopFn := fun r => cond (Nat.beq r 3) (some fun R sl os k => F15_3.take sl os fun d => G15_3 N R d k) (none)
def x15 (N : Nat) : Ctx := { fuel := N, tt := getL ttL, mt := getL mtL, ntmps := 32, env := fun f => (getL [] f).getD [], cut := getL [(3, ⟨[4, 3, 0], []⟩)], exits := fun r => getL ((getL [(3, [(0, ⟨[], []⟩)])] r).getD []), res := ⟨[2], []⟩, own := fun _ => none, lp := lp15 N, eqs := fun T => memN T eqL, ct := fun T => memN T ctL, ms := getMs msL }
noncomputable def b15 : Code := ((Go.Proofs.Try.f15).body).getD .skip
theorem s15_3 (N : Nat) {R : Type} (k : AExit → St → Option R) (t0 : List Int) (kb : List (Nat × AVal) → List Obj → Option R) (x : Int × Int) : codeK (x15 N) (loopAt 3 (loopsOf b15)) (St.of [(4, (.data (.int .i64) x.1)), (3, (.data (.int .i64) x.2)), (0, (.data (.sl false (.int .i64)) t0))] []) (kLoop (x15 N) 3 ⟨[4, 3, 0], []⟩ kb k) = f15_L3 N t0 (fun y => kb [(4, (.data (.int .i64) y.1)), (3, (.data (.int .i64) y.2)), (0, (.data (.sl false (.int .i64)) t0))] [])
    (fun y0 => k .ret (St.of [(2, (.data .bool y0))] []))
    (fun _ => k (.exit 0) (St.of [] [])) x := by kernel_rfl
theorem l15_3 (N : Nat) : LoopOK (x15 N) (loopAt 3 (loopsOf b15)) :=
  loop_mk (G15_3 N) (by kernel_rfl) (by kernel_rfl) (by kernel_rfl) fun R k d =>
    loop_eq (st := fun (x : Int × Int) => ([(4, (.data (.int .i64) x.1)), (3, (.data (.int .i64) x.2)), (0, (.data (.sl false (.int .i64)) d.1.2.2.1))], [])) (s15_3 N k d.1.2.2.1) N (d.1.1, d.1.2.1)
theorem e15 (N : Nat) (a0 : List Int) : bodyK (x15 N) [.bool] [.tmp 2] b15 (entry (.pr (.val (.sl false (.int .i64))) .un) (a0, ())) = f15 N a0 := by kernel_rfl
theorem k15 (N : Nat) : CalleeOK Go.Proofs.Try.prog 15 (c15 N) :=
  fn_ok (fn := Go.Proofs.Try.f15) (body := b15) (c := x15 N) Go.Proofs.Try.func15 (by kernel_rfl) (by kernel_rfl) ⟨ttL_ok, mtL_ok, eqL_ok, ctL_ok, msL_ok, env_nil⟩ mixed (by kernel_rfl) (Nat.le_of_ble_eq_true (by kernel_rfl)) (by kernel_rfl) (by decide)
    (loops_ok (by kernel_rfl : loopsOf b15 = [loopAt 3 (loopsOf b15)]) (.cons (l15_3 N) .nil)) fun d => e15 N d.1
def f44 (N : Nat) (a0 : Int) : Option (Bool) :=
  some (!(decide (a0 = a0)))
def c44 (N : Nat) : Callee := .pure (.pr (.val (.int .i64)) .un) [.bool] fun d => f44 N d.1
def lp44 (N : Nat) : Nat → Option LoopFn := fun r => none
def x44 (N : Nat) : Ctx := { fuel := N, tt := getL ttL, mt := getL mtL, ntmps := 6, env := fun f => (getL [] f).getD [], cut := getL [], exits := fun r => getL ((getL [] r).getD []), res := ⟨[2], []⟩, own := fun _ => none, lp := lp44 N, eqs := fun T => memN T eqL, ct := fun T => memN T ctL, ms := getMs msL }
noncomputable def b44 : Code := ((Go.Proofs.Try.f44).body).getD .skip
theorem e44 (N : Nat) (a0 : Int) : bodyK (x44 N) [.bool] [.tmp 2] b44 (entry (.pr (.val (.int .i64)) .un) (a0, ())) = f44 N a0 := by kernel_rfl
theorem k44 (N : Nat) : CalleeOK Go.Proofs.Try.prog 44 (c44 N) :=
  fn_ok (fn := Go.Proofs.Try.f44) (body := b44) (c := x44 N) Go.Proofs.Try.func44 (by kernel_rfl) (by kernel_rfl) ⟨ttL_ok, mtL_ok, eqL_ok, ctL_ok, msL_ok, env_nil⟩ mixed (by kernel_rfl) (Nat.le_of_ble_eq_true (by kernel_rfl)) (by kernel_rfl) (by decide)
    (loops_ok (by kernel_rfl : loopsOf b44 = []) .nil) fun d => e44 N d.1
def f43 (N : Nat) (a0 : Int) (a1 : Int) : Option (Int) :=
  (f44 N a0).bind fun r =>
  (f44 N a1).bind fun r_1 =>
  cond r
    (cond r_1
      (some 0)
      (some (-1)))
    (cond r_1
      (some 1)
      (cond (decide (a0 < a1))
        (some (-1))
        (cond (decide (a1 < a0))
          (some 1)
          (some 0))))
def c43 (N : Nat) : Callee := .pure (.pr (.val (.int .i64)) (.pr (.val (.int .i64)) .un)) [(.int .i64)] fun d => f43 N d.1 d.2.1
def lp43 (N : Nat) : Nat → Option LoopFn := fun r => none
def x43 (N : Nat) : Ctx := { fuel := N, tt := getL ttL, mt := getL mtL, ntmps := 20, env := fun f => (getL [(44, [c44 N])] f).getD [], cut := getL [], exits := fun r => getL ((getL [] r).getD []), res := ⟨[4], []⟩, own := fun _ => none, lp := lp43 N, eqs := fun T => memN T eqL, ct := fun T => memN T ctL, ms := getMs msL }
noncomputable def b43 : Code := ((Go.Proofs.Try.f43).body).getD .skip
theorem e43 (N : Nat) (a0 : Int) (a1 : Int) : bodyK (x43 N) [(.int .i64)] [.tmp 4] b43 (entry (.pr (.val (.int .i64)) (.pr (.val (.int .i64)) .un)) (a0, (a1, ()))) = f43 N a0 a1 := by kernel_rfl
theorem k43 (N : Nat) : CalleeOK Go.Proofs.Try.prog 43 (c43 N) :=
  fn_ok (fn := Go.Proofs.Try.f43) (body := b43) (c := x43 N) Go.Proofs.Try.func43 (by kernel_rfl) (by kernel_rfl) ⟨ttL_ok, mtL_ok, eqL_ok, ctL_ok, msL_ok, env_cons (forall_mem1 (k44 N)) (env_nil)⟩ mixed (by kernel_rfl) (Nat.le_of_ble_eq_true (by kernel_rfl)) (by kernel_rfl) (by decide)
    (loops_ok (by kernel_rfl : loopsOf b43 = []) .nil) fun d => e43 N d.1 d.2.1
def f37_L2 {R : Type} (N : Nat) (t1 : List Int) (t9 : List Int) (t0 : List Int) (t10 : Int) (kb : Int → Option R) (kret : Int → Option R) (kx0 : Unit → Option R) : Int → Option R :=
  fun t11 =>
    cond (decide (t11 < t10))
      ((idx t9 t11).bind fun x =>
      cond (decide ((len t1) ≤ t11))
        (kret 1)
        ((idx t1 t11).bind fun x_1 =>
        (f43 N x x_1).bind fun r =>
        cond (!(decide (r = 0)))
          (kret r)
          (kb (wi64 (t11 + 1)))))
      (kx0 ())
def f37 (N : Nat) (a0 : List Int) (a1 : List Int) : Option (Int) :=
  iter (fun w => f37_L2 N a1 a0 a0 (len a0) w
    (fun t4 =>
      some t4)
    (fun (_ : Unit) =>
      cond (decide ((len a0) < (len a1)))
        (some (-1))
        (some 0))) N 0
def c37 (N : Nat) : Callee := .pure (.pr (.val (.sl false (.int .i64))) (.pr (.val (.sl false (.int .i64))) .un)) [(.int .i64)] fun d => f37 N d.1 d.2.1
def F37_2 : SForm := ⟨[(11, (.val (.int .i64))), (1, (.val (.sl false (.int .i64)))), (9, (.val (.sl false (.int .i64)))), (0, (.val (.sl false (.int .i64)))), (10, (.val (.int .i64)))], []⟩
def G37_2 (N : Nat) : (R : Type) → F37_2.den → (AExit → St → Option R) → Option R := fun R d k => iter (fun kb => f37_L2 N d.1.2.1 d.1.2.2.1 d.1.2.2.2.1 d.1.2.2.2.2.1 kb
    (fun y0 => k .ret (St.of [(4, (.data (.int .i64) y0))] []))
    (fun _ => k (.exit 0) (St.of [(1, (.data (.sl false (.int .i64)) d.1.2.1)), (0, (.data (.sl false (.int .i64)) d.1.2.2.2.1))] []))) N d.1.1
def lp37 (N : Nat) : Nat → Option LoopFn := fun r => cond (Nat.beq r 2) (some fun R sl os k => F37_2.take sl os fun d => G37_2 N R d k) (none)
def x37 (N : Nat) : Ctx := { fuel := N, tt := getL ttL, mt := getL mtL, ntmps := 36, env := fun f => (getL [(43, [c43 N])] f).getD [], cut := getL [(2, ⟨[11, 1, 9, 0, 10], []⟩)], exits := fun r => getL ((getL [(2, [(0, ⟨[1, 0], []⟩)])] r).getD []), res := ⟨[4], []⟩, own := fun _ => none, lp := lp37 N, eqs := fun T => memN T eqL, ct := fun T => memN T ctL, ms := getMs msL }
noncomputable def b37 : Code := ((Go.Proofs.Try.f37).body).getD .skip
theorem s37_2 (N : Nat) {R : Type} (k : AExit → St → Option R) (t1 : List Int) (t9 : List Int) (t0 : List Int) (t10 : Int) (kb : List (Nat × AVal) → List Obj → Option R) (x : Int) : codeK (x37 N) (loopAt 2 (loopsOf b37)) (St.of [(11, (.data (.int .i64) x)), (1, (.data (.sl false (.int .i64)) t1)), (9, (.data (.sl false (.int .i64)) t9)), (0, (.data (.sl false (.int .i64)) t0)), (10, (.data (.int .i64) t10))] []) (kLoop (x37 N) 2 ⟨[11, 1, 9, 0, 10], []⟩ kb k) = f37_L2 N t1 t9 t0 t10 (fun y => kb [(11, (.data (.int .i64) y)), (1, (.data (.sl false (.int .i64)) t1)), (9, (.data (.sl false (.int .i64)) t9)), (0, (.data (.sl false (.int .i64)) t0)), (10, (.data (.int .i64) t10))] [])
    (fun y0 => k .ret (St.of [(4, (.data (.int .i64) y0))] []))
    (fun _ => k (.exit 0) (St.of [(1, (.data (.sl false (.int .i64)) t1)), (0, (.data (.sl false (.int .i64)) t0))] [])) x := by kernel_rfl
theorem l37_2 (N : Nat) : LoopOK (x37 N) (loopAt 2 (loopsOf b37)) :=
  loop_mk (G37_2 N) (by kernel_rfl) (by kernel_rfl) (by kernel_rfl) fun R k d =>
    loop_eq (st := fun (x : Int) => ([(11, (.data (.int .i64) x)), (1, (.data (.sl false (.int .i64)) d.1.2.1)), (9, (.data (.sl false (.int .i64)) d.1.2.2.1)), (0, (.data (.sl false (.int .i64)) d.1.2.2.2.1)), (10, (.data (.int .i64) d.1.2.2.2.2.1))], [])) (s37_2 N k d.1.2.1 d.1.2.2.1 d.1.2.2.2.1 d.1.2.2.2.2.1) N d.1.1
theorem e37 (N : Nat) (a0 : List Int) (a1 : List Int) : bodyK (x37 N) [(.int .i64)] [.tmp 4] b37 (entry (.pr (.val (.sl false (.int .i64))) (.pr (.val (.sl false (.int .i64))) .un)) (a0, (a1, ()))) = f37 N a0 a1 := by kernel_rfl
theorem k37 (N : Nat) : CalleeOK Go.Proofs.Try.prog 37 (c37 N) :=
  fn_ok (fn := Go.Proofs.Try.f37) (body := b37) (c := x37 N) Go.Proofs.Try.func37 (by kernel_rfl) (by kernel_rfl) ⟨ttL_ok, mtL_ok, eqL_ok, ctL_ok, msL_ok, env_cons (forall_mem1 (k43 N)) (env_nil)⟩ mixed (by kernel_rfl) (Nat.le_of_ble_eq_true (by kernel_rfl)) (by kernel_rfl) (by decide)
    (loops_ok (by kernel_rfl : loopsOf b37 = [loopAt 2 (loopsOf b37)]) (.cons (l37_2 N) .nil)) fun d => e37 N d.1 d.2.1
def f9_L11 {R : Type} (N : Nat) (t1 : List Int) (t5 : List (List Int)) (t0 : Int) (t55 : List (List Int)) (t56 : Int) (kb : Int × Bool → Option R) (kret : Bool → Option R) (kx0 : Bool → Option R) : Int × Bool → Option R :=
  fun (t57, t8) =>
    cond (decide (t57 < t56))
      ((idx t55 t57).bind fun x_1 =>
      (cond (!(decide ((len x_1) = t0)))
          (some true)
          ((f15 N x_1).bind fun r_2 =>
          some (!r_2))).bind fun b_6 =>
      (cond b_6
          (some true)
          ((cond (decide (0 < t57))
              ((idx t5 (wi64 (t57 - 1))).bind fun x_2 =>
              (f37 N x_2 x_1).bind fun r_3 =>
              some (decide (0 ≤ r_3)))
              (some false)).bind fun b_7 =>
          some b_7)).bind fun b_8 =>
      cond b_8
        (kret false)
        ((cond t8
            (some true)
            ((f12 N t1 x_1).bind fun r_4 =>
            some r_4)).bind fun b_9 =>
        kb ((wi64 (t57 + 1)), b_9)))
      (kx0 t8)
def f9 (N : Nat) (a0 : Int) (a1 : List Int) : Option (Bool) :=
  (f10 N).bind fun r =>
  cond (!r)
    (some false)
    ((f36 N a0).bind fun r_1 =>
    (cond (decide (a0 < 0))
        (some true)
        (some (decide (8 < a0)))).bind fun b =>
    cond b
      ((cond (decide ((len r_1.1) = 0))
          ((cond (decide (a0 < 0))
              (some (decide (r_1.2 = 1)))
              (some false)).bind fun b_1 =>
          (cond b_1
              (some true)
              ((cond (decide (8 < a0))
                  (some (decide (r_1.2 = 4)))
                  (some false)).bind fun b_2 =>
              some b_2)).bind fun b_3 =>
          some b_3)
          (some false)).bind fun b_4 =>
      some b_4)
      ((cond (!(decide (r_1.2 = 0)))
          (some true)
          (chk (inb (1 :: (1 :: (2 :: (5 :: (15 :: (52 :: (203 :: (877 :: (4140 :: ([] : List Int)))))))))) a0) <|
          (idx (1 :: (1 :: (2 :: (5 :: (15 :: (52 :: (203 :: (877 :: (4140 :: ([] : List Int)))))))))) a0).bind fun x =>
          some (!(decide ((len r_1.1) = x))))).bind fun b_5 =>
      cond b_5
        (some false)
        (iter (fun w => f9_L11 N a1 r_1.1 a0 r_1.1 (len r_1.1) w
          (fun t4 =>
            some t4)
          (fun t8_1 =>
            (cond (decide ((len a1) = a0))
                ((f15 N a1).bind fun r_5 =>
                some r_5)
                (some false)).bind fun b_10 =>
            some (decide (t8_1 = b_10)))) N (0, false))))
def c9 (N : Nat) : Callee := .pure (.pr (.val (.int .i64)) (.pr (.val (.sl false (.int .i64))) .un)) [.bool] fun d => f9 N d.1 d.2.1
def F9_11 : SForm := ⟨[(57, (.val (.int .i64))), (1, (.val (.sl false (.int .i64)))), (8, (.val .bool)), (5, (.val (.sl false (.sl false (.int .i64))))), (0, (.val (.int .i64))), (55, (.val (.sl false (.sl false (.int .i64))))), (56, (.val (.int .i64)))], []⟩
def G9_11 (N : Nat) : (R : Type) → F9_11.den → (AExit → St → Option R) → Option R := fun R d k => iter (fun kb => f9_L11 N d.1.2.1 d.1.2.2.2.1 d.1.2.2.2.2.1 d.1.2.2.2.2.2.1 d.1.2.2.2.2.2.2.1 kb
    (fun y0 => k .ret (St.of [(4, (.data .bool y0))] []))
    (fun y2 => k (.exit 0) (St.of [(1, (.data (.sl false (.int .i64)) d.1.2.1)), (0, (.data (.int .i64) d.1.2.2.2.2.1)), (8, (.data .bool y2))] []))) N (d.1.1, d.1.2.2.1)
def lp9 (N : Nat) : Nat → Option LoopFn := fun r => cond (Nat.beq r 11) (some fun R sl os k => F9_11.take sl os fun d => G9_11 N R d k) (none)
def x9 (N : Nat) : Ctx := { fuel := N, tt := getL ttL, mt := getL mtL, ntmps := 102, env := fun f => (getL [(10, [c10 N]), (36, [c36 N]), (15, [c15 N]), (37, [c37 N]), (12, [c12 N])] f).getD [], cut := getL [(11, ⟨[57, 1, 8, 5, 0, 55, 56], []⟩)], exits := fun r => getL ((getL [(11, [(0, ⟨[1, 0, 8], []⟩)])] r).getD []), res := ⟨[4], []⟩, own := fun _ => none, lp := lp9 N, eqs := fun T => memN T eqL, ct := fun T => memN T ctL, ms := getMs msL }
noncomputable def b9 : Code := ((Go.Proofs.Try.f9).body).getD .skip
theorem s9_11 (N : Nat) {R : Type} (k : AExit → St → Option R) (t1 : List Int) (t5 : List (List Int)) (t0 : Int) (t55 : List (List Int)) (t56 : Int) (kb : List (Nat × AVal) → List Obj → Option R) (x : Int × Bool) : codeK (x9 N) (loopAt 11 (loopsOf b9)) (St.of [(57, (.data (.int .i64) x.1)), (1, (.data (.sl false (.int .i64)) t1)), (8, (.data .bool x.2)), (5, (.data (.sl false (.sl false (.int .i64))) t5)), (0, (.data (.int .i64) t0)), (55, (.data (.sl false (.sl false (.int .i64))) t55)), (56, (.data (.int .i64) t56))] []) (kLoop (x9 N) 11 ⟨[57, 1, 8, 5, 0, 55, 56], []⟩ kb k) = f9_L11 N t1 t5 t0 t55 t56 (fun y => kb [(57, (.data (.int .i64) y.1)), (1, (.data (.sl false (.int .i64)) t1)), (8, (.data .bool y.2)), (5, (.data (.sl false (.sl false (.int .i64))) t5)), (0, (.data (.int .i64) t0)), (55, (.data (.sl false (.sl false (.int .i64))) t55)), (56, (.data (.int .i64) t56))] [])
    (fun y0 => k .ret (St.of [(4, (.data .bool y0))] []))
    (fun y2 => k (.exit 0) (St.of [(1, (.data (.sl false (.int .i64)) t1)), (0, (.data (.int .i64) t0)), (8, (.data .bool y2))] [])) x := by kernel_rfl
theorem l9_11 (N : Nat) : LoopOK (x9 N) (loopAt 11 (loopsOf b9)) :=
  loop_mk (G9_11 N) (by kernel_rfl) (by kernel_rfl) (by kernel_rfl) fun R k d =>
    loop_eq (st := fun (x : Int × Bool) => ([(57, (.data (.int .i64) x.1)), (1, (.data (.sl false (.int .i64)) d.1.2.1)), (8, (.data .bool x.2)), (5, (.data (.sl false (.sl false (.int .i64))) d.1.2.2.2.1)), (0, (.data (.int .i64) d.1.2.2.2.2.1)), (55, (.data (.sl false (.sl false (.int .i64))) d.1.2.2.2.2.2.1)), (56, (.data (.int .i64) d.1.2.2.2.2.2.2.1))], [])) (s9_11 N k d.1.2.1 d.1.2.2.2.1 d.1.2.2.2.2.1 d.1.2.2.2.2.2.1 d.1.2.2.2.2.2.2.1) N (d.1.1, d.1.2.2.1)
theorem e9 (N : Nat) (a0 : Int) (a1 : List Int) : bodyK (x9 N) [.bool] [.tmp 4] b9 (entry (.pr (.val (.int .i64)) (.pr (.val (.sl false (.int .i64))) .un)) (a0, (a1, ()))) = f9 N a0 a1 := by kernel_rfl
theorem k9 (N : Nat) : CalleeOK Go.Proofs.Try.prog 9 (c9 N) :=
  fn_ok (fn := Go.Proofs.Try.f9) (body := b9) (c := x9 N) Go.Proofs.Try.func9 (by kernel_rfl) (by kernel_rfl) ⟨ttL_ok, mtL_ok, eqL_ok, ctL_ok, msL_ok, env_cons (forall_mem1 (k10 N)) (env_cons (forall_mem1 (k36 N)) (env_cons (forall_mem1 (k15 N)) (env_cons (forall_mem1 (k37 N)) (env_cons (forall_mem1 (k12 N)) (env_nil)))))⟩ mixed (by kernel_rfl) (Nat.le_of_ble_eq_true (by kernel_rfl)) (by kernel_rfl) (by decide)
    (loops_ok (by kernel_rfl : loopsOf b9 = [loopAt 11 (loopsOf b9)]) (.cons (l9_11 N) .nil)) fun d => e9 N d.1 d.2.1

end
end Go.Kz
