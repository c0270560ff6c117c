/-
  The functions of the program as plain functions on lists and numbers, and the proofs that the program computes them. Printed by a program.
-/
import Derived.Test.YtoccnkcnkcngjaaKzAJ
import Derived.Test.YtoccnkcnkcngjaaProg
set_option linter.unusedSimpArgs false
set_option maxRecDepth 100000
set_option linter.unusedVariables false
namespace Go.Kz
open Go.Proofs

def ttL : List (Nat × Ty) := [(2, (.int .i64)), (3, (.int .i64)), (4, .bool), (5, (.int .u8)), (6, (.int .u8)), (7, (.pair (.int .i64) (.pair (.int .i64) (.pair .bool (.pair (.int .u8) .unit))))), (8, (.pair (.int .i64) (.pair (.int .i64) (.pair .bool (.pair (.int .u8) .unit))))), (9, .str), (10, .str), (11, .str), (12, (.int .u64)), (13, (.pair .str (.pair (.int .u64) .unit))), (14, (.pair .str (.pair (.int .u64) .unit))), (21, (.int .i32)), (22, (.sl false (.int .i64))), (32, (.int .i64)), (40, (.sl false (.sl false (.int .i64)))), (59, (.int .u32)), (60, (.int .u8)), (61, (.int .u8)), (64, (.int .i32)), (65, (.int .i32))]
def mtL : List (Nat × Ty × Ty) := [(45, (.int .i64), (.int .i64))]

theorem ttL_ok : TtOK Try.prog (getL ttL) := ttB_ok (by kernel_rfl)
theorem mtL_ok : MtOK Try.prog (getL mtL) := mtB_ok (by kernel_rfl)
theorem mixed : Try.prog.follows .mixedOrders = true := by kernel_rfl

/-! ### 11: keyhole/partition.Of -/
def f11_L4 {R : Type} (N : Nat) (t13 : List Int) (t14 : Int) (kb : Int × List Int × (List (Int × Int)) → Option R) (kx0 : (List Int) → Option R) : Int × List Int × (List (Int × Int)) → Option R :=
  fun (t15, o0, o1) =>
    cond (decide (t15 < t14))
      ((idx t13 t15).bind fun x =>
      cond (!(Option.isSome (mget (keyEq (.int .i64)) o1 x)))
        (chk (decide ((List.length o1) ≤ room)) <|
        chk (decide ((o0.length.succ) ≤ room)) <|
        kb ((wi64 (t15 + 1)), (o0 ++ ((len o1) :: ([] : List Int))), (mput (keyEq (.int .i64)) o1 x (len o1))))
        (chk (decide ((o0.length.succ) ≤ room)) <|
        kb ((wi64 (t15 + 1)), (o0 ++ ((Option.getD (mget (keyEq (.int .i64)) o1 x) 0) :: ([] : List Int))), o1)))
      (kx0 o0)
def f11 (N : Nat) (a0 : List Int) : Option (List Int) :=
  chk ((decide (0 ≤ (len a0))) && (decide ((len a0) ≤ ((room : Nat) : Int)))) <|
  iter (fun w => f11_L4 N a0 (len a0) w
    (fun o0_1 =>
      some o0_1)) N (0, (List.replicate (Int.toNat 0) 0 : List Int), ([] : List (Int × Int)))
def c11 (N : Nat) : Callee := .pure (.pr (.val (.sl false (.int .i64))) .un) [(.sl true (.int .i64))] fun d => f11 N d.1
def F11_4 : SForm := ⟨[(15, (.val (.int .i64))), (4, (.ref 0)), (3, (.mref 1)), (13, (.val (.sl false (.int .i64)))), (14, (.val (.int .i64)))], [.row (.int .i64), .map (.int .i64) (.int .i64)]⟩
def G11_4 (N : Nat) : (R : Type) → F11_4.den → (AExit → St → Option R) → Option R := fun R d k => iter (fun kb => f11_L4 N d.1.2.2.2.1 d.1.2.2.2.2.1 kb
    (fun y0 => k (.exit 0) (St.of [(4, (.ref 0 [] 0))] [.row (.int .i64) y0 0]))) N (d.1.1, d.2.1, d.2.2.1)
def lp11 (N : Nat) : Nat → Option LoopFn := fun r => cond (Nat.beq r 4) (some fun R sl os k => F11_4.take sl os fun d => G11_4 N R d k) (none)
def x11 (N : Nat) : Ctx := { fuel := N, tt := getL ttL, mt := getL mtL, ntmps := 38, env := fun f => (getL [] f).getD [], cut := getL [(4, ⟨[15, 4, 3, 13, 14], []⟩)], exits := fun r => getL ((getL [(4, [(0, ⟨[4], []⟩)])] r).getD []), res := ⟨[2], []⟩, own := fun _ => none, lp := lp11 N }
noncomputable def b11 : Code := ((Go.Proofs.Try.f11).body).getD .skip
theorem s11_4 (N : Nat) {R : Type} (k : AExit → St → Option R) (t13 : List Int) (t14 : Int) (kb : List (Nat × AVal) → List Obj → Option R) (x : Int × List Int × (List (Int × Int))) : codeK (x11 N) (loopAt 4 (loopsOf b11)) (St.of [(15, (.data (.int .i64) x.1)), (4, (.ref 0 [] 0)), (3, (.mref 1)), (13, (.data (.sl false (.int .i64)) t13)), (14, (.data (.int .i64) t14))] [.row (.int .i64) x.2.1 0, .map (.int .i64) (.int .i64) x.2.2]) (kLoop (x11 N) 4 ⟨[15, 4, 3, 13, 14], []⟩ kb k) = f11_L4 N t13 t14 (fun y => kb [(15, (.data (.int .i64) y.1)), (4, (.ref 0 [] 0)), (3, (.mref 1)), (13, (.data (.sl false (.int .i64)) t13)), (14, (.data (.int .i64) t14))] [.row (.int .i64) y.2.1 0, .map (.int .i64) (.int .i64) y.2.2])
    (fun y0 => k (.exit 0) (St.of [(4, (.ref 0 [] 0))] [.row (.int .i64) y0 0])) x := by kernel_rfl
theorem l11_4 (N : Nat) : LoopOK (x11 N) (loopAt 4 (loopsOf b11)) :=
  loop_mk (G11_4 N) (by kernel_rfl) (by kernel_rfl) (by kernel_rfl) fun R k d =>
    loop_eq (st := fun (x : Int × List Int × (List (Int × Int))) => ([(15, (.data (.int .i64) x.1)), (4, (.ref 0 [] 0)), (3, (.mref 1)), (13, (.data (.sl false (.int .i64)) d.1.2.2.2.1)), (14, (.data (.int .i64) d.1.2.2.2.2.1))], [.row (.int .i64) x.2.1 0, .map (.int .i64) (.int .i64) x.2.2])) (s11_4 N k d.1.2.2.2.1 d.1.2.2.2.2.1) N (d.1.1, d.2.1, d.2.2.1)
theorem e11 (N : Nat) (a0 : List Int) : bodyK (x11 N) [(.sl true (.int .i64))] [.tmp 2] b11 (entry (.pr (.val (.sl false (.int .i64))) .un) (a0, ())) = f11 N a0 := by kernel_rfl
theorem k11 (N : Nat) : CalleeOK Go.Proofs.Try.prog 11 (c11 N) :=
  fn_ok (fn := Go.Proofs.Try.f11) (body := b11) (c := x11 N) Go.Proofs.Try.func11 (by kernel_rfl) (by kernel_rfl) ⟨ttL_ok, mtL_ok, env_nil⟩ mixed (by kernel_rfl) (Nat.le_of_ble_eq_true (by kernel_rfl)) (by kernel_rfl) (by decide)
    (loops_ok (by kernel_rfl : loopsOf b11 = [loopAt 4 (loopsOf b11)]) (.cons (l11_4 N) .nil)) fun d => e11 N d.1
/-! ### 14: keyhole/partition.Valid -/
def f14_L3 {R : Type} (N : Nat) (t6 : List Int) (t7 : Int) (kb : Int × Int → Option R) (kret : Bool → Option R) (kx0 : Unit → Option R) : Int × Int → Option R :=
  fun (t8, t3) =>
    cond (decide (t8 < t7))
      ((idx t6 t8).bind fun x =>
      (cond (decide (x < 0))
          (some true)
          (some (decide (t3 < x)))).bind fun b =>
      cond b
        (kret false)
        (kb ((wi64 (t8 + 1)), (maxI t3 (wi64 (x + 1))))))
      (kx0 ())
def f14 (N : Nat) (a0 : List Int) : Option (Bool) :=
  iter (fun w => f14_L3 N a0 (len a0) w
    (fun t2 =>
      some t2)
    (fun (_ : Unit) =>
      some true)) N (0, 0)
def c14 (N : Nat) : Callee := .pure (.pr (.val (.sl false (.int .i64))) .un) [.bool] fun d => f14 N d.1
def F14_3 : SForm := ⟨[(8, (.val (.int .i64))), (3, (.val (.int .i64))), (6, (.val (.sl false (.int .i64)))), (7, (.val (.int .i64)))], []⟩
def G14_3 (N : Nat) : (R : Type) → F14_3.den → (AExit → St → Option R) → Option R := fun R d k => iter (fun kb => f14_L3 N d.1.2.2.1 d.1.2.2.2.1 kb
    (fun y0 => k .ret (St.of [(2, (.data .bool y0))] []))
    (fun _ => k (.exit 0) (St.of [] []))) N (d.1.1, d.1.2.1)
def lp14 (N : Nat) : Nat → Option LoopFn := fun r => cond (Nat.beq r 3) (some fun R sl os k => F14_3.take sl os fun d => G14_3 N R d k) (none)
def x14 (N : Nat) : Ctx := { fuel := N, tt := getL ttL, mt := getL mtL, ntmps := 24, env := fun f => (getL [] f).getD [], cut := getL [(3, ⟨[8, 3, 6, 7], []⟩)], exits := fun r => getL ((getL [(3, [(0, ⟨[], []⟩)])] r).getD []), res := ⟨[2], []⟩, own := fun _ => none, lp := lp14 N }
noncomputable def b14 : Code := ((Go.Proofs.Try.f14).body).getD .skip
theorem s14_3 (N : Nat) {R : Type} (k : AExit → St → Option R) (t6 : List Int) (t7 : Int) (kb : List (Nat × AVal) → List Obj → Option R) (x : Int × Int) : codeK (x14 N) (loopAt 3 (loopsOf b14)) (St.of [(8, (.data (.int .i64) x.1)), (3, (.data (.int .i64) x.2)), (6, (.data (.sl false (.int .i64)) t6)), (7, (.data (.int .i64) t7))] []) (kLoop (x14 N) 3 ⟨[8, 3, 6, 7], []⟩ kb k) = f14_L3 N t6 t7 (fun y => kb [(8, (.data (.int .i64) y.1)), (3, (.data (.int .i64) y.2)), (6, (.data (.sl false (.int .i64)) t6)), (7, (.data (.int .i64) t7))] [])
    (fun y0 => k .ret (St.of [(2, (.data .bool y0))] []))
    (fun _ => k (.exit 0) (St.of [] [])) x := by kernel_rfl
theorem l14_3 (N : Nat) : LoopOK (x14 N) (loopAt 3 (loopsOf b14)) :=
  loop_mk (G14_3 N) (by kernel_rfl) (by kernel_rfl) (by kernel_rfl) fun R k d =>
    loop_eq (st := fun (x : Int × Int) => ([(8, (.data (.int .i64) x.1)), (3, (.data (.int .i64) x.2)), (6, (.data (.sl false (.int .i64)) d.1.2.2.1)), (7, (.data (.int .i64) d.1.2.2.2.1))], [])) (s14_3 N k d.1.2.2.1 d.1.2.2.2.1) N (d.1.1, d.1.2.1)
theorem e14 (N : Nat) (a0 : List Int) : bodyK (x14 N) [.bool] [.tmp 2] b14 (entry (.pr (.val (.sl false (.int .i64))) .un) (a0, ())) = f14 N a0 := by kernel_rfl
theorem k14 (N : Nat) : CalleeOK Go.Proofs.Try.prog 14 (c14 N) :=
  fn_ok (fn := Go.Proofs.Try.f14) (body := b14) (c := x14 N) Go.Proofs.Try.func14 (by kernel_rfl) (by kernel_rfl) ⟨ttL_ok, mtL_ok, env_nil⟩ mixed (by kernel_rfl) (Nat.le_of_ble_eq_true (by kernel_rfl)) (by kernel_rfl) (by decide)
    (loops_ok (by kernel_rfl : loopsOf b14 = [loopAt 3 (loopsOf b14)]) (.cons (l14_3 N) .nil)) fun d => e14 N d.1
/-! ### 38: keyhole/partition.two -/
def f38 (N : Nat) (a0 : List Int) (a1 : List Int) : Option (Int) :=
  (f14 N a0).bind fun r =>
  (cond (!r)
      (some true)
      ((f14 N a1).bind fun r_1 =>
      some (!r_1))).bind fun b =>
  cond b
    (some 1)
    (cond (!(decide ((len a0) = (len a1))))
      (some 2)
      (some 0))
def c38 (N : Nat) : Callee := .pure (.pr (.val (.sl false (.int .i64))) (.pr (.val (.sl false (.int .i64))) .un)) [(.int .i64)] fun d => f38 N d.1 d.2.1
def lp38 (N : Nat) : Nat → Option LoopFn := fun r => none
def x38 (N : Nat) : Ctx := { fuel := N, tt := getL ttL, mt := getL mtL, ntmps := 18, env := fun f => (getL [(14, [c14 N])] f).getD [], cut := getL [], exits := fun r => getL ((getL [] r).getD []), res := ⟨[4], []⟩, own := fun _ => none, lp := lp38 N }
noncomputable def b38 : Code := ((Go.Proofs.Try.f38).body).getD .skip
theorem e38 (N : Nat) (a0 : List Int) (a1 : List Int) : bodyK (x38 N) [(.int .i64)] [.tmp 4] b38 (entry (.pr (.val (.sl false (.int .i64))) (.pr (.val (.sl false (.int .i64))) .un)) (a0, (a1, ()))) = f38 N a0 a1 := by kernel_rfl
theorem k38 (N : Nat) : CalleeOK Go.Proofs.Try.prog 38 (c38 N) :=
  fn_ok (fn := Go.Proofs.Try.f38) (body := b38) (c := x38 N) Go.Proofs.Try.func38 (by kernel_rfl) (by kernel_rfl) ⟨ttL_ok, mtL_ok, env_cons (forall_mem1 (k14 N)) (env_nil)⟩ mixed (by kernel_rfl) (Nat.le_of_ble_eq_true (by kernel_rfl)) (by kernel_rfl) (by decide)
    (loops_ok (by kernel_rfl : loopsOf b38 = []) .nil) fun d => e38 N d.1 d.2.1
/-! ### 19: keyhole/partition.Meet -/
def f19_L6 {R : Type} (N : Nat) (t1 : List Int) (t0 : List Int) (t19 : Int) (kb : Int × List Int → Option R) (kx0 : (List Int) → Option R) : Int × List Int → Option R :=
  fun (t20, o0) =>
    cond (decide (t20 < t19))
      ((idx t0 t20).bind fun x =>
      (idx t1 t20).bind fun x_1 =>
      chk (inb o0 t20) <|
      (idx o0 t20).bind fun x_2 =>
      (idx o0 t20).bind fun x_3 =>
      kb ((wi64 (t20 + 1)), (setI o0 t20 (wi64 ((wi64 (x * (wi64 ((len t0) + 1)))) + x_1)))))
      (kx0 o0)
def f19 (N : Nat) (a0 : List Int) (a1 : List Int) : Option (List Int × Int) :=
  (f38 N a0 a1).bind fun r =>
  cond (!(decide (r = 0)))
    (some (([] : List Int), r))
    (chk (((decide (0 ≤ (len a0))) && (decide ((len a0) ≤ (len a0)))) && (decide ((len a0) ≤ ((room : Nat) : Int)))) <|
    iter (fun w => f19_L6 N a1 a0 (len a0) w
      (fun o0_1 =>
        (f11 N o0_1).bind fun r_1 =>
        some (r_1, 0))) N (0, (List.replicate (Int.toNat (len a0)) 0 : List Int)))
def c19 (N : Nat) : Callee := .pure (.pr (.val (.sl false (.int .i64))) (.pr (.val (.sl false (.int .i64))) .un)) [(.sl true (.int .i64)), (.int .i64)] fun d => f19 N d.1 d.2.1
def F19_6 : SForm := ⟨[(20, (.val (.int .i64))), (1, (.val (.sl false (.int .i64)))), (0, (.val (.sl false (.int .i64)))), (7, (.ref 0)), (19, (.val (.int .i64)))], [.row (.int .i64)]⟩
def G19_6 (N : Nat) : (R : Type) → F19_6.den → (AExit → St → Option R) → Option R := fun R d k => iter (fun kb => f19_L6 N d.1.2.1 d.1.2.2.1 d.1.2.2.2.2.1 kb
    (fun y0 => k (.exit 0) (St.of [(7, (.ref 0 [] 0))] [.row (.int .i64) y0 0]))) N (d.1.1, d.2.1)
def lp19 (N : Nat) : Nat → Option LoopFn := fun r => cond (Nat.beq r 6) (some fun R sl os k => F19_6.take sl os fun d => G19_6 N R d k) (none)
def x19 (N : Nat) : Ctx := { fuel := N, tt := getL ttL, mt := getL mtL, ntmps := 42, env := fun f => (getL [(38, [c38 N]), (11, [c11 N])] f).getD [], cut := getL [(6, ⟨[20, 1, 0, 7, 19], []⟩)], exits := fun r => getL ((getL [(6, [(0, ⟨[7], []⟩)])] r).getD []), res := ⟨[4, 5], []⟩, own := fun _ => none, lp := lp19 N }
noncomputable def b19 : Code := ((Go.Proofs.Try.f19).body).getD .skip
theorem s19_6 (N : Nat) {R : Type} (k : AExit → St → Option R) (t1 : List Int) (t0 : List Int) (t19 : Int) (kb : List (Nat × AVal) → List Obj → Option R) (x : Int × List Int) : codeK (x19 N) (loopAt 6 (loopsOf b19)) (St.of [(20, (.data (.int .i64) x.1)), (1, (.data (.sl false (.int .i64)) t1)), (0, (.data (.sl false (.int .i64)) t0)), (7, (.ref 0 [] 0)), (19, (.data (.int .i64) t19))] [.row (.int .i64) x.2 0]) (kLoop (x19 N) 6 ⟨[20, 1, 0, 7, 19], []⟩ kb k) = f19_L6 N t1 t0 t19 (fun y => kb [(20, (.data (.int .i64) y.1)), (1, (.data (.sl false (.int .i64)) t1)), (0, (.data (.sl false (.int .i64)) t0)), (7, (.ref 0 [] 0)), (19, (.data (.int .i64) t19))] [.row (.int .i64) y.2 0])
    (fun y0 => k (.exit 0) (St.of [(7, (.ref 0 [] 0))] [.row (.int .i64) y0 0])) x := by kernel_rfl
theorem l19_6 (N : Nat) : LoopOK (x19 N) (loopAt 6 (loopsOf b19)) :=
  loop_mk (G19_6 N) (by kernel_rfl) (by kernel_rfl) (by kernel_rfl) fun R k d =>
    loop_eq (st := fun (x : Int × List Int) => ([(20, (.data (.int .i64) x.1)), (1, (.data (.sl false (.int .i64)) d.1.2.1)), (0, (.data (.sl false (.int .i64)) d.1.2.2.1)), (7, (.ref 0 [] 0)), (19, (.data (.int .i64) d.1.2.2.2.2.1))], [.row (.int .i64) x.2 0])) (s19_6 N k d.1.2.1 d.1.2.2.1 d.1.2.2.2.2.1) N (d.1.1, d.2.1)
theorem e19 (N : Nat) (a0 : List Int) (a1 : List Int) : bodyK (x19 N) [(.sl true (.int .i64)), (.int .i64)] [.tmp 4, .tmp 5] b19 (entry (.pr (.val (.sl false (.int .i64))) (.pr (.val (.sl false (.int .i64))) .un)) (a0, (a1, ()))) = f19 N a0 a1 := by kernel_rfl
theorem k19 (N : Nat) : CalleeOK Go.Proofs.Try.prog 19 (c19 N) :=
  fn_ok (fn := Go.Proofs.Try.f19) (body := b19) (c := x19 N) Go.Proofs.Try.func19 (by kernel_rfl) (by kernel_rfl) ⟨ttL_ok, mtL_ok, env_cons (forall_mem1 (k38 N)) (env_cons (forall_mem1 (k11 N)) (env_nil))⟩ mixed (by kernel_rfl) (Nat.le_of_ble_eq_true (by kernel_rfl)) (by kernel_rfl) (by decide)
    (loops_ok (by kernel_rfl : loopsOf b19 = [loopAt 6 (loopsOf b19)]) (.cons (l19_6 N) .nil)) fun d => e19 N d.1 d.2.1
/-! ### 40: keyhole/partition.Join$1 -/
def f40_L1 {R : Type} (N : Nat) (t1 : List Int) (kb : Int → Option R) (kx0 : Int → Option R) : Int → Option R :=
  fun t0 =>
    (idx t1 t0).bind fun x =>
    cond (!(decide (x = t0)))
      ((idx t1 t0).bind fun x_1 =>
      kb x_1)
      (kx0 t0)
def f40 (N : Nat) (a0 : Int) (a1 : List Int) : Option (Int) :=
  iter (fun w => f40_L1 N a1 w
    (fun t0_1 =>
      some t0_1)) N a0
def c40 (N : Nat) : Callee := .pure (.pr (.val (.int .i64)) (.pr (.val (.ptr (.sl false (.int .i64)))) .un)) [(.int .i64)] fun d => f40 N d.1 d.2.1
def F40_1 : SForm := ⟨[(0, (.val (.int .i64))), (1, (.val (.ptr (.sl false (.int .i64)))))], []⟩
def G40_1 (N : Nat) : (R : Type) → F40_1.den → (AExit → St → Option R) → Option R := fun R d k => iter (fun kb => f40_L1 N d.1.2.1 kb
    (fun y0 => k (.exit 0) (St.of [(0, (.data (.int .i64) y0))] []))) N d.1.1
def lp40 (N : Nat) : Nat → Option LoopFn := fun r => cond (Nat.beq r 1) (some fun R sl os k => F40_1.take sl os fun d => G40_1 N R d k) (none)
def x40 (N : Nat) : Ctx := { fuel := N, tt := getL ttL, mt := getL mtL, ntmps := 15, env := fun f => (getL [] f).getD [], cut := getL [(1, ⟨[0, 1], []⟩)], exits := fun r => getL ((getL [(1, [(0, ⟨[0], []⟩)])] r).getD []), res := ⟨[3], []⟩, own := fun _ => none, lp := lp40 N }
noncomputable def b40 : Code := ((Go.Proofs.Try.f40).body).getD .skip
theorem s40_1 (N : Nat) {R : Type} (k : AExit → St → Option R) (t1 : List Int) (kb : List (Nat × AVal) → List Obj → Option R) (x : Int) : codeK (x40 N) (loopAt 1 (loopsOf b40)) (St.of [(0, (.data (.int .i64) x)), (1, (.data (.ptr (.sl false (.int .i64))) t1))] []) (kLoop (x40 N) 1 ⟨[0, 1], []⟩ kb k) = f40_L1 N t1 (fun y => kb [(0, (.data (.int .i64) y)), (1, (.data (.ptr (.sl false (.int .i64))) t1))] [])
    (fun y0 => k (.exit 0) (St.of [(0, (.data (.int .i64) y0))] [])) x := by kernel_rfl
theorem l40_1 (N : Nat) : LoopOK (x40 N) (loopAt 1 (loopsOf b40)) :=
  loop_mk (G40_1 N) (by kernel_rfl) (by kernel_rfl) (by kernel_rfl) fun R k d =>
    loop_eq (st := fun (x : Int) => ([(0, (.data (.int .i64) x)), (1, (.data (.ptr (.sl false (.int .i64))) d.1.2.1))], [])) (s40_1 N k d.1.2.1) N d.1.1
theorem e40 (N : Nat) (a0 : Int) (a1 : List Int) : bodyK (x40 N) [(.int .i64)] [.tmp 3] b40 (entry (.pr (.val (.int .i64)) (.pr (.val (.ptr (.sl false (.int .i64)))) .un)) (a0, (a1, ()))) = f40 N a0 a1 := by kernel_rfl
theorem k40 (N : Nat) : CalleeOK Go.Proofs.Try.prog 40 (c40 N) :=
  fn_ok (fn := Go.Proofs.Try.f40) (body := b40) (c := x40 N) Go.Proofs.Try.func40 (by kernel_rfl) (by kernel_rfl) ⟨ttL_ok, mtL_ok, env_nil⟩ mixed (by kernel_rfl) (Nat.le_of_ble_eq_true (by kernel_rfl)) (by kernel_rfl) (by decide)
    (loops_ok (by kernel_rfl : loopsOf b40 = [loopAt 1 (loopsOf b40)]) (.cons (l40_1 N) .nil)) fun d => e40 N d.1 d.2.1
/-! ### 21: keyhole/partition.Join -/
def f21_L6 {R : Type} (N : Nat) (t0 : List Int) (t1 : List Int) (t30 : Int) (kb : Int × List Int → Option R) (kx0 : (List Int) → Option R) : Int × List Int → Option R :=
  fun (t31, o1) =>
    cond (decide (t31 < t30))
      (chk (inb o1 t31) <|
      (idx o1 t31).bind fun x =>
      (idx o1 t31).bind fun x_1 =>
      kb ((wi64 (t31 + 1)), (setI o1 t31 t31)))
      (kx0 o1)
def f21_L16 {R : Type} (N : Nat) (t0_2 : List Int) (t43_1 : Int) (t44_1 : Int) (t11 : List Int) (t52 : Int) (o2_1 : List Int) (o3 : List (List Int)) (kb : Int × List Int → Option R) (kx4 : (List Int) → Option R) : Int × List Int → Option R :=
  fun (t53, o0) =>
    cond (decide (t53 < t52))
      (chk (inb o0 t53) <|
      (idx o0 t53).bind fun x_3 =>
      (idx o0 t53).bind fun x_4 =>
      kb ((wi64 (t53 + 1)), (setI o0 t53 (-1))))
      (kx4 o0)
def f21_L21 {R : Type} (N : Nat) (t60 : List Int) (t0_3 : List Int) (t43_2 : Int) (t44_2 : Int) (t61 : Int) (o3_1 : List (List Int)) (kb : Int × List Int × List Int → Option R) (kx6 : (List Int) → Option R) : Int × List Int × List Int → Option R :=
  fun (t62, o0_2, o2_2) =>
    cond (decide (t62 < t61))
      ((idx t60 t62).bind fun x_5 =>
      chk (inb o0_2 x_5) <|
      (idx o0_2 x_5).bind fun x_6 =>
      cond (decide (x_6 < 0))
        (chk (inb o0_2 x_5) <|
        (idx o0_2 x_5).bind fun x_7 =>
        (idx o0_2 x_5).bind fun x_8 =>
        kb ((wi64 (t62 + 1)), (setI o0_2 x_5 t62), o2_2))
        (chk (inb o0_2 x_5) <|
        (idx o0_2 x_5).bind fun x_9 =>
        (f40 N x_9 o2_2).bind fun r_1 =>
        (f40 N t62 o2_2).bind fun r_2 =>
        chk (inb o2_2 (maxI r_1 r_2)) <|
        (idx o2_2 (maxI r_1 r_2)).bind fun x_10 =>
        (idx o2_2 (maxI r_1 r_2)).bind fun x_11 =>
        kb ((wi64 (t62 + 1)), o0_2, (setI o2_2 (maxI r_1 r_2) (minI r_1 r_2)))))
      (kx6 o2_2)
def f21_L12 {R : Type} (N : Nat) (t0_1 : List Int) (t43 : Int) (o2 : List (List Int)) (kb : Int × List Int → Option R) (kx2 : (List Int) → Option R) : Int × List Int → Option R :=
  fun (t44, o1_2) =>
    cond (decide (t44 < t43))
      (chk (inb o2 t44) <|
      (idx o2 t44).bind fun x_2 =>
      chk (((decide (0 ≤ (len t0_1))) && (decide ((len t0_1) ≤ (len t0_1)))) && (decide ((len t0_1) ≤ ((room : Nat) : Int)))) <|
      iter (fun w => f21_L16 N t0_1 t43 t44 x_2 (len (List.replicate (Int.toNat (len t0_1)) 0 : List Int)) o1_2 o2 w
        (fun o0_1 =>
          iter (fun w => f21_L21 N x_2 t0_1 t43 t44 (len x_2) o2 w
            (fun o1_3 =>
              kb ((wi64 (t44 + 1)), o1_3))) N (0, o0_1, o1_2))) N (0, (List.replicate (Int.toNat (len t0_1)) 0 : List Int)))
      (kx2 o1_2)
def f21_L31 {R : Type} (N : Nat) (t99 : Int) (o1_5 : List Int) (kb : Int × List Int → Option R) (kx8 : (List Int) → Option R) : Int × List Int → Option R :=
  fun (t100, o2_3) =>
    cond (decide (t100 < t99))
      ((f40 N t100 o1_5).bind fun r_3 =>
      chk (inb o2_3 t100) <|
      (idx o2_3 t100).bind fun x_12 =>
      (idx o2_3 t100).bind fun x_13 =>
      kb ((wi64 (t100 + 1)), (setI o2_3 t100 r_3)))
      (kx8 o2_3)
def f21 (N : Nat) (a0 : List Int) (a1 : List Int) : Option (List Int × Int) :=
  (f38 N a0 a1).bind fun r =>
  cond (!(decide (r = 0)))
    (some (([] : List Int), r))
    (chk (((decide (0 ≤ (len a0))) && (decide ((len a0) ≤ (len a0)))) && (decide ((len a0) ≤ ((room : Nat) : Int)))) <|
    iter (fun w => f21_L6 N a0 a1 (len (List.replicate (Int.toNat (len a0)) 0 : List Int)) w
      (fun o1_1 =>
        iter (fun w => f21_L12 N a0 (((Nat.succ 1) : Nat) : Int) (a0 :: (a1 :: ([] : List (List Int)))) w
          (fun o1_4 =>
            chk (((decide (0 ≤ (len a0))) && (decide ((len a0) ≤ (len a0)))) && (decide ((len a0) ≤ ((room : Nat) : Int)))) <|
            iter (fun w => f21_L31 N (len (List.replicate (Int.toNat (len a0)) 0 : List Int)) o1_4 w
              (fun o0_3 =>
                (f11 N o0_3).bind fun r_4 =>
                some (r_4, 0))) N (0, (List.replicate (Int.toNat (len a0)) 0 : List Int)))) N (0, o1_1))) N (0, (List.replicate (Int.toNat (len a0)) 0 : List Int)))
def c21 (N : Nat) : Callee := .pure (.pr (.val (.sl false (.int .i64))) (.pr (.val (.sl false (.int .i64))) .un)) [(.sl true (.int .i64)), (.int .i64)] fun d => f21 N d.1 d.2.1
def F21_6 : SForm := ⟨[(31, (.val (.int .i64))), (7, (.bptr 0 [])), (0, (.val (.sl false (.int .i64)))), (1, (.val (.sl false (.int .i64)))), (30, (.val (.int .i64)))], [.cell (.ref 1), .row (.int .i64)]⟩
def G21_6 (N : Nat) : (R : Type) → F21_6.den → (AExit → St → Option R) → Option R := fun R d k => iter (fun kb => f21_L6 N d.1.2.2.1 d.1.2.2.2.1 d.1.2.2.2.2.1 kb
    (fun y2 => k (.exit 0) (St.of [(7, (.bptr 0 [])), (0, (.data (.sl false (.int .i64)) d.1.2.2.1)), (1, (.data (.sl false (.int .i64)) d.1.2.2.2.1))] [.cell (.ref 1 [] 0), .row (.int .i64) y2 0]))) N (d.1.1, d.2.2.1)
def F21_16 : SForm := ⟨[(53, (.val (.int .i64))), (12, (.ref 0)), (7, (.bptr 1 [])), (9, (.clos 40 (.pr (.bptr 1 []) .un))), (0, (.val (.sl false (.int .i64)))), (42, (.ref 3)), (43, (.val (.int .i64))), (44, (.val (.int .i64))), (11, (.val (.sl false (.int .i64)))), (52, (.val (.int .i64)))], [.row (.int .i64), .cell (.ref 2), .row (.int .i64), .row (.sl false (.int .i64))]⟩
def G21_16 (N : Nat) : (R : Type) → F21_16.den → (AExit → St → Option R) → Option R := fun R d k => iter (fun kb => f21_L16 N d.1.2.2.2.2.1 d.1.2.2.2.2.2.2.1 d.1.2.2.2.2.2.2.2.1 d.1.2.2.2.2.2.2.2.2.1 d.1.2.2.2.2.2.2.2.2.2.1 d.2.2.2.1 d.2.2.2.2.1 kb
    (fun y4 => k (.exit 4) (St.of [(12, (.ref 0 [] 0)), (7, (.bptr 1 [])), (9, (.clos 40 (.pr (.bptr 1 []) .un))), (0, (.data (.sl false (.int .i64)) d.1.2.2.2.2.1)), (42, (.ref 3 [] 0)), (43, (.data (.int .i64) d.1.2.2.2.2.2.2.1)), (44, (.data (.int .i64) d.1.2.2.2.2.2.2.2.1)), (11, (.data (.sl false (.int .i64)) d.1.2.2.2.2.2.2.2.2.1))] [.row (.int .i64) y4 0, .cell (.ref 2 [] 0), .row (.int .i64) d.2.2.2.1 0, .row (.sl false (.int .i64)) d.2.2.2.2.1 0]))) N (d.1.1, d.2.1)
def F21_21 : SForm := ⟨[(62, (.val (.int .i64))), (12, (.ref 0)), (7, (.bptr 1 [])), (9, (.clos 40 (.pr (.bptr 1 []) .un))), (60, (.val (.sl false (.int .i64)))), (0, (.val (.sl false (.int .i64)))), (42, (.ref 3)), (43, (.val (.int .i64))), (44, (.val (.int .i64))), (61, (.val (.int .i64)))], [.row (.int .i64), .cell (.ref 2), .row (.int .i64), .row (.sl false (.int .i64))]⟩
def G21_21 (N : Nat) : (R : Type) → F21_21.den → (AExit → St → Option R) → Option R := fun R d k => iter (fun kb => f21_L21 N d.1.2.2.2.2.1 d.1.2.2.2.2.2.1 d.1.2.2.2.2.2.2.2.1 d.1.2.2.2.2.2.2.2.2.1 d.1.2.2.2.2.2.2.2.2.2.1 d.2.2.2.2.1 kb
    (fun y3 => k (.exit 6) (St.of [(7, (.bptr 0 [])), (9, (.clos 40 (.pr (.bptr 0 []) .un))), (0, (.data (.sl false (.int .i64)) d.1.2.2.2.2.2.1)), (42, (.ref 2 [] 0)), (43, (.data (.int .i64) d.1.2.2.2.2.2.2.2.1)), (44, (.data (.int .i64) d.1.2.2.2.2.2.2.2.2.1))] [.cell (.ref 1 [] 0), .row (.int .i64) y3 0, .row (.sl false (.int .i64)) d.2.2.2.2.1 0]))) N (d.1.1, d.2.1, d.2.2.2.1)
def F21_12 : SForm := ⟨[(7, (.bptr 0 [])), (9, (.clos 40 (.pr (.bptr 0 []) .un))), (44, (.val (.int .i64))), (0, (.val (.sl false (.int .i64)))), (42, (.ref 2)), (43, (.val (.int .i64)))], [.cell (.ref 1), .row (.int .i64), .row (.sl false (.int .i64))]⟩
def G21_12 (N : Nat) : (R : Type) → F21_12.den → (AExit → St → Option R) → Option R := fun R d k => iter (fun kb => f21_L12 N d.1.2.2.2.1 d.1.2.2.2.2.2.1 d.2.2.2.1 kb
    (fun y1 => k (.exit 2) (St.of [(9, (.clos 40 (.pr (.bptr 0 []) .un))), (0, (.data (.sl false (.int .i64)) d.1.2.2.2.1))] [.cell (.ref 1 [] 0), .row (.int .i64) y1 0]))) N (d.1.2.2.1, d.2.2.1)
def F21_31 : SForm := ⟨[(100, (.val (.int .i64))), (9, (.clos 40 (.pr (.bptr 0 []) .un))), (18, (.ref 2)), (99, (.val (.int .i64)))], [.cell (.ref 1), .row (.int .i64), .row (.int .i64)]⟩
def G21_31 (N : Nat) : (R : Type) → F21_31.den → (AExit → St → Option R) → Option R := fun R d k => iter (fun kb => f21_L31 N d.1.2.2.2.1 d.2.2.1 kb
    (fun y0 => k (.exit 8) (St.of [(18, (.ref 0 [] 0))] [.row (.int .i64) y0 0]))) N (d.1.1, d.2.2.2.1)
def lp21 (N : Nat) : Nat → Option LoopFn := fun r => cond (Nat.beq r 6) (some fun R sl os k => F21_6.take sl os fun d => G21_6 N R d k) (cond (Nat.beq r 16) (some fun R sl os k => F21_16.take sl os fun d => G21_16 N R d k) (cond (Nat.beq r 21) (some fun R sl os k => F21_21.take sl os fun d => G21_21 N R d k) (cond (Nat.beq r 12) (some fun R sl os k => F21_12.take sl os fun d => G21_12 N R d k) (cond (Nat.beq r 31) (some fun R sl os k => F21_31.take sl os fun d => G21_31 N R d k) (none)))))
def x21 (N : Nat) : Ctx := { fuel := N, tt := getL ttL, mt := getL mtL, ntmps := 112, env := fun f => (getL [(38, [c38 N]), (40, [c40 N]), (11, [c11 N])] f).getD [], cut := getL [(6, ⟨[31, 7, 0, 1, 30], []⟩), (12, ⟨[7, 9, 44, 0, 42, 43], []⟩), (16, ⟨[53, 12, 7, 9, 0, 42, 43, 44, 11, 52], []⟩), (21, ⟨[62, 12, 7, 9, 60, 0, 42, 43, 44, 61], []⟩), (31, ⟨[100, 9, 18, 99], []⟩)], exits := fun r => getL ((getL [(6, [(0, ⟨[7, 0, 1], []⟩)]), (12, [(2, ⟨[9, 0], []⟩)]), (16, [(4, ⟨[12, 7, 9, 0, 42, 43, 44, 11], []⟩)]), (21, [(6, ⟨[7, 9, 0, 42, 43, 44], []⟩)]), (31, [(8, ⟨[18], []⟩)])] r).getD []), res := ⟨[4, 5], []⟩, own := fun _ => none, lp := lp21 N }
noncomputable def b21 : Code := ((Go.Proofs.Try.f21).body).getD .skip
theorem s21_6 (N : Nat) {R : Type} (k : AExit → St → Option R) (t0 : List Int) (t1 : List Int) (t30 : Int) (kb : List (Nat × AVal) → List Obj → Option R) (x : Int × List Int) : codeK (x21 N) (loopAt 6 (loopsOf b21)) (St.of [(31, (.data (.int .i64) x.1)), (7, (.bptr 0 [])), (0, (.data (.sl false (.int .i64)) t0)), (1, (.data (.sl false (.int .i64)) t1)), (30, (.data (.int .i64) t30))] [.cell (.ref 1 [] 0), .row (.int .i64) x.2 0]) (kLoop (x21 N) 6 ⟨[31, 7, 0, 1, 30], []⟩ kb k) = f21_L6 N t0 t1 t30 (fun y => kb [(31, (.data (.int .i64) y.1)), (7, (.bptr 0 [])), (0, (.data (.sl false (.int .i64)) t0)), (1, (.data (.sl false (.int .i64)) t1)), (30, (.data (.int .i64) t30))] [.cell (.ref 1 [] 0), .row (.int .i64) y.2 0])
    (fun y2 => k (.exit 0) (St.of [(7, (.bptr 0 [])), (0, (.data (.sl false (.int .i64)) t0)), (1, (.data (.sl false (.int .i64)) t1))] [.cell (.ref 1 [] 0), .row (.int .i64) y2 0])) x := by kernel_rfl
theorem l21_6 (N : Nat) : LoopOK (x21 N) (loopAt 6 (loopsOf b21)) :=
  loop_mk (G21_6 N) (by kernel_rfl) (by kernel_rfl) (by kernel_rfl) fun R k d =>
    loop_eq (st := fun (x : Int × List Int) => ([(31, (.data (.int .i64) x.1)), (7, (.bptr 0 [])), (0, (.data (.sl false (.int .i64)) d.1.2.2.1)), (1, (.data (.sl false (.int .i64)) d.1.2.2.2.1)), (30, (.data (.int .i64) d.1.2.2.2.2.1))], [.cell (.ref 1 [] 0), .row (.int .i64) x.2 0])) (s21_6 N k d.1.2.2.1 d.1.2.2.2.1 d.1.2.2.2.2.1) N (d.1.1, d.2.2.1)
theorem s21_16 (N : Nat) {R : Type} (k : AExit → St → Option R) (t0_2 : List Int) (t43_1 : Int) (t44_1 : Int) (t11 : List Int) (t52 : Int) (o2_1 : List Int) (o3 : List (List Int)) (kb : List (Nat × AVal) → List Obj → Option R) (x : Int × List Int) : codeK (x21 N) (loopAt 16 (loopsOf b21)) (St.of [(53, (.data (.int .i64) x.1)), (12, (.ref 0 [] 0)), (7, (.bptr 1 [])), (9, (.clos 40 (.pr (.bptr 1 []) .un))), (0, (.data (.sl false (.int .i64)) t0_2)), (42, (.ref 3 [] 0)), (43, (.data (.int .i64) t43_1)), (44, (.data (.int .i64) t44_1)), (11, (.data (.sl false (.int .i64)) t11)), (52, (.data (.int .i64) t52))] [.row (.int .i64) x.2 0, .cell (.ref 2 [] 0), .row (.int .i64) o2_1 0, .row (.sl false (.int .i64)) o3 0]) (kLoop (x21 N) 16 ⟨[53, 12, 7, 9, 0, 42, 43, 44, 11, 52], []⟩ kb k) = f21_L16 N t0_2 t43_1 t44_1 t11 t52 o2_1 o3 (fun y => kb [(53, (.data (.int .i64) y.1)), (12, (.ref 0 [] 0)), (7, (.bptr 1 [])), (9, (.clos 40 (.pr (.bptr 1 []) .un))), (0, (.data (.sl false (.int .i64)) t0_2)), (42, (.ref 3 [] 0)), (43, (.data (.int .i64) t43_1)), (44, (.data (.int .i64) t44_1)), (11, (.data (.sl false (.int .i64)) t11)), (52, (.data (.int .i64) t52))] [.row (.int .i64) y.2 0, .cell (.ref 2 [] 0), .row (.int .i64) o2_1 0, .row (.sl false (.int .i64)) o3 0])
    (fun y4 => k (.exit 4) (St.of [(12, (.ref 0 [] 0)), (7, (.bptr 1 [])), (9, (.clos 40 (.pr (.bptr 1 []) .un))), (0, (.data (.sl false (.int .i64)) t0_2)), (42, (.ref 3 [] 0)), (43, (.data (.int .i64) t43_1)), (44, (.data (.int .i64) t44_1)), (11, (.data (.sl false (.int .i64)) t11))] [.row (.int .i64) y4 0, .cell (.ref 2 [] 0), .row (.int .i64) o2_1 0, .row (.sl false (.int .i64)) o3 0])) x := by kernel_rfl
theorem l21_16 (N : Nat) : LoopOK (x21 N) (loopAt 16 (loopsOf b21)) :=
  loop_mk (G21_16 N) (by kernel_rfl) (by kernel_rfl) (by kernel_rfl) fun R k d =>
    loop_eq (st := fun (x : Int × List Int) => ([(53, (.data (.int .i64) x.1)), (12, (.ref 0 [] 0)), (7, (.bptr 1 [])), (9, (.clos 40 (.pr (.bptr 1 []) .un))), (0, (.data (.sl false (.int .i64)) d.1.2.2.2.2.1)), (42, (.ref 3 [] 0)), (43, (.data (.int .i64) d.1.2.2.2.2.2.2.1)), (44, (.data (.int .i64) d.1.2.2.2.2.2.2.2.1)), (11, (.data (.sl false (.int .i64)) d.1.2.2.2.2.2.2.2.2.1)), (52, (.data (.int .i64) d.1.2.2.2.2.2.2.2.2.2.1))], [.row (.int .i64) x.2 0, .cell (.ref 2 [] 0), .row (.int .i64) d.2.2.2.1 0, .row (.sl false (.int .i64)) d.2.2.2.2.1 0])) (s21_16 N k d.1.2.2.2.2.1 d.1.2.2.2.2.2.2.1 d.1.2.2.2.2.2.2.2.1 d.1.2.2.2.2.2.2.2.2.1 d.1.2.2.2.2.2.2.2.2.2.1 d.2.2.2.1 d.2.2.2.2.1) N (d.1.1, d.2.1)
theorem s21_21 (N : Nat) {R : Type} (k : AExit → St → Option R) (t60 : List Int) (t0_3 : List Int) (t43_2 : Int) (t44_2 : Int) (t61 : Int) (o3_1 : List (List Int)) (kb : List (Nat × AVal) → List Obj → Option R) (x : Int × List Int × List Int) : codeK (x21 N) (loopAt 21 (loopsOf b21)) (St.of [(62, (.data (.int .i64) x.1)), (12, (.ref 0 [] 0)), (7, (.bptr 1 [])), (9, (.clos 40 (.pr (.bptr 1 []) .un))), (60, (.data (.sl false (.int .i64)) t60)), (0, (.data (.sl false (.int .i64)) t0_3)), (42, (.ref 3 [] 0)), (43, (.data (.int .i64) t43_2)), (44, (.data (.int .i64) t44_2)), (61, (.data (.int .i64) t61))] [.row (.int .i64) x.2.1 0, .cell (.ref 2 [] 0), .row (.int .i64) x.2.2 0, .row (.sl false (.int .i64)) o3_1 0]) (kLoop (x21 N) 21 ⟨[62, 12, 7, 9, 60, 0, 42, 43, 44, 61], []⟩ kb k) = f21_L21 N t60 t0_3 t43_2 t44_2 t61 o3_1 (fun y => kb [(62, (.data (.int .i64) y.1)), (12, (.ref 0 [] 0)), (7, (.bptr 1 [])), (9, (.clos 40 (.pr (.bptr 1 []) .un))), (60, (.data (.sl false (.int .i64)) t60)), (0, (.data (.sl false (.int .i64)) t0_3)), (42, (.ref 3 [] 0)), (43, (.data (.int .i64) t43_2)), (44, (.data (.int .i64) t44_2)), (61, (.data (.int .i64) t61))] [.row (.int .i64) y.2.1 0, .cell (.ref 2 [] 0), .row (.int .i64) y.2.2 0, .row (.sl false (.int .i64)) o3_1 0])
    (fun y3 => k (.exit 6) (St.of [(7, (.bptr 0 [])), (9, (.clos 40 (.pr (.bptr 0 []) .un))), (0, (.data (.sl false (.int .i64)) t0_3)), (42, (.ref 2 [] 0)), (43, (.data (.int .i64) t43_2)), (44, (.data (.int .i64) t44_2))] [.cell (.ref 1 [] 0), .row (.int .i64) y3 0, .row (.sl false (.int .i64)) o3_1 0])) x := by kernel_rfl
theorem l21_21 (N : Nat) : LoopOK (x21 N) (loopAt 21 (loopsOf b21)) :=
  loop_mk (G21_21 N) (by kernel_rfl) (by kernel_rfl) (by kernel_rfl) fun R k d =>
    loop_eq (st := fun (x : Int × List Int × List Int) => ([(62, (.data (.int .i64) x.1)), (12, (.ref 0 [] 0)), (7, (.bptr 1 [])), (9, (.clos 40 (.pr (.bptr 1 []) .un))), (60, (.data (.sl false (.int .i64)) d.1.2.2.2.2.1)), (0, (.data (.sl false (.int .i64)) d.1.2.2.2.2.2.1)), (42, (.ref 3 [] 0)), (43, (.data (.int .i64) d.1.2.2.2.2.2.2.2.1)), (44, (.data (.int .i64) d.1.2.2.2.2.2.2.2.2.1)), (61, (.data (.int .i64) d.1.2.2.2.2.2.2.2.2.2.1))], [.row (.int .i64) x.2.1 0, .cell (.ref 2 [] 0), .row (.int .i64) x.2.2 0, .row (.sl false (.int .i64)) d.2.2.2.2.1 0])) (s21_21 N k d.1.2.2.2.2.1 d.1.2.2.2.2.2.1 d.1.2.2.2.2.2.2.2.1 d.1.2.2.2.2.2.2.2.2.1 d.1.2.2.2.2.2.2.2.2.2.1 d.2.2.2.2.1) N (d.1.1, d.2.1, d.2.2.2.1)
theorem s21_12 (N : Nat) {R : Type} (k : AExit → St → Option R) (t0_1 : List Int) (t43 : Int) (o2 : List (List Int)) (kb : List (Nat × AVal) → List Obj → Option R) (x : Int × List Int) : codeK (x21 N) (loopAt 12 (loopsOf b21)) (St.of [(7, (.bptr 0 [])), (9, (.clos 40 (.pr (.bptr 0 []) .un))), (44, (.data (.int .i64) x.1)), (0, (.data (.sl false (.int .i64)) t0_1)), (42, (.ref 2 [] 0)), (43, (.data (.int .i64) t43))] [.cell (.ref 1 [] 0), .row (.int .i64) x.2 0, .row (.sl false (.int .i64)) o2 0]) (kLoop (x21 N) 12 ⟨[7, 9, 44, 0, 42, 43], []⟩ kb k) = f21_L12 N t0_1 t43 o2 (fun y => kb [(7, (.bptr 0 [])), (9, (.clos 40 (.pr (.bptr 0 []) .un))), (44, (.data (.int .i64) y.1)), (0, (.data (.sl false (.int .i64)) t0_1)), (42, (.ref 2 [] 0)), (43, (.data (.int .i64) t43))] [.cell (.ref 1 [] 0), .row (.int .i64) y.2 0, .row (.sl false (.int .i64)) o2 0])
    (fun y1 => k (.exit 2) (St.of [(9, (.clos 40 (.pr (.bptr 0 []) .un))), (0, (.data (.sl false (.int .i64)) t0_1))] [.cell (.ref 1 [] 0), .row (.int .i64) y1 0])) x := by kernel_rfl
theorem l21_12 (N : Nat) : LoopOK (x21 N) (loopAt 12 (loopsOf b21)) :=
  loop_mk (G21_12 N) (by kernel_rfl) (by kernel_rfl) (by kernel_rfl) fun R k d =>
    loop_eq (st := fun (x : Int × List Int) => ([(7, (.bptr 0 [])), (9, (.clos 40 (.pr (.bptr 0 []) .un))), (44, (.data (.int .i64) x.1)), (0, (.data (.sl false (.int .i64)) d.1.2.2.2.1)), (42, (.ref 2 [] 0)), (43, (.data (.int .i64) d.1.2.2.2.2.2.1))], [.cell (.ref 1 [] 0), .row (.int .i64) x.2 0, .row (.sl false (.int .i64)) d.2.2.2.1 0])) (s21_12 N k d.1.2.2.2.1 d.1.2.2.2.2.2.1 d.2.2.2.1) N (d.1.2.2.1, d.2.2.1)
theorem s21_31 (N : Nat) {R : Type} (k : AExit → St → Option R) (t99 : Int) (o1_5 : List Int) (kb : List (Nat × AVal) → List Obj → Option R) (x : Int × List Int) : codeK (x21 N) (loopAt 31 (loopsOf b21)) (St.of [(100, (.data (.int .i64) x.1)), (9, (.clos 40 (.pr (.bptr 0 []) .un))), (18, (.ref 2 [] 0)), (99, (.data (.int .i64) t99))] [.cell (.ref 1 [] 0), .row (.int .i64) o1_5 0, .row (.int .i64) x.2 0]) (kLoop (x21 N) 31 ⟨[100, 9, 18, 99], []⟩ kb k) = f21_L31 N t99 o1_5 (fun y => kb [(100, (.data (.int .i64) y.1)), (9, (.clos 40 (.pr (.bptr 0 []) .un))), (18, (.ref 2 [] 0)), (99, (.data (.int .i64) t99))] [.cell (.ref 1 [] 0), .row (.int .i64) o1_5 0, .row (.int .i64) y.2 0])
    (fun y0 => k (.exit 8) (St.of [(18, (.ref 0 [] 0))] [.row (.int .i64) y0 0])) x := by kernel_rfl
theorem l21_31 (N : Nat) : LoopOK (x21 N) (loopAt 31 (loopsOf b21)) :=
  loop_mk (G21_31 N) (by kernel_rfl) (by kernel_rfl) (by kernel_rfl) fun R k d =>
    loop_eq (st := fun (x : Int × List Int) => ([(100, (.data (.int .i64) x.1)), (9, (.clos 40 (.pr (.bptr 0 []) .un))), (18, (.ref 2 [] 0)), (99, (.data (.int .i64) d.1.2.2.2.1))], [.cell (.ref 1 [] 0), .row (.int .i64) d.2.2.1 0, .row (.int .i64) x.2 0])) (s21_31 N k d.1.2.2.2.1 d.2.2.1) N (d.1.1, d.2.2.2.1)
theorem e21 (N : Nat) (a0 : List Int) (a1 : List Int) : bodyK (x21 N) [(.sl true (.int .i64)), (.int .i64)] [.tmp 4, .tmp 5] b21 (entry (.pr (.val (.sl false (.int .i64))) (.pr (.val (.sl false (.int .i64))) .un)) (a0, (a1, ()))) = f21 N a0 a1 := by kernel_rfl
theorem k21 (N : Nat) : CalleeOK Go.Proofs.Try.prog 21 (c21 N) :=
  fn_ok (fn := Go.Proofs.Try.f21) (body := b21) (c := x21 N) Go.Proofs.Try.func21 (by kernel_rfl) (by kernel_rfl) ⟨ttL_ok, mtL_ok, env_cons (forall_mem1 (k38 N)) (env_cons (forall_mem1 (k40 N)) (env_cons (forall_mem1 (k11 N)) (env_nil)))⟩ mixed (by kernel_rfl) (Nat.le_of_ble_eq_true (by kernel_rfl)) (by kernel_rfl) (by decide)
    (loops_ok (by kernel_rfl : loopsOf b21 = [loopAt 6 (loopsOf b21), loopAt 12 (loopsOf b21), loopAt 16 (loopsOf b21), loopAt 21 (loopsOf b21), loopAt 31 (loopsOf b21)]) (.cons (l21_6 N) (.cons (l21_12 N) (.cons (l21_16 N) (.cons (l21_21 N) (.cons (l21_31 N) .nil)))))) fun d => e21 N d.1 d.2.1
/-! ### 12: slices.Equal[[]int,int] -/
def f12_L4 {R : Type} (N : Nat) (t1 : List Int) (t0 : List Int) (t12 : Int) (kb : Int → Option R) (kret : Bool → Option R) (kx0 : Unit → Option R) : Int → Option R :=
  fun t13 =>
    cond (decide (t13 < t12))
      ((idx t0 t13).bind fun x =>
      (idx t1 t13).bind fun x_1 =>
      cond (!(decide (x = x_1)))
        (kret false)
        (kb (wi64 (t13 + 1))))
      (kx0 ())
def f12 (N : Nat) (a0 : List Int) (a1 : List Int) : Option (Bool) :=
  cond (!(decide ((len a0) = (len a1))))
    (some false)
    (iter (fun w => f12_L4 N a1 a0 (len a0) w
      (fun t4 =>
        some t4)
      (fun (_ : Unit) =>
        some true)) N 0)
def c12 (N : Nat) : Callee := .pure (.pr (.val (.sl false (.int .i64))) (.pr (.val (.sl false (.int .i64))) .un)) [.bool] fun d => f12 N d.1 d.2.1
def F12_4 : SForm := ⟨[(13, (.val (.int .i64))), (1, (.val (.sl false (.int .i64)))), (0, (.val (.sl false (.int .i64)))), (12, (.val (.int .i64)))], []⟩
def G12_4 (N : Nat) : (R : Type) → F12_4.den → (AExit → St → Option R) → Option R := fun R d k => iter (fun kb => f12_L4 N d.1.2.1 d.1.2.2.1 d.1.2.2.2.1 kb
    (fun y0 => k .ret (St.of [(4, (.data .bool y0))] []))
    (fun _ => k (.exit 0) (St.of [] []))) N d.1.1
def lp12 (N : Nat) : Nat → Option LoopFn := fun r => cond (Nat.beq r 4) (some fun R sl os k => F12_4.take sl os fun d => G12_4 N R d k) (none)
def x12 (N : Nat) : Ctx := { fuel := N, tt := getL ttL, mt := getL mtL, ntmps := 26, env := fun f => (getL [] f).getD [], cut := getL [(4, ⟨[13, 1, 0, 12], []⟩)], exits := fun r => getL ((getL [(4, [(0, ⟨[], []⟩)])] r).getD []), res := ⟨[4], []⟩, own := fun _ => none, lp := lp12 N }
noncomputable def b12 : Code := ((Go.Proofs.Try.f12).body).getD .skip
theorem s12_4 (N : Nat) {R : Type} (k : AExit → St → Option R) (t1 : List Int) (t0 : List Int) (t12 : Int) (kb : List (Nat × AVal) → List Obj → Option R) (x : Int) : codeK (x12 N) (loopAt 4 (loopsOf b12)) (St.of [(13, (.data (.int .i64) x)), (1, (.data (.sl false (.int .i64)) t1)), (0, (.data (.sl false (.int .i64)) t0)), (12, (.data (.int .i64) t12))] []) (kLoop (x12 N) 4 ⟨[13, 1, 0, 12], []⟩ kb k) = f12_L4 N t1 t0 t12 (fun y => kb [(13, (.data (.int .i64) y)), (1, (.data (.sl false (.int .i64)) t1)), (0, (.data (.sl false (.int .i64)) t0)), (12, (.data (.int .i64) t12))] [])
    (fun y0 => k .ret (St.of [(4, (.data .bool y0))] []))
    (fun _ => k (.exit 0) (St.of [] [])) x := by kernel_rfl
theorem l12_4 (N : Nat) : LoopOK (x12 N) (loopAt 4 (loopsOf b12)) :=
  loop_mk (G12_4 N) (by kernel_rfl) (by kernel_rfl) (by kernel_rfl) fun R k d =>
    loop_eq (st := fun (x : Int) => ([(13, (.data (.int .i64) x)), (1, (.data (.sl false (.int .i64)) d.1.2.1)), (0, (.data (.sl false (.int .i64)) d.1.2.2.1)), (12, (.data (.int .i64) d.1.2.2.2.1))], [])) (s12_4 N k d.1.2.1 d.1.2.2.1 d.1.2.2.2.1) N d.1.1
theorem e12 (N : Nat) (a0 : List Int) (a1 : List Int) : bodyK (x12 N) [.bool] [.tmp 4] b12 (entry (.pr (.val (.sl false (.int .i64))) (.pr (.val (.sl false (.int .i64))) .un)) (a0, (a1, ()))) = f12 N a0 a1 := by kernel_rfl
theorem k12 (N : Nat) : CalleeOK Go.Proofs.Try.prog 12 (c12 N) :=
  fn_ok (fn := Go.Proofs.Try.f12) (body := b12) (c := x12 N) Go.Proofs.Try.func12 (by kernel_rfl) (by kernel_rfl) ⟨ttL_ok, mtL_ok, env_nil⟩ mixed (by kernel_rfl) (Nat.le_of_ble_eq_true (by kernel_rfl)) (by kernel_rfl) (by decide)
    (loops_ok (by kernel_rfl : loopsOf b12 = [loopAt 4 (loopsOf b12)]) (.cons (l12_4 N) .nil)) fun d => e12 N d.1 d.2.1
/-! ### 30: keyhole/partition.Sizes -/
def f30_L5 {R : Type} (N : Nat) (t9 : List Int) (t10 : Int) (kb : Int × List Int → Option R) (kx0 : (List Int) → Option R) : Int × List Int → Option R :=
  fun (t11, o0) =>
    cond (decide (t11 < t10))
      ((idx t9 t11).bind fun x =>
      cond (decide (x = (len o0)))
        (chk (decide ((o0.length.succ) ≤ room)) <|
        chk (inb (o0 ++ (0 :: ([] : List Int))) x) <|
        (idx (o0 ++ (0 :: ([] : List Int))) x).bind fun x_1 =>
        chk (inb (o0 ++ (0 :: ([] : List Int))) x) <|
        (idx (o0 ++ (0 :: ([] : List Int))) x).bind fun x_2 =>
        (idx (o0 ++ (0 :: ([] : List Int))) x).bind fun x_3 =>
        kb ((wi64 (t11 + 1)), (setI (o0 ++ (0 :: ([] : List Int))) x (wi64 (x_1 + 1)))))
        (chk (inb o0 x) <|
        (idx o0 x).bind fun x_4 =>
        chk (inb o0 x) <|
        (idx o0 x).bind fun x_5 =>
        (idx o0 x).bind fun x_6 =>
        kb ((wi64 (t11 + 1)), (setI o0 x (wi64 (x_4 + 1))))))
      (kx0 o0)
def f30 (N : Nat) (a0 : List Int) : Option (List Int) :=
  (f14 N a0).bind fun r =>
  cond (!r)
    (some ([] : List Int))
    (iter (fun w => f30_L5 N a0 (len a0) w
      (fun o0_1 =>
        some o0_1)) N (0, ([] : List Int)))
def c30 (N : Nat) : Callee := .pure (.pr (.val (.sl false (.int .i64))) .un) [(.sl true (.int .i64))] fun d => f30 N d.1
def F30_5 : SForm := ⟨[(11, (.val (.int .i64))), (3, (.ref 0)), (9, (.val (.sl false (.int .i64)))), (10, (.val (.int .i64)))], [.row (.int .i64)]⟩
def G30_5 (N : Nat) : (R : Type) → F30_5.den → (AExit → St → Option R) → Option R := fun R d k => iter (fun kb => f30_L5 N d.1.2.2.1 d.1.2.2.2.1 kb
    (fun y0 => k (.exit 0) (St.of [(3, (.ref 0 [] 0))] [.row (.int .i64) y0 0]))) N (d.1.1, d.2.1)
def lp30 (N : Nat) : Nat → Option LoopFn := fun r => cond (Nat.beq r 5) (some fun R sl os k => F30_5.take sl os fun d => G30_5 N R d k) (none)
def x30 (N : Nat) : Ctx := { fuel := N, tt := getL ttL, mt := getL mtL, ntmps := 30, env := fun f => (getL [(14, [c14 N])] f).getD [], cut := getL [(5, ⟨[11, 3, 9, 10], [(3, none, .row (.int .i64))]⟩)], exits := fun r => getL ((getL [(5, [(0, ⟨[3], []⟩)])] r).getD []), res := ⟨[2], []⟩, own := fun _ => none, lp := lp30 N }
noncomputable def b30 : Code := ((Go.Proofs.Try.f30).body).getD .skip
theorem s30_5 (N : Nat) {R : Type} (k : AExit → St → Option R) (t9 : List Int) (t10 : Int) (kb : List (Nat × AVal) → List Obj → Option R) (x : Int × List Int) : codeK (x30 N) (loopAt 5 (loopsOf b30)) (St.of [(11, (.data (.int .i64) x.1)), (3, (.ref 0 [] 0)), (9, (.data (.sl false (.int .i64)) t9)), (10, (.data (.int .i64) t10))] [.row (.int .i64) x.2 0]) (kLoop (x30 N) 5 ⟨[11, 3, 9, 10], [(3, none, .row (.int .i64))]⟩ kb k) = f30_L5 N t9 t10 (fun y => kb [(11, (.data (.int .i64) y.1)), (3, (.ref 0 [] 0)), (9, (.data (.sl false (.int .i64)) t9)), (10, (.data (.int .i64) t10))] [.row (.int .i64) y.2 0])
    (fun y0 => k (.exit 0) (St.of [(3, (.ref 0 [] 0))] [.row (.int .i64) y0 0])) x := by kernel_rfl
theorem l30_5 (N : Nat) : LoopOK (x30 N) (loopAt 5 (loopsOf b30)) :=
  loop_mk (G30_5 N) (by kernel_rfl) (by kernel_rfl) (by kernel_rfl) fun R k d =>
    loop_eq (st := fun (x : Int × List Int) => ([(11, (.data (.int .i64) x.1)), (3, (.ref 0 [] 0)), (9, (.data (.sl false (.int .i64)) d.1.2.2.1)), (10, (.data (.int .i64) d.1.2.2.2.1))], [.row (.int .i64) x.2 0])) (s30_5 N k d.1.2.2.1 d.1.2.2.2.1) N (d.1.1, d.2.1)
theorem e30 (N : Nat) (a0 : List Int) : bodyK (x30 N) [(.sl true (.int .i64))] [.tmp 2] b30 (entry (.pr (.val (.sl false (.int .i64))) .un) (a0, ())) = f30 N a0 := by kernel_rfl
theorem k30 (N : Nat) : CalleeOK Go.Proofs.Try.prog 30 (c30 N) :=
  fn_ok (fn := Go.Proofs.Try.f30) (body := b30) (c := x30 N) Go.Proofs.Try.func30 (by kernel_rfl) (by kernel_rfl) ⟨ttL_ok, mtL_ok, env_cons (forall_mem1 (k14 N)) (env_nil)⟩ mixed (by kernel_rfl) (Nat.le_of_ble_eq_true (by kernel_rfl)) (by kernel_rfl) (by decide)
    (loops_ok (by kernel_rfl : loopsOf b30 = [loopAt 5 (loopsOf b30)]) (.cons (l30_5 N) .nil)) fun d => e30 N d.1
/-! ### 26: keyhole/partition.Count -/
def f26 (N : Nat) (a0 : List Int) : Option (Int) :=
  (f30 N a0).bind fun r =>
  some (len r)
def c26 (N : Nat) : Callee := .pure (.pr (.val (.sl false (.int .i64))) .un) [(.int .i64)] fun d => f26 N d.1
def lp26 (N : Nat) : Nat → Option LoopFn := fun r => none
def x26 (N : Nat) : Ctx := { fuel := N, tt := getL ttL, mt := getL mtL, ntmps := 6, env := fun f => (getL [(30, [c30 N])] f).getD [], cut := getL [], exits := fun r => getL ((getL [] r).getD []), res := ⟨[2], []⟩, own := fun _ => none, lp := lp26 N }
noncomputable def b26 : Code := ((Go.Proofs.Try.f26).body).getD .skip
theorem e26 (N : Nat) (a0 : List Int) : bodyK (x26 N) [(.int .i64)] [.tmp 2] b26 (entry (.pr (.val (.sl false (.int .i64))) .un) (a0, ())) = f26 N a0 := by kernel_rfl
theorem k26 (N : Nat) : CalleeOK Go.Proofs.Try.prog 26 (c26 N) :=
  fn_ok (fn := Go.Proofs.Try.f26) (body := b26) (c := x26 N) Go.Proofs.Try.func26 (by kernel_rfl) (by kernel_rfl) ⟨ttL_ok, mtL_ok, env_cons (forall_mem1 (k30 N)) (env_nil)⟩ mixed (by kernel_rfl) (Nat.le_of_ble_eq_true (by kernel_rfl)) (by kernel_rfl) (by decide)
    (loops_ok (by kernel_rfl : loopsOf b26 = []) .nil) fun d => e26 N d.1
/-! ### 27: keyhole/partition.Pairs -/
def f27_L3 {R : Type} (N : Nat) (t9 : Int) (o0 : List Int) (kb : Int × Int × Int → Option R) (kx0 : Int → Option R) : Int × Int × Int → Option R :=
  fun (t10, t4, t3) =>
    cond (decide (t10 < t9))
      (chk (inb o0 t10) <|
      (idx o0 t10).bind fun x =>
      kb ((wi64 (t10 + 1)), (wi64 (t4 + x)), (wi64 (t3 + (wi64 (x * t4))))))
      (kx0 t3)
def f27 (N : Nat) (a0 : List Int) : Option (Int) :=
  (f30 N a0).bind fun r =>
  iter (fun w => f27_L3 N (len r) r w
    (fun t3_1 =>
      some t3_1)) N (0, 0, 0)
def c27 (N : Nat) : Callee := .pure (.pr (.val (.sl false (.int .i64))) .un) [(.int .i64)] fun d => f27 N d.1
def F27_3 : SForm := ⟨[(10, (.val (.int .i64))), (4, (.val (.int .i64))), (3, (.val (.int .i64))), (8, (.ref 0)), (9, (.val (.int .i64)))], [.row (.int .i64)]⟩
def G27_3 (N : Nat) : (R : Type) → F27_3.den → (AExit → St → Option R) → Option R := fun R d k => iter (fun kb => f27_L3 N d.1.2.2.2.2.1 d.2.1 kb
    (fun y0 => k (.exit 0) (St.of [(3, (.data (.int .i64) y0))] []))) N (d.1.1, d.1.2.1, d.1.2.2.1)
def lp27 (N : Nat) : Nat → Option LoopFn := fun r => cond (Nat.beq r 3) (some fun R sl os k => F27_3.take sl os fun d => G27_3 N R d k) (none)
def x27 (N : Nat) : Ctx := { fuel := N, tt := getL ttL, mt := getL mtL, ntmps := 24, env := fun f => (getL [(30, [c30 N])] f).getD [], cut := getL [(3, ⟨[10, 4, 3, 8, 9], []⟩)], exits := fun r => getL ((getL [(3, [(0, ⟨[3], []⟩)])] r).getD []), res := ⟨[2], []⟩, own := fun _ => none, lp := lp27 N }
noncomputable def b27 : Code := ((Go.Proofs.Try.f27).body).getD .skip
theorem s27_3 (N : Nat) {R : Type} (k : AExit → St → Option R) (t9 : Int) (o0 : List Int) (kb : List (Nat × AVal) → List Obj → Option R) (x : Int × Int × Int) : codeK (x27 N) (loopAt 3 (loopsOf b27)) (St.of [(10, (.data (.int .i64) x.1)), (4, (.data (.int .i64) x.2.1)), (3, (.data (.int .i64) x.2.2)), (8, (.ref 0 [] 0)), (9, (.data (.int .i64) t9))] [.row (.int .i64) o0 0]) (kLoop (x27 N) 3 ⟨[10, 4, 3, 8, 9], []⟩ kb k) = f27_L3 N t9 o0 (fun y => kb [(10, (.data (.int .i64) y.1)), (4, (.data (.int .i64) y.2.1)), (3, (.data (.int .i64) y.2.2)), (8, (.ref 0 [] 0)), (9, (.data (.int .i64) t9))] [.row (.int .i64) o0 0])
    (fun y0 => k (.exit 0) (St.of [(3, (.data (.int .i64) y0))] [])) x := by kernel_rfl
theorem l27_3 (N : Nat) : LoopOK (x27 N) (loopAt 3 (loopsOf b27)) :=
  loop_mk (G27_3 N) (by kernel_rfl) (by kernel_rfl) (by kernel_rfl) fun R k d =>
    loop_eq (st := fun (x : Int × Int × Int) => ([(10, (.data (.int .i64) x.1)), (4, (.data (.int .i64) x.2.1)), (3, (.data (.int .i64) x.2.2)), (8, (.ref 0 [] 0)), (9, (.data (.int .i64) d.1.2.2.2.2.1))], [.row (.int .i64) d.2.1 0])) (s27_3 N k d.1.2.2.2.2.1 d.2.1) N (d.1.1, d.1.2.1, d.1.2.2.1)
theorem e27 (N : Nat) (a0 : List Int) : bodyK (x27 N) [(.int .i64)] [.tmp 2] b27 (entry (.pr (.val (.sl false (.int .i64))) .un) (a0, ())) = f27 N a0 := by kernel_rfl
theorem k27 (N : Nat) : CalleeOK Go.Proofs.Try.prog 27 (c27 N) :=
  fn_ok (fn := Go.Proofs.Try.f27) (body := b27) (c := x27 N) Go.Proofs.Try.func27 (by kernel_rfl) (by kernel_rfl) ⟨ttL_ok, mtL_ok, env_cons (forall_mem1 (k30 N)) (env_nil)⟩ mixed (by kernel_rfl) (Nat.le_of_ble_eq_true (by kernel_rfl)) (by kernel_rfl) (by decide)
    (loops_ok (by kernel_rfl : loopsOf b27 = [loopAt 3 (loopsOf b27)]) (.cons (l27_3 N) .nil)) fun d => e27 N d.1
/-! ### 10: keyhole/keyholelaw04.known -/
def f10 (N : Nat) : Option (Bool) :=
  (f11 N (7 :: (3 :: (7 :: (9 :: ([] : List Int)))))).bind fun r =>
  (f19 N r (0 :: (0 :: (1 :: (1 :: ([] : List Int)))))).bind fun r_1 =>
  (f21 N r (0 :: (0 :: (1 :: (1 :: ([] : List Int)))))).bind fun r_2 =>
  (f12 N r (0 :: (1 :: (0 :: (2 :: ([] : List Int)))))).bind fun r_3 =>
  (cond r_3
      ((f26 N r).bind fun r_4 =>
      some (decide (r_4 = 3)))
      (some false)).bind fun b =>
  (cond b
      ((f27 N r).bind fun r_5 =>
      some (decide (r_5 = 5)))
      (some false)).bind fun b_1 =>
  (cond b_1
      (some (decide (r_1.2 = 0)))
      (some false)).bind fun b_2 =>
  (cond b_2
      ((f12 N r_1.1 (0 :: (1 :: (2 :: (3 :: ([] : List Int)))))).bind fun r_6 =>
      some r_6)
      (some false)).bind fun b_3 =>
  (cond b_3
      (some (decide (r_2.2 = 0)))
      (some false)).bind fun b_4 =>
  (cond b_4
      ((f12 N r_2.1 (0 :: (0 :: (0 :: (0 :: ([] : List Int)))))).bind fun r_7 =>
      some r_7)
      (some false)).bind fun b_5 =>
  some b_5
def c10 (N : Nat) : Callee := .pure .un [.bool] fun d => f10 N 
def lp10 (N : Nat) : Nat → Option LoopFn := fun r => none
def x10 (N : Nat) : Ctx := { fuel := N, tt := getL ttL, mt := getL mtL, ntmps := 51, env := fun f => (getL [(11, [c11 N]), (19, [c19 N]), (21, [c21 N]), (12, [c12 N]), (26, [c26 N]), (27, [c27 N])] f).getD [], cut := getL [], exits := fun r => getL ((getL [] r).getD []), res := ⟨[0], []⟩, own := fun _ => none, lp := lp10 N }
noncomputable def b10 : Code := ((Go.Proofs.Try.f10).body).getD .skip
theorem e10 (N : Nat) : bodyK (x10 N) [.bool] [.tmp 0] b10 (entry .un ()) = f10 N := by kernel_rfl
theorem k10 (N : Nat) : CalleeOK Go.Proofs.Try.prog 10 (c10 N) :=
  fn_ok (fn := Go.Proofs.Try.f10) (body := b10) (c := x10 N) Go.Proofs.Try.func10 (by kernel_rfl) (by kernel_rfl) ⟨ttL_ok, mtL_ok, env_cons (forall_mem1 (k11 N)) (env_cons (forall_mem1 (k19 N)) (env_cons (forall_mem1 (k21 N)) (env_cons (forall_mem1 (k12 N)) (env_cons (forall_mem1 (k26 N)) (env_cons (forall_mem1 (k27 N)) (env_nil))))))⟩ mixed (by kernel_rfl) (Nat.le_of_ble_eq_true (by kernel_rfl)) (by kernel_rfl) (by decide)
    (loops_ok (by kernel_rfl : loopsOf b10 = []) .nil) fun d => e10 N 
/-! ### 13: keyhole/keyholeref04.Of -/
def f13_L8 {R : Type} (N : Nat) (t5_1 : Int) (t0_1 : List Int) (t4_1 : Int) (o0_1 : List Int) (kb : Int × Int → Option R) (kx2 : Int → Option R) : Int × Int → Option R :=
  fun (t7, t6) =>
    cond (decide (t7 < t5_1))
      ((idx t0_1 t7).bind fun x =>
      (idx t0_1 t5_1).bind fun x_1 =>
      cond (decide (x = x_1))
        (chk (inb o0_1 t7) <|
        (idx o0_1 t7).bind fun x_2 =>
        kb ((wi64 (t7 + 1)), x_2))
        (kb ((wi64 (t7 + 1)), t6)))
      (kx2 t6)
def f13_L4 {R : Type} (N : Nat) (t0 : List Int) (kb : Int × Int × List Int → Option R) (kx0 : (List Int) → Option R) : Int × Int × List Int → Option R :=
  fun (t5, t4, o0) =>
    cond (decide (t5 < (len t0)))
      (iter (fun w => f13_L8 N t5 t0 t4 o0 w
        (fun t6_1 =>
          cond (decide (t6_1 = t4))
            (chk (decide ((o0.length.succ) ≤ room)) <|
            kb ((wi64 (t5 + 1)), (wi64 (t4 + 1)), (o0 ++ (t6_1 :: ([] : List Int)))))
            (chk (decide ((o0.length.succ) ≤ room)) <|
            kb ((wi64 (t5 + 1)), t4, (o0 ++ (t6_1 :: ([] : List Int))))))) N (0, t4))
      (kx0 o0)
def f13 (N : Nat) (a0 : List Int) : Option (List Int) :=
  iter (fun w => f13_L4 N a0 w
    (fun o0_2 =>
      some o0_2)) N (0, 0, ([] : List Int))
def c13 (N : Nat) : Callee := .pure (.pr (.val (.sl false (.int .i64))) .un) [(.sl true (.int .i64))] fun d => f13 N d.1
def F13_8 : SForm := ⟨[(7, (.val (.int .i64))), (3, (.ref 0)), (5, (.val (.int .i64))), (0, (.val (.sl false (.int .i64)))), (6, (.val (.int .i64))), (4, (.val (.int .i64)))], [.row (.int .i64)]⟩
def G13_8 (N : Nat) : (R : Type) → F13_8.den → (AExit → St → Option R) → Option R := fun R d k => iter (fun kb => f13_L8 N d.1.2.2.1 d.1.2.2.2.1 d.1.2.2.2.2.2.1 d.2.1 kb
    (fun y2 => k (.exit 2) (St.of [(0, (.data (.sl false (.int .i64)) d.1.2.2.2.1)), (5, (.data (.int .i64) d.1.2.2.1)), (6, (.data (.int .i64) y2)), (3, (.ref 0 [] 0)), (4, (.data (.int .i64) d.1.2.2.2.2.2.1))] [.row (.int .i64) d.2.1 0]))) N (d.1.1, d.1.2.2.2.2.1)
def F13_4 : SForm := ⟨[(3, (.ref 0)), (5, (.val (.int .i64))), (0, (.val (.sl false (.int .i64)))), (4, (.val (.int .i64)))], [.row (.int .i64)]⟩
def G13_4 (N : Nat) : (R : Type) → F13_4.den → (AExit → St → Option R) → Option R := fun R d k => iter (fun kb => f13_L4 N d.1.2.2.1 kb
    (fun y0 => k (.exit 0) (St.of [(3, (.ref 0 [] 0))] [.row (.int .i64) y0 0]))) N (d.1.2.1, d.1.2.2.2.1, d.2.1)
def lp13 (N : Nat) : Nat → Option LoopFn := fun r => cond (Nat.beq r 8) (some fun R sl os k => F13_8.take sl os fun d => G13_8 N R d k) (cond (Nat.beq r 4) (some fun R sl os k => F13_4.take sl os fun d => G13_4 N R d k) (none))
def x13 (N : Nat) : Ctx := { fuel := N, tt := getL ttL, mt := getL mtL, ntmps := 43, env := fun f => (getL [] f).getD [], cut := getL [(4, ⟨[3, 5, 0, 4], [(3, none, .row (.int .i64))]⟩), (8, ⟨[7, 3, 5, 0, 6, 4], []⟩)], exits := fun r => getL ((getL [(4, [(0, ⟨[3], []⟩)]), (8, [(2, ⟨[0, 5, 6, 3, 4], []⟩)])] r).getD []), res := ⟨[2], []⟩, own := fun _ => none, lp := lp13 N }
noncomputable def b13 : Code := ((Go.Proofs.Try.f13).body).getD .skip
theorem s13_8 (N : Nat) {R : Type} (k : AExit → St → Option R) (t5_1 : Int) (t0_1 : List Int) (t4_1 : Int) (o0_1 : List Int) (kb : List (Nat × AVal) → List Obj → Option R) (x : Int × Int) : codeK (x13 N) (loopAt 8 (loopsOf b13)) (St.of [(7, (.data (.int .i64) x.1)), (3, (.ref 0 [] 0)), (5, (.data (.int .i64) t5_1)), (0, (.data (.sl false (.int .i64)) t0_1)), (6, (.data (.int .i64) x.2)), (4, (.data (.int .i64) t4_1))] [.row (.int .i64) o0_1 0]) (kLoop (x13 N) 8 ⟨[7, 3, 5, 0, 6, 4], []⟩ kb k) = f13_L8 N t5_1 t0_1 t4_1 o0_1 (fun y => kb [(7, (.data (.int .i64) y.1)), (3, (.ref 0 [] 0)), (5, (.data (.int .i64) t5_1)), (0, (.data (.sl false (.int .i64)) t0_1)), (6, (.data (.int .i64) y.2)), (4, (.data (.int .i64) t4_1))] [.row (.int .i64) o0_1 0])
    (fun y2 => k (.exit 2) (St.of [(0, (.data (.sl false (.int .i64)) t0_1)), (5, (.data (.int .i64) t5_1)), (6, (.data (.int .i64) y2)), (3, (.ref 0 [] 0)), (4, (.data (.int .i64) t4_1))] [.row (.int .i64) o0_1 0])) x := by kernel_rfl
theorem l13_8 (N : Nat) : LoopOK (x13 N) (loopAt 8 (loopsOf b13)) :=
  loop_mk (G13_8 N) (by kernel_rfl) (by kernel_rfl) (by kernel_rfl) fun R k d =>
    loop_eq (st := fun (x : Int × Int) => ([(7, (.data (.int .i64) x.1)), (3, (.ref 0 [] 0)), (5, (.data (.int .i64) d.1.2.2.1)), (0, (.data (.sl false (.int .i64)) d.1.2.2.2.1)), (6, (.data (.int .i64) x.2)), (4, (.data (.int .i64) d.1.2.2.2.2.2.1))], [.row (.int .i64) d.2.1 0])) (s13_8 N k d.1.2.2.1 d.1.2.2.2.1 d.1.2.2.2.2.2.1 d.2.1) N (d.1.1, d.1.2.2.2.2.1)
theorem s13_4 (N : Nat) {R : Type} (k : AExit → St → Option R) (t0 : List Int) (kb : List (Nat × AVal) → List Obj → Option R) (x : Int × Int × List Int) : codeK (x13 N) (loopAt 4 (loopsOf b13)) (St.of [(3, (.ref 0 [] 0)), (5, (.data (.int .i64) x.1)), (0, (.data (.sl false (.int .i64)) t0)), (4, (.data (.int .i64) x.2.1))] [.row (.int .i64) x.2.2 0]) (kLoop (x13 N) 4 ⟨[3, 5, 0, 4], [(3, none, .row (.int .i64))]⟩ kb k) = f13_L4 N t0 (fun y => kb [(3, (.ref 0 [] 0)), (5, (.data (.int .i64) y.1)), (0, (.data (.sl false (.int .i64)) t0)), (4, (.data (.int .i64) y.2.1))] [.row (.int .i64) y.2.2 0])
    (fun y0 => k (.exit 0) (St.of [(3, (.ref 0 [] 0))] [.row (.int .i64) y0 0])) x := by kernel_rfl
theorem l13_4 (N : Nat) : LoopOK (x13 N) (loopAt 4 (loopsOf b13)) :=
  loop_mk (G13_4 N) (by kernel_rfl) (by kernel_rfl) (by kernel_rfl) fun R k d =>
    loop_eq (st := fun (x : Int × Int × List Int) => ([(3, (.ref 0 [] 0)), (5, (.data (.int .i64) x.1)), (0, (.data (.sl false (.int .i64)) d.1.2.2.1)), (4, (.data (.int .i64) x.2.1))], [.row (.int .i64) x.2.2 0])) (s13_4 N k d.1.2.2.1) N (d.1.2.1, d.1.2.2.2.1, d.2.1)
theorem e13 (N : Nat) (a0 : List Int) : bodyK (x13 N) [(.sl true (.int .i64))] [.tmp 2] b13 (entry (.pr (.val (.sl false (.int .i64))) .un) (a0, ())) = f13 N a0 := by kernel_rfl
theorem k13 (N : Nat) : CalleeOK Go.Proofs.Try.prog 13 (c13 N) :=
  fn_ok (fn := Go.Proofs.Try.f13) (body := b13) (c := x13 N) Go.Proofs.Try.func13 (by kernel_rfl) (by kernel_rfl) ⟨ttL_ok, mtL_ok, env_nil⟩ mixed (by kernel_rfl) (Nat.le_of_ble_eq_true (by kernel_rfl)) (by kernel_rfl) (by decide)
    (loops_ok (by kernel_rfl : loopsOf b13 = [loopAt 4 (loopsOf b13), loopAt 8 (loopsOf b13)]) (.cons (l13_4 N) (.cons (l13_8 N) .nil))) fun d => e13 N d.1
/-! ### 15: keyhole/keyholeref04.Valid -/
def f15_L3 {R : Type} (N : Nat) (t0 : List Int) (kb : Int × Int → Option R) (kret : Bool → Option R) (kx0 : Unit → Option R) : Int × Int → Option R :=
  fun (t4, t3) =>
    cond (decide (t4 < (len t0)))
      ((idx t0 t4).bind fun x =>
      (cond (decide (x < 0))
          (some true)
          ((idx t0 t4).bind fun x_1 =>
          some (decide (t3 < x_1)))).bind fun b =>
      cond b
        (kret false)
        ((idx t0 t4).bind fun x_2 =>
        cond (decide (x_2 = t3))
          (kb ((wi64 (t4 + 1)), (wi64 (t3 + 1))))
          (kb ((wi64 (t4 + 1)), t3))))
      (kx0 ())
def f15 (N : Nat) (a0 : List Int) : Option (Bool) :=
  iter (fun w => f15_L3 N a0 w
    (fun t2 =>
      some t2)
    (fun (_ : Unit) =>
      some true)) N (0, 0)
def c15 (N : Nat) : Callee := .pure (.pr (.val (.sl false (.int .i64))) .un) [.bool] fun d => f15 N d.1
def F15_3 : SForm := ⟨[(4, (.val (.int .i64))), (3, (.val (.int .i64))), (0, (.val (.sl false (.int .i64))))], []⟩
def G15_3 (N : Nat) : (R : Type) → F15_3.den → (AExit → St → Option R) → Option R := fun R d k => iter (fun kb => f15_L3 N d.1.2.2.1 kb
    (fun y0 => k .ret (St.of [(2, (.data .bool y0))] []))
    (fun _ => k (.exit 0) (St.of [] []))) N (d.1.1, d.1.2.1)
def lp15 (N : Nat) : Nat → Option LoopFn := fun r => cond (Nat.beq r 3) (some fun R sl os k => F15_3.take sl os fun d => G15_3 N R d k) (none)
def x15 (N : Nat) : Ctx := { fuel := N, tt := getL ttL, mt := getL mtL, ntmps := 32, env := fun f => (getL [] f).getD [], cut := getL [(3, ⟨[4, 3, 0], []⟩)], exits := fun r => getL ((getL [(3, [(0, ⟨[], []⟩)])] r).getD []), res := ⟨[2], []⟩, own := fun _ => none, lp := lp15 N }
noncomputable def b15 : Code := ((Go.Proofs.Try.f15).body).getD .skip
theorem s15_3 (N : Nat) {R : Type} (k : AExit → St → Option R) (t0 : List Int) (kb : List (Nat × AVal) → List Obj → Option R) (x : Int × Int) : codeK (x15 N) (loopAt 3 (loopsOf b15)) (St.of [(4, (.data (.int .i64) x.1)), (3, (.data (.int .i64) x.2)), (0, (.data (.sl false (.int .i64)) t0))] []) (kLoop (x15 N) 3 ⟨[4, 3, 0], []⟩ kb k) = f15_L3 N t0 (fun y => kb [(4, (.data (.int .i64) y.1)), (3, (.data (.int .i64) y.2)), (0, (.data (.sl false (.int .i64)) t0))] [])
    (fun y0 => k .ret (St.of [(2, (.data .bool y0))] []))
    (fun _ => k (.exit 0) (St.of [] [])) x := by kernel_rfl
theorem l15_3 (N : Nat) : LoopOK (x15 N) (loopAt 3 (loopsOf b15)) :=
  loop_mk (G15_3 N) (by kernel_rfl) (by kernel_rfl) (by kernel_rfl) fun R k d =>
    loop_eq (st := fun (x : Int × Int) => ([(4, (.data (.int .i64) x.1)), (3, (.data (.int .i64) x.2)), (0, (.data (.sl false (.int .i64)) d.1.2.2.1))], [])) (s15_3 N k d.1.2.2.1) N (d.1.1, d.1.2.1)
theorem e15 (N : Nat) (a0 : List Int) : bodyK (x15 N) [.bool] [.tmp 2] b15 (entry (.pr (.val (.sl false (.int .i64))) .un) (a0, ())) = f15 N a0 := by kernel_rfl
theorem k15 (N : Nat) : CalleeOK Go.Proofs.Try.prog 15 (c15 N) :=
  fn_ok (fn := Go.Proofs.Try.f15) (body := b15) (c := x15 N) Go.Proofs.Try.func15 (by kernel_rfl) (by kernel_rfl) ⟨ttL_ok, mtL_ok, env_nil⟩ mixed (by kernel_rfl) (Nat.le_of_ble_eq_true (by kernel_rfl)) (by kernel_rfl) (by decide)
    (loops_ok (by kernel_rfl : loopsOf b15 = [loopAt 3 (loopsOf b15)]) (.cons (l15_3 N) .nil)) fun d => e15 N d.1
/-! ### 3: keyhole/keyholelaw04.PartitionCanonical -/
def f3 (N : Nat) (a0 : List Int) (a1 : List Int) : Option (Bool) :=
  (f10 N).bind fun r =>
  cond (!r)
    (some false)
    ((cond (decide (64 < (len a0)))
        (some true)
        (some (decide (64 < (len a1))))).bind fun b =>
    cond b
      (some true)
      ((f11 N a0).bind fun r_1 =>
      (f13 N a0).bind fun r_2 =>
      (f12 N r_1 r_2).bind fun r_3 =>
      (cond r_3
          ((f14 N r_1).bind fun r_4 =>
          some r_4)
          (some false)).bind fun b_1 =>
      (cond b_1
          ((f14 N a1).bind fun r_5 =>
          (f15 N a1).bind fun r_6 =>
          some (decide (r_5 = r_6)))
          (some false)).bind fun b_2 =>
      (cond b_2
          ((f11 N a1).bind fun r_7 =>
          (f12 N r_7 a1).bind fun r_8 =>
          (f15 N a1).bind fun r_9 =>
          some (decide (r_8 = r_9)))
          (some false)).bind fun b_3 =>
      some b_3))
def c3 (N : Nat) : Callee := .pure (.pr (.val (.sl false (.int .i64))) (.pr (.val (.sl false (.int .i64))) .un)) [.bool] fun d => f3 N d.1 d.2.1
def lp3 (N : Nat) : Nat → Option LoopFn := fun r => none
def x3 (N : Nat) : Ctx := { fuel := N, tt := getL ttL, mt := getL mtL, ntmps := 42, env := fun f => (getL [(10, [c10 N]), (11, [c11 N]), (13, [c13 N]), (12, [c12 N]), (14, [c14 N]), (15, [c15 N])] f).getD [], cut := getL [], exits := fun r => getL ((getL [] r).getD []), res := ⟨[4], []⟩, own := fun _ => none, lp := lp3 N }
noncomputable def b3 : Code := ((Go.Proofs.Try.f3).body).getD .skip
theorem e3 (N : Nat) (a0 : List Int) (a1 : List Int) : bodyK (x3 N) [.bool] [.tmp 4] b3 (entry (.pr (.val (.sl false (.int .i64))) (.pr (.val (.sl false (.int .i64))) .un)) (a0, (a1, ()))) = f3 N a0 a1 := by kernel_rfl
theorem k3 (N : Nat) : CalleeOK Go.Proofs.Try.prog 3 (c3 N) :=
  fn_ok (fn := Go.Proofs.Try.f3) (body := b3) (c := x3 N) Go.Proofs.Try.func3 (by kernel_rfl) (by kernel_rfl) ⟨ttL_ok, mtL_ok, env_cons (forall_mem1 (k10 N)) (env_cons (forall_mem1 (k11 N)) (env_cons (forall_mem1 (k13 N)) (env_cons (forall_mem1 (k12 N)) (env_cons (forall_mem1 (k14 N)) (env_cons (forall_mem1 (k15 N)) (env_nil))))))⟩ mixed (by kernel_rfl) (Nat.le_of_ble_eq_true (by kernel_rfl)) (by kernel_rfl) (by decide)
    (loops_ok (by kernel_rfl : loopsOf b3 = []) .nil) fun d => e3 N d.1 d.2.1

end Go.Kz
