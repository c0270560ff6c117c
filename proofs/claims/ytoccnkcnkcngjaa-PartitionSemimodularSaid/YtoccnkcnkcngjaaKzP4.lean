/-
  The functions of the program as plain functions on lists and numbers, and the proofs that the program computes them. Printed by a program.
-/
import Derived.Test.YtoccnkcnkcngjaaKzAJ
import Derived.Test.YtoccnkcnkcngjaaProg
set_option linter.unusedSimpArgs false
set_option maxRecDepth 100000
set_option linter.unusedVariables false
namespace Go.Kz
open Go.Proofs

def ttL : List (Nat × Ty) := [(2, (.int .i64)), (3, (.int .i64)), (4, .bool), (5, (.int .u8)), (6, (.int .u8)), (7, (.pair (.int .i64) (.pair (.int .i64) (.pair .bool (.pair (.int .u8) .unit))))), (8, (.pair (.int .i64) (.pair (.int .i64) (.pair .bool (.pair (.int .u8) .unit))))), (9, .str), (10, .str), (11, .str), (12, (.int .u64)), (13, (.pair .str (.pair (.int .u64) .unit))), (14, (.pair .str (.pair (.int .u64) .unit))), (21, (.int .i32)), (22, (.sl false (.int .i64))), (32, (.int .i64)), (40, (.sl false (.sl false (.int .i64)))), (59, (.int .u32)), (60, (.int .u8)), (61, (.int .u8)), (64, (.int .i32)), (65, (.int .i32))]
def mtL : List (Nat × Ty × Ty) := [(45, (.int .i64), (.int .i64))]

theorem ttL_ok : TtOK Try.prog (getL ttL) := ttB_ok (by kernel_rfl)
theorem mtL_ok : MtOK Try.prog (getL mtL) := mtB_ok (by kernel_rfl)
theorem mixed : Try.prog.follows .mixedOrders = true := by kernel_rfl

/-! ### 11: keyhole/partition.Of -/
def f11_L4 {R : Type} (N : Nat) (t13 : List Int) (t14 : Int) (kb : Int × List Int × (List (Int × Int)) → Option R) (kx0 : (List Int) → Option R) : Int × List Int × (List (Int × Int)) → Option R :=
  fun (t15, o0, o1) =>
    cond (decide (t15 < t14))
      ((idx t13 t15).bind fun x =>
      cond (!(Option.isSome (mget (keyEq (.int .i64)) o1 x)))
        (chk (decide ((List.length o1) ≤ room)) <|
        chk (decide ((o0.length.succ) ≤ room)) <|
        kb ((wi64 (t15 + 1)), (o0 ++ ((len o1) :: ([] : List Int))), (mput (keyEq (.int .i64)) o1 x (len o1))))
        (chk (decide ((o0.length.succ) ≤ room)) <|
        kb ((wi64 (t15 + 1)), (o0 ++ ((Option.getD (mget (keyEq (.int .i64)) o1 x) 0) :: ([] : List Int))), o1)))
      (kx0 o0)
def f11 (N : Nat) (a0 : List Int) : Option (List Int) :=
  chk ((decide (0 ≤ (len a0))) && (decide ((len a0) ≤ ((room : Nat) : Int)))) <|
  iter (fun w => f11_L4 N a0 (len a0) w
    (fun o0_1 =>
      some o0_1)) N (0, (List.replicate (Int.toNat 0) 0 : List Int), ([] : List (Int × Int)))
def c11 (N : Nat) : Callee := .pure (.pr (.val (.sl false (.int .i64))) .un) [(.sl true (.int .i64))] fun d => f11 N d.1
def F11_4 : SForm := ⟨[(15, (.val (.int .i64))), (4, (.ref 0)), (3, (.mref 1)), (13, (.val (.sl false (.int .i64)))), (14, (.val (.int .i64)))], [.row (.int .i64), .map (.int .i64) (.int .i64)]⟩
def G11_4 (N : Nat) : (R : Type) → F11_4.den → (AExit → St → Option R) → Option R := fun R d k => iter (fun kb => f11_L4 N d.1.2.2.2.1 d.1.2.2.2.2.1 kb
    (fun y0 => k (.exit 0) (St.of [(4, (.ref 0 [] 0))] [.row (.int .i64) y0 0]))) N (d.1.1, d.2.1, d.2.2.1)
def lp11 (N : Nat) : Nat → Option LoopFn := fun r => cond (Nat.beq r 4) (some fun R sl os k => F11_4.take sl os fun d => G11_4 N R d k) (none)
def x11 (N : Nat) : Ctx := { fuel := N, tt := getL ttL, mt := getL mtL, ntmps := 38, env := fun f => (getL [] f).getD [], cut := getL [(4, ⟨[15, 4, 3, 13, 14], []⟩)], exits := fun r => getL ((getL [(4, [(0, ⟨[4], []⟩)])] r).getD []), res := ⟨[2], []⟩, own := fun _ => none, lp := lp11 N }
noncomputable def b11 : Code := ((Go.Proofs.Try.f11).body).getD .skip
theorem s11_4 (N : Nat) {R : Type} (k : AExit → St → Option R) (t13 : List Int) (t14 : Int) (kb : List (Nat × AVal) → List Obj → Option R) (x : Int × List Int × (List (Int × Int))) : codeK (x11 N) (loopAt 4 (loopsOf b11)) (St.of [(15, (.data (.int .i64) x.1)), (4, (.ref 0 [] 0)), (3, (.mref 1)), (13, (.data (.sl false (.int .i64)) t13)), (14, (.data (.int .i64) t14))] [.row (.int .i64) x.2.1 0, .map (.int .i64) (.int .i64) x.2.2]) (kLoop (x11 N) 4 ⟨[15, 4, 3, 13, 14], []⟩ kb k) = f11_L4 N t13 t14 (fun y => kb [(15, (.data (.int .i64) y.1)), (4, (.ref 0 [] 0)), (3, (.mref 1)), (13, (.data (.sl false (.int .i64)) t13)), (14, (.data (.int .i64) t14))] [.row (.int .i64) y.2.1 0, .map (.int .i64) (.int .i64) y.2.2])
    (fun y0 => k (.exit 0) (St.of [(4, (.ref 0 [] 0))] [.row (.int .i64) y0 0])) x := by kernel_rfl
theorem l11_4 (N : Nat) : LoopOK (x11 N) (loopAt 4 (loopsOf b11)) :=
  loop_mk (G11_4 N) (by kernel_rfl) (by kernel_rfl) (by kernel_rfl) fun R k d =>
    loop_eq (st := fun (x : Int × List Int × (List (Int × Int))) => ([(15, (.data (.int .i64) x.1)), (4, (.ref 0 [] 0)), (3, (.mref 1)), (13, (.data (.sl false (.int .i64)) d.1.2.2.2.1)), (14, (.data (.int .i64) d.1.2.2.2.2.1))], [.row (.int .i64) x.2.1 0, .map (.int .i64) (.int .i64) x.2.2])) (s11_4 N k d.1.2.2.2.1 d.1.2.2.2.2.1) N (d.1.1, d.2.1, d.2.2.1)
theorem e11 (N : Nat) (a0 : List Int) : bodyK (x11 N) [(.sl true (.int .i64))] [.tmp 2] b11 (entry (.pr (.val (.sl false (.int .i64))) .un) (a0, ())) = f11 N a0 := by kernel_rfl
theorem k11 (N : Nat) : CalleeOK Go.Proofs.Try.prog 11 (c11 N) :=
  fn_ok (fn := Go.Proofs.Try.f11) (body := b11) (c := x11 N) Go.Proofs.Try.func11 (by kernel_rfl) (by kernel_rfl) ⟨ttL_ok, mtL_ok, env_nil⟩ mixed (by kernel_rfl) (Nat.le_of_ble_eq_true (by kernel_rfl)) (by kernel_rfl) (by decide)
    (loops_ok (by kernel_rfl : loopsOf b11 = [loopAt 4 (loopsOf b11)]) (.cons (l11_4 N) .nil)) fun d => e11 N d.1
/-! ### 14: keyhole/partition.Valid -/
def f14_L3 {R : Type} (N : Nat) (t6 : List Int) (t7 : Int) (kb : Int × Int → Option R) (kret : Bool → Option R) (kx0 : Unit → Option R) : Int × Int → Option R :=
  fun (t8, t3) =>
    cond (decide (t8 < t7))
      ((idx t6 t8).bind fun x =>
      (cond (decide (x < 0))
          (some true)
          (some (decide (t3 < x)))).bind fun b =>
      cond b
        (kret false)
        (kb ((wi64 (t8 + 1)), (maxI t3 (wi64 (x + 1))))))
      (kx0 ())
def f14 (N : Nat) (a0 : List Int) : Option (Bool) :=
  iter (fun w => f14_L3 N a0 (len a0) w
    (fun t2 =>
      some t2)
    (fun (_ : Unit) =>
      some true)) N (0, 0)
def c14 (N : Nat) : Callee := .pure (.pr (.val (.sl false (.int .i64))) .un) [.bool] fun d => f14 N d.1
def F14_3 : SForm := ⟨[(8, (.val (.int .i64))), (3, (.val (.int .i64))), (6, (.val (.sl false (.int .i64)))), (7, (.val (.int .i64)))], []⟩
def G14_3 (N : Nat) : (R : Type) → F14_3.den → (AExit → St → Option R) → Option R := fun R d k => iter (fun kb => f14_L3 N d.1.2.2.1 d.1.2.2.2.1 kb
    (fun y0 => k .ret (St.of [(2, (.data .bool y0))] []))
    (fun _ => k (.exit 0) (St.of [] []))) N (d.1.1, d.1.2.1)
def lp14 (N : Nat) : Nat → Option LoopFn := fun r => cond (Nat.beq r 3) (some fun R sl os k => F14_3.take sl os fun d => G14_3 N R d k) (none)
def x14 (N : Nat) : Ctx := { fuel := N, tt := getL ttL, mt := getL mtL, ntmps := 24, env := fun f => (getL [] f).getD [], cut := getL [(3, ⟨[8, 3, 6, 7], []⟩)], exits := fun r => getL ((getL [(3, [(0, ⟨[], []⟩)])] r).getD []), res := ⟨[2], []⟩, own := fun _ => none, lp := lp14 N }
noncomputable def b14 : Code := ((Go.Proofs.Try.f14).body).getD .skip
theorem s14_3 (N : Nat) {R : Type} (k : AExit → St → Option R) (t6 : List Int) (t7 : Int) (kb : List (Nat × AVal) → List Obj → Option R) (x : Int × Int) : codeK (x14 N) (loopAt 3 (loopsOf b14)) (St.of [(8, (.data (.int .i64) x.1)), (3, (.data (.int .i64) x.2)), (6, (.data (.sl false (.int .i64)) t6)), (7, (.data (.int .i64) t7))] []) (kLoop (x14 N) 3 ⟨[8, 3, 6, 7], []⟩ kb k) = f14_L3 N t6 t7 (fun y => kb [(8, (.data (.int .i64) y.1)), (3, (.data (.int .i64) y.2)), (6, (.data (.sl false (.int .i64)) t6)), (7, (.data (.int .i64) t7))] [])
    (fun y0 => k .ret (St.of [(2, (.data .bool y0))] []))
    (fun _ => k (.exit 0) (St.of [] [])) x := by kernel_rfl
theorem l14_3 (N : Nat) : LoopOK (x14 N) (loopAt 3 (loopsOf b14)) :=
  loop_mk (G14_3 N) (by kernel_rfl) (by kernel_rfl) (by kernel_rfl) fun R k d =>
    loop_eq (st := fun (x : Int × Int) => ([(8, (.data (.int .i64) x.1)), (3, (.data (.int .i64) x.2)), (6, (.data (.sl false (.int .i64)) d.1.2.2.1)), (7, (.data (.int .i64) d.1.2.2.2.1))], [])) (s14_3 N k d.1.2.2.1 d.1.2.2.2.1) N (d.1.1, d.1.2.1)
theorem e14 (N : Nat) (a0 : List Int) : bodyK (x14 N) [.bool] [.tmp 2] b14 (entry (.pr (.val (.sl false (.int .i64))) .un) (a0, ())) = f14 N a0 := by kernel_rfl
theorem k14 (N : Nat) : CalleeOK Go.Proofs.Try.prog 14 (c14 N) :=
  fn_ok (fn := Go.Proofs.Try.f14) (body := b14) (c := x14 N) Go.Proofs.Try.func14 (by kernel_rfl) (by kernel_rfl) ⟨ttL_ok, mtL_ok, env_nil⟩ mixed (by kernel_rfl) (Nat.le_of_ble_eq_true (by kernel_rfl)) (by kernel_rfl) (by decide)
    (loops_ok (by kernel_rfl : loopsOf b14 = [loopAt 3 (loopsOf b14)]) (.cons (l14_3 N) .nil)) fun d => e14 N d.1
/-! ### 38: keyhole/partition.two -/
def f38 (N : Nat) (a0 : List Int) (a1 : List Int) : Option (Int) :=
  (f14 N a0).bind fun r =>
  (cond (!r)
      (some true)
      ((f14 N a1).bind fun r_1 =>
      some (!r_1))).bind fun b =>
  cond b
    (some 1)
    (cond (!(decide ((len a0) = (len a1))))
      (some 2)
      (some 0))
def c38 (N : Nat) : Callee := .pure (.pr (.val (.sl false (.int .i64))) (.pr (.val (.sl false (.int .i64))) .un)) [(.int .i64)] fun d => f38 N d.1 d.2.1
def lp38 (N : Nat) : Nat → Option LoopFn := fun r => none
def x38 (N : Nat) : Ctx := { fuel := N, tt := getL ttL, mt := getL mtL, ntmps := 18, env := fun f => (getL [(14, [c14 N])] f).getD [], cut := getL [], exits := fun r => getL ((getL [] r).getD []), res := ⟨[4], []⟩, own := fun _ => none, lp := lp38 N }
noncomputable def b38 : Code := ((Go.Proofs.Try.f38).body).getD .skip
theorem e38 (N : Nat) (a0 : List Int) (a1 : List Int) : bodyK (x38 N) [(.int .i64)] [.tmp 4] b38 (entry (.pr (.val (.sl false (.int .i64))) (.pr (.val (.sl false (.int .i64))) .un)) (a0, (a1, ()))) = f38 N a0 a1 := by kernel_rfl
theorem k38 (N : Nat) : CalleeOK Go.Proofs.Try.prog 38 (c38 N) :=
  fn_ok (fn := Go.Proofs.Try.f38) (body := b38) (c := x38 N) Go.Proofs.Try.func38 (by kernel_rfl) (by kernel_rfl) ⟨ttL_ok, mtL_ok, env_cons (forall_mem1 (k14 N)) (env_nil)⟩ mixed (by kernel_rfl) (Nat.le_of_ble_eq_true (by kernel_rfl)) (by kernel_rfl) (by decide)
    (loops_ok (by kernel_rfl : loopsOf b38 = []) .nil) fun d => e38 N d.1 d.2.1
/-! ### 19: keyhole/partition.Meet -/
def f19_L6 {R : Type} (N : Nat) (t1 : List Int) (t0 : List Int) (t19 : Int) (kb : Int × List Int → Option R) (kx0 : (List Int) → Option R) : Int × List Int → Option R :=
  fun (t20, o0) =>
    cond (decide (t20 < t19))
      ((idx t0 t20).bind fun x =>
      (idx t1 t20).bind fun x_1 =>
      chk (inb o0 t20) <|
      (idx o0 t20).bind fun x_2 =>
      (idx o0 t20).bind fun x_3 =>
      kb ((wi64 (t20 + 1)), (setI o0 t20 (wi64 ((wi64 (x * (wi64 ((len t0) + 1)))) + x_1)))))
      (kx0 o0)
def f19 (N : Nat) (a0 : List Int) (a1 : List Int) : Option (List Int × Int) :=
  (f38 N a0 a1).bind fun r =>
  cond (!(decide (r = 0)))
    (some (([] : List Int), r))
    (chk (((decide (0 ≤ (len a0))) && (decide ((len a0) ≤ (len a0)))) && (decide ((len a0) ≤ ((room : Nat) : Int)))) <|
    iter (fun w => f19_L6 N a1 a0 (len a0) w
      (fun o0_1 =>
        (f11 N o0_1).bind fun r_1 =>
        some (r_1, 0))) N (0, (List.replicate (Int.toNat (len a0)) 0 : List Int)))
def c19 (N : Nat) : Callee := .pure (.pr (.val (.sl false (.int .i64))) (.pr (.val (.sl false (.int .i64))) .un)) [(.sl true (.int .i64)), (.int .i64)] fun d => f19 N d.1 d.2.1
def F19_6 : SForm := ⟨[(20, (.val (.int .i64))), (1, (.val (.sl false (.int .i64)))), (0, (.val (.sl false (.int .i64)))), (7, (.ref 0)), (19, (.val (.int .i64)))], [.row (.int .i64)]⟩
def G19_6 (N : Nat) : (R : Type) → F19_6.den → (AExit → St → Option R) → Option R := fun R d k => iter (fun kb => f19_L6 N d.1.2.1 d.1.2.2.1 d.1.2.2.2.2.1 kb
    (fun y0 => k (.exit 0) (St.of [(7, (.ref 0 [] 0))] [.row (.int .i64) y0 0]))) N (d.1.1, d.2.1)
def lp19 (N : Nat) : Nat → Option LoopFn := fun r => cond (Nat.beq r 6) (some fun R sl os k => F19_6.take sl os fun d => G19_6 N R d k) (none)
def x19 (N : Nat) : Ctx := { fuel := N, tt := getL ttL, mt := getL mtL, ntmps := 42, env := fun f => (getL [(38, [c38 N]), (11, [c11 N])] f).getD [], cut := getL [(6, ⟨[20, 1, 0, 7, 19], []⟩)], exits := fun r => getL ((getL [(6, [(0, ⟨[7], []⟩)])] r).getD []), res := ⟨[4, 5], []⟩, own := fun _ => none, lp := lp19 N }
noncomputable def b19 : Code := ((Go.Proofs.Try.f19).body).getD .skip
theorem s19_6 (N : Nat) {R : Type} (k : AExit → St → Option R) (t1 : List Int) (t0 : List Int) (t19 : Int) (kb : List (Nat × AVal) → List Obj → Option R) (x : Int × List Int) : codeK (x19 N) (loopAt 6 (loopsOf b19)) (St.of [(20, (.data (.int .i64) x.1)), (1, (.data (.sl false (.int .i64)) t1)), (0, (.data (.sl false (.int .i64)) t0)), (7, (.ref 0 [] 0)), (19, (.data (.int .i64) t19))] [.row (.int .i64) x.2 0]) (kLoop (x19 N) 6 ⟨[20, 1, 0, 7, 19], []⟩ kb k) = f19_L6 N t1 t0 t19 (fun y => kb [(20, (.data (.int .i64) y.1)), (1, (.data (.sl false (.int .i64)) t1)), (0, (.data (.sl false (.int .i64)) t0)), (7, (.ref 0 [] 0)), (19, (.data (.int .i64) t19))] [.row (.int .i64) y.2 0])
    (fun y0 => k (.exit 0) (St.of [(7, (.ref 0 [] 0))] [.row (.int .i64) y0 0])) x := by kernel_rfl
theorem l19_6 (N : Nat) : LoopOK (x19 N) (loopAt 6 (loopsOf b19)) :=
  loop_mk (G19_6 N) (by kernel_rfl) (by kernel_rfl) (by kernel_rfl) fun R k d =>
    loop_eq (st := fun (x : Int × List Int) => ([(20, (.data (.int .i64) x.1)), (1, (.data (.sl false (.int .i64)) d.1.2.1)), (0, (.data (.sl false (.int .i64)) d.1.2.2.1)), (7, (.ref 0 [] 0)), (19, (.data (.int .i64) d.1.2.2.2.2.1))], [.row (.int .i64) x.2 0])) (s19_6 N k d.1.2.1 d.1.2.2.1 d.1.2.2.2.2.1) N (d.1.1, d.2.1)
theorem e19 (N : Nat) (a0 : List Int) (a1 : List Int) : bodyK (x19 N) [(.sl true (.int .i64)), (.int .i64)] [.tmp 4, .tmp 5] b19 (entry (.pr (.val (.sl false (.int .i64))) (.pr (.val (.sl false (.int .i64))) .un)) (a0, (a1, ()))) = f19 N a0 a1 := by kernel_rfl
theorem k19 (N : Nat) : CalleeOK Go.Proofs.Try.prog 19 (c19 N) :=
  fn_ok (fn := Go.Proofs.Try.f19) (body := b19) (c := x19 N) Go.Proofs.Try.func19 (by kernel_rfl) (by kernel_rfl) ⟨ttL_ok, mtL_ok, env_cons (forall_mem1 (k38 N)) (env_cons (forall_mem1 (k11 N)) (env_nil))⟩ mixed (by kernel_rfl) (Nat.le_of_ble_eq_true (by kernel_rfl)) (by kernel_rfl) (by decide)
    (loops_ok (by kernel_rfl : loopsOf b19 = [loopAt 6 (loopsOf b19)]) (.cons (l19_6 N) .nil)) fun d => e19 N d.1 d.2.1
/-! ### 40: keyhole/partition.Join$1 -/
def f40_L1 {R : Type} (N : Nat) (t1 : List Int) (kb : Int → Option R) (kx0 : Int → Option R) : Int → Option R :=
  fun t0 =>
    (idx t1 t0).bind fun x =>
    cond (!(decide (x = t0)))
      ((idx t1 t0).bind fun x_1 =>
      kb x_1)
      (kx0 t0)
def f40 (N : Nat) (a0 : Int) (a1 : List Int) : Option (Int) :=
  iter (fun w => f40_L1 N a1 w
    (fun t0_1 =>
      some t0_1)) N a0
def c40 (N : Nat) : Callee := .pure (.pr (.val (.int .i64)) (.pr (.val (.ptr (.sl false (.int .i64)))) .un)) [(.int .i64)] fun d => f40 N d.1 d.2.1
def F40_1 : SForm := ⟨[(0, (.val (.int .i64))), (1, (.val (.ptr (.sl false (.int .i64)))))], []⟩
def G40_1 (N : Nat) : (R : Type) → F40_1.den → (AExit → St → Option R) → Option R := fun R d k => iter (fun kb => f40_L1 N d.1.2.1 kb
    (fun y0 => k (.exit 0) (St.of [(0, (.data (.int .i64) y0))] []))) N d.1.1
def lp40 (N : Nat) : Nat → Option LoopFn := fun r => cond (Nat.beq r 1) (some fun R sl os k => F40_1.take sl os fun d => G40_1 N R d k) (none)
def x40 (N : Nat) : Ctx := { fuel := N, tt := getL ttL, mt := getL mtL, ntmps := 15, env := fun f => (getL [] f).getD [], cut := getL [(1, ⟨[0, 1], []⟩)], exits := fun r => getL ((getL [(1, [(0, ⟨[0], []⟩)])] r).getD []), res := ⟨[3], []⟩, own := fun _ => none, lp := lp40 N }
noncomputable def b40 : Code := ((Go.Proofs.Try.f40).body).getD .skip
theorem s40_1 (N : Nat) {R : Type} (k : AExit → St → Option R) (t1 : List Int) (kb : List (Nat × AVal) → List Obj → Option R) (x : Int) : codeK (x40 N) (loopAt 1 (loopsOf b40)) (St.of [(0, (.data (.int .i64) x)), (1, (.data (.ptr (.sl false (.int .i64))) t1))] []) (kLoop (x40 N) 1 ⟨[0, 1], []⟩ kb k) = f40_L1 N t1 (fun y => kb [(0, (.data (.int .i64) y)), (1, (.data (.ptr (.sl false (.int .i64))) t1))] [])
    (fun y0 => k (.exit 0) (St.of [(0, (.data (.int .i64) y0))] [])) x := by kernel_rfl
theorem l40_1 (N : Nat) : LoopOK (x40 N) (loopAt 1 (loopsOf b40)) :=
  loop_mk (G40_1 N) (by kernel_rfl) (by kernel_rfl) (by kernel_rfl) fun R k d =>
    loop_eq (st := fun (x : Int) => ([(0, (.data (.int .i64) x)), (1, (.data (.ptr (.sl false (.int .i64))) d.1.2.1))], [])) (s40_1 N k d.1.2.1) N d.1.1
theorem e40 (N : Nat) (a0 : Int) (a1 : List Int) : bodyK (x40 N) [(.int .i64)] [.tmp 3] b40 (entry (.pr (.val (.int .i64)) (.pr (.val (.ptr (.sl false (.int .i64)))) .un)) (a0, (a1, ()))) = f40 N a0 a1 := by kernel_rfl
theorem k40 (N : Nat) : CalleeOK Go.Proofs.Try.prog 40 (c40 N) :=
  fn_ok (fn := Go.Proofs.Try.f40) (body := b40) (c := x40 N) Go.Proofs.Try.func40 (by kernel_rfl) (by kernel_rfl) ⟨ttL_ok, mtL_ok, env_nil⟩ mixed (by kernel_rfl) (Nat.le_of_ble_eq_true (by kernel_rfl)) (by kernel_rfl) (by decide)
    (loops_ok (by kernel_rfl : loopsOf b40 = [loopAt 1 (loopsOf b40)]) (.cons (l40_1 N) .nil)) fun d => e40 N d.1 d.2.1
/-! ### 21: keyhole/partition.Join -/
def f21_L6 {R : Type} (N : Nat) (t0 : List Int) (t1 : List Int) (t30 : Int) (kb : Int × List Int → Option R) (kx0 : (List Int) → Option R) : Int × List Int → Option R :=
  fun (t31, o1) =>
    cond (decide (t31 < t30))
      (chk (inb o1 t31) <|
      (idx o1 t31).bind fun x =>
      (idx o1 t31).bind fun x_1 =>
      kb ((wi64 (t31 + 1)), (setI o1 t31 t31)))
      (kx0 o1)
def f21_L16 {R : Type} (N : Nat) (t0_2 : List Int) (t43_1 : Int) (t44_1 : Int) (t11 : List Int) (t52 : Int) (o2_1 : List Int) (o3 : List (List Int)) (kb : Int × List Int → Option R) (kx4 : (List Int) → Option R) : Int × List Int → Option R :=
  fun (t53, o0) =>
    cond (decide (t53 < t52))
      (chk (inb o0 t53) <|
      (idx o0 t53).bind fun x_3 =>
      (idx o0 t53).bind fun x_4 =>
      kb ((wi64 (t53 + 1)), (setI o0 t53 (-1))))
      (kx4 o0)
def f21_L21 {R : Type} (N : Nat) (t60 : List Int) (t0_3 : List Int) (t43_2 : Int) (t44_2 : Int) (t61 : Int) (o3_1 : List (List Int)) (kb : Int × List Int × List Int → Option R) (kx6 : (List Int) → Option R) : Int × List Int × List Int → Option R :=
  fun (t62, o0_2, o2_2) =>
    cond (decide (t62 < t61))
      ((idx t60 t62).bind fun x_5 =>
      chk (inb o0_2 x_5) <|
      (idx o0_2 x_5).bind fun x_6 =>
      cond (decide (x_6 < 0))
        (chk (inb o0_2 x_5) <|
        (idx o0_2 x_5).bind fun x_7 =>
        (idx o0_2 x_5).bind fun x_8 =>
        kb ((wi64 (t62 + 1)), (setI o0_2 x_5 t62), o2_2))
        (chk (inb o0_2 x_5) <|
        (idx o0_2 x_5).bind fun x_9 =>
        (f40 N x_9 o2_2).bind fun r_1 =>
        (f40 N t62 o2_2).bind fun r_2 =>
        chk (inb o2_2 (maxI r_1 r_2)) <|
        (idx o2_2 (maxI r_1 r_2)).bind fun x_10 =>
        (idx o2_2 (maxI r_1 r_2)).bind fun x_11 =>
        kb ((wi64 (t62 + 1)), o0_2, (setI o2_2 (maxI r_1 r_2) (minI r_1 r_2)))))
      (kx6 o2_2)
def f21_L12 {R : Type} (N : Nat) (t0_1 : List Int) (t43 : Int) (o2 : List (List Int)) (kb : Int × List Int → Option R) (kx2 : (List Int) → Option R) : Int × List Int → Option R :=
  fun (t44, o1_2) =>
    cond (decide (t44 < t43))
      (chk (inb o2 t44) <|
      (idx o2 t44).bind fun x_2 =>
      chk (((decide (0 ≤ (len t0_1))) && (decide ((len t0_1) ≤ (len t0_1)))) && (decide ((len t0_1) ≤ ((room : Nat) : Int)))) <|
      iter (fun w => f21_L16 N t0_1 t43 t44 x_2 (len (List.replicate (Int.toNat (len t0_1)) 0 : List Int)) o1_2 o2 w
        (fun o0_1 =>
          iter (fun w => f21_L21 N x_2 t0_1 t43 t44 (len x_2) o2 w
            (fun o1_3 =>
              kb ((wi64 (t44 + 1)), o1_3))) N (0, o0_1, o1_2))) N (0, (List.replicate (Int.toNat (len t0_1)) 0 : List Int)))
      (kx2 o1_2)
def f21_L31 {R : Type} (N : Nat) (t99 : Int) (o1_5 : List Int) (kb : Int × List Int → Option R) (kx8 : (List Int) → Option R) : Int × List Int → Option R :=
  fun (t100, o2_3) =>
    cond (decide (t100 < t99))
      ((f40 N t100 o1_5).bind fun r_3 =>
      chk (inb o2_3 t100) <|
      (idx o2_3 t100).bind fun x_12 =>
      (idx o2_3 t100).bind fun x_13 =>
      kb ((wi64 (t100 + 1)), (setI o2_3 t100 r_3)))
      (kx8 o2_3)
def f21 (N : Nat) (a0 : List Int) (a1 : List Int) : Option (List Int × Int) :=
  (f38 N a0 a1).bind fun r =>
  cond (!(decide (r = 0)))
    (some (([] : List Int), r))
    (chk (((decide (0 ≤ (len a0))) && (decide ((len a0) ≤ (len a0)))) && (decide ((len a0) ≤ ((room : Nat) : Int)))) <|
    iter (fun w => f21_L6 N a0 a1 (len (List.replicate (Int.toNat (len a0)) 0 : List Int)) w
      (fun o1_1 =>
        iter (fun w => f21_L12 N a0 (((Nat.succ 1) : Nat) : Int) (a0 :: (a1 :: ([] : List (List Int)))) w
          (fun o1_4 =>
            chk (((decide (0 ≤ (len a0))) && (decide ((len a0) ≤ (len a0)))) && (decide ((len a0) ≤ ((room : Nat) : Int)))) <|
            iter (fun w => f21_L31 N (len (List.replicate (Int.toNat (len a0)) 0 : List Int)) o1_4 w
              (fun o0_3 =>
                (f11 N o0_3).bind fun r_4 =>
                some (r_4, 0))) N (0, (List.replicate (Int.toNat (len a0)) 0 : List Int)))) N (0, o1_1))) N (0, (List.replicate (Int.toNat (len a0)) 0 : List Int)))
def c21 (N : Nat) : Callee := .pure (.pr (.val (.sl false (.int .i64))) (.pr (.val (.sl false (.int .i64))) .un)) [(.sl true (.int .i64)), (.int .i64)] fun d => f21 N d.1 d.2.1
def F21_6 : SForm := ⟨[(31, (.val (.int .i64))), (7, (.bptr 0 [])), (0, (.val (.sl false (.int .i64)))), (1, (.val (.sl false (.int .i64)))), (30, (.val (.int .i64)))], [.cell (.ref 1), .row (.int .i64)]⟩
def G21_6 (N : Nat) : (R : Type) → F21_6.den → (AExit → St → Option R) → Option R := fun R d k => iter (fun kb => f21_L6 N d.1.2.2.1 d.1.2.2.2.1 d.1.2.2.2.2.1 kb
    (fun y2 => k (.exit 0) (St.of [(7, (.bptr 0 [])), (0, (.data (.sl false (.int .i64)) d.1.2.2.1)), (1, (.data (.sl false (.int .i64)) d.1.2.2.2.1))] [.cell (.ref 1 [] 0), .row (.int .i64) y2 0]))) N (d.1.1, d.2.2.1)
def F21_16 : SForm := ⟨[(53, (.val (.int .i64))), (12, (.ref 0)), (7, (.bptr 1 [])), (9, (.clos 40 (.pr (.bptr 1 []) .un))), (0, (.val (.sl false (.int .i64)))), (42, (.ref 3)), (43, (.val (.int .i64))), (44, (.val (.int .i64))), (11, (.val (.sl false (.int .i64)))), (52, (.val (.int .i64)))], [.row (.int .i64), .cell (.ref 2), .row (.int .i64), .row (.sl false (.int .i64))]⟩
def G21_16 (N : Nat) : (R : Type) → F21_16.den → (AExit → St → Option R) → Option R := fun R d k => iter (fun kb => f21_L16 N d.1.2.2.2.2.1 d.1.2.2.2.2.2.2.1 d.1.2.2.2.2.2.2.2.1 d.1.2.2.2.2.2.2.2.2.1 d.1.2.2.2.2.2.2.2.2.2.1 d.2.2.2.1 d.2.2.2.2.1 kb
    (fun y4 => k (.exit 4) (St.of [(12, (.ref 0 [] 0)), (7, (.bptr 1 [])), (9, (.clos 40 (.pr (.bptr 1 []) .un))), (0, (.data (.sl false (.int .i64)) d.1.2.2.2.2.1)), (42, (.ref 3 [] 0)), (43, (.data (.int .i64) d.1.2.2.2.2.2.2.1)), (44, (.data (.int .i64) d.1.2.2.2.2.2.2.2.1)), (11, (.data (.sl false (.int .i64)) d.1.2.2.2.2.2.2.2.2.1))] [.row (.int .i64) y4 0, .cell (.ref 2 [] 0), .row (.int .i64) d.2.2.2.1 0, .row (.sl false (.int .i64)) d.2.2.2.2.1 0]))) N (d.1.1, d.2.1)
def F21_21 : SForm := ⟨[(62, (.val (.int .i64))), (12, (.ref 0)), (7, (.bptr 1 [])), (9, (.clos 40 (.pr (.bptr 1 []) .un))), (60, (.val (.sl false (.int .i64)))), (0, (.val (.sl false (.int .i64)))), (42, (.ref 3)), (43, (.val (.int .i64))), (44, (.val (.int .i64))), (61, (.val (.int .i64)))], [.row (.int .i64), .cell (.ref 2), .row (.int .i64), .row (.sl false (.int .i64))]⟩
def G21_21 (N : Nat) : (R : Type) → F21_21.den → (AExit → St → Option R) → Option R := fun R d k => iter (fun kb => f21_L21 N d.1.2.2.2.2.1 d.1.2.2.2.2.2.1 d.1.2.2.2.2.2.2.2.1 d.1.2.2.2.2.2.2.2.2.1 d.1.2.2.2.2.2.2.2.2.2.1 d.2.2.2.2.1 kb
    (fun y3 => k (.exit 6) (St.of [(7, (.bptr 0 [])), (9, (.clos 40 (.pr (.bptr 0 []) .un))), (0, (.data (.sl false (.int .i64)) d.1.2.2.2.2.2.1)), (42, (.ref 2 [] 0)), (43, (.data (.int .i64) d.1.2.2.2.2.2.2.2.1)), (44, (.data (.int .i64) d.1.2.2.2.2.2.2.2.2.1))] [.cell (.ref 1 [] 0), .row (.int .i64) y3 0, .row (.sl false (.int .i64)) d.2.2.2.2.1 0]))) N (d.1.1, d.2.1, d.2.2.2.1)
def F21_12 : SForm := ⟨[(7, (.bptr 0 [])), (9, (.clos 40 (.pr (.bptr 0 []) .un))), (44, (.val (.int .i64))), (0, (.val (.sl false (.int .i64)))), (42, (.ref 2)), (43, (.val (.int .i64)))], [.cell (.ref 1), .row (.int .i64), .row (.sl false (.int .i64))]⟩
def G21_12 (N : Nat) : (R : Type) → F21_12.den → (AExit → St → Option R) → Option R := fun R d k => iter (fun kb => f21_L12 N d.1.2.2.2.1 d.1.2.2.2.2.2.1 d.2.2.2.1 kb
    (fun y1 => k (.exit 2) (St.of [(9, (.clos 40 (.pr (.bptr 0 []) .un))), (0, (.data (.sl false (.int .i64)) d.1.2.2.2.1))] [.cell (.ref 1 [] 0), .row (.int .i64) y1 0]))) N (d.1.2.2.1, d.2.2.1)
def F21_31 : SForm := ⟨[(100, (.val (.int .i64))), (9, (.clos 40 (.pr (.bptr 0 []) .un))), (18, (.ref 2)), (99, (.val (.int .i64)))], [.cell (.ref 1), .row (.int .i64), .row (.int .i64)]⟩
def G21_31 (N : Nat) : (R : Type) → F21_31.den → (AExit → St → Option R) → Option R := fun R d k => iter (fun kb => f21_L31 N d.1.2.2.2.1 d.2.2.1 kb
    (fun y0 => k (.exit 8) (St.of [(18, (.ref 0 [] 0))] [.row (.int .i64) y0 0]))) N (d.1.1, d.2.2.2.1)
def lp21 (N : Nat) : Nat → Option LoopFn := fun r => cond (Nat.beq r 6) (some fun R sl os k => F21_6.take sl os fun d => G21_6 N R d k) (cond (Nat.beq r 16) (some fun R sl os k => F21_16.take sl os fun d => G21_16 N R d k) (cond (Nat.beq r 21) (some fun R sl os k => F21_21.take sl os fun d => G21_21 N R d k) (cond (Nat.beq r 12) (some fun R sl os k => F21_12.take sl os fun d => G21_12 N R d k) (cond (Nat.beq r 31) (some fun R sl os k => F21_31.take sl os fun d => G21_31 N R d k) (none)))))
def x21 (N : Nat) : Ctx := { fuel := N, tt := getL ttL, mt := getL mtL, ntmps := 112, env := fun f => (getL [(38, [c38 N]), (40, [c40 N]), (11, [c11 N])] f).getD [], cut := getL [(6, ⟨[31, 7, 0, 1, 30], []⟩), (12, ⟨[7, 9, 44, 0, 42, 43], []⟩), (16, ⟨[53, 12, 7, 9, 0, 42, 43, 44, 11, 52], []⟩), (21, ⟨[62, 12, 7, 9, 60, 0, 42, 43, 44, 61], []⟩), (31, ⟨[100, 9, 18, 99], []⟩)], exits := fun r => getL ((getL [(6, [(0, ⟨[7, 0, 1], []⟩)]), (12, [(2, ⟨[9, 0], []⟩)]), (16, [(4, ⟨[12, 7, 9, 0, 42, 43, 44, 11], []⟩)]), (21, [(6, ⟨[7, 9, 0, 42, 43, 44], []⟩)]), (31, [(8, ⟨[18], []⟩)])] r).getD []), res := ⟨[4, 5], []⟩, own := fun _ => none, lp := lp21 N }
noncomputable def b21 : Code := ((Go.Proofs.Try.f21).body).getD .skip
theorem s21_6 (N : Nat) {R : Type} (k : AExit → St → Option R) (t0 : List Int) (t1 : List Int) (t30 : Int) (kb : List (Nat × AVal) → List Obj → Option R) (x : Int × List Int) : codeK (x21 N) (loopAt 6 (loopsOf b21)) (St.of [(31, (.data (.int .i64) x.1)), (7, (.bptr 0 [])), (0, (.data (.sl false (.int .i64)) t0)), (1, (.data (.sl false (.int .i64)) t1)), (30, (.data (.int .i64) t30))] [.cell (.ref 1 [] 0), .row (.int .i64) x.2 0]) (kLoop (x21 N) 6 ⟨[31, 7, 0, 1, 30], []⟩ kb k) = f21_L6 N t0 t1 t30 (fun y => kb [(31, (.data (.int .i64) y.1)), (7, (.bptr 0 [])), (0, (.data (.sl false (.int .i64)) t0)), (1, (.data (.sl false (.int .i64)) t1)), (30, (.data (.int .i64) t30))] [.cell (.ref 1 [] 0), .row (.int .i64) y.2 0])
    (fun y2 => k (.exit 0) (St.of [(7, (.bptr 0 [])), (0, (.data (.sl false (.int .i64)) t0)), (1, (.data (.sl false (.int .i64)) t1))] [.cell (.ref 1 [] 0), .row (.int .i64) y2 0])) x := by kernel_rfl
theorem l21_6 (N : Nat) : LoopOK (x21 N) (loopAt 6 (loopsOf b21)) :=
  loop_mk (G21_6 N) (by kernel_rfl) (by kernel_rfl) (by kernel_rfl) fun R k d =>
    loop_eq (st := fun (x : Int × List Int) => ([(31, (.data (.int .i64) x.1)), (7, (.bptr 0 [])), (0, (.data (.sl false (.int .i64)) d.1.2.2.1)), (1, (.data (.sl false (.int .i64)) d.1.2.2.2.1)), (30, (.data (.int .i64) d.1.2.2.2.2.1))], [.cell (.ref 1 [] 0), .row (.int .i64) x.2 0])) (s21_6 N k d.1.2.2.1 d.1.2.2.2.1 d.1.2.2.2.2.1) N (d.1.1, d.2.2.1)
theorem s21_16 (N : Nat) {R : Type} (k : AExit → St → Option R) (t0_2 : List Int) (t43_1 : Int) (t44_1 : Int) (t11 : List Int) (t52 : Int) (o2_1 : List Int) (o3 : List (List Int)) (kb : List (Nat × AVal) → List Obj → Option R) (x : Int × List Int) : codeK (x21 N) (loopAt 16 (loopsOf b21)) (St.of [(53, (.data (.int .i64) x.1)), (12, (.ref 0 [] 0)), (7, (.bptr 1 [])), (9, (.clos 40 (.pr (.bptr 1 []) .un))), (0, (.data (.sl false (.int .i64)) t0_2)), (42, (.ref 3 [] 0)), (43, (.data (.int .i64) t43_1)), (44, (.data (.int .i64) t44_1)), (11, (.data (.sl false (.int .i64)) t11)), (52, (.data (.int .i64) t52))] [.row (.int .i64) x.2 0, .cell (.ref 2 [] 0), .row (.int .i64) o2_1 0, .row (.sl false (.int .i64)) o3 0]) (kLoop (x21 N) 16 ⟨[53, 12, 7, 9, 0, 42, 43, 44, 11, 52], []⟩ kb k) = f21_L16 N t0_2 t43_1 t44_1 t11 t52 o2_1 o3 (fun y => kb [(53, (.data (.int .i64) y.1)), (12, (.ref 0 [] 0)), (7, (.bptr 1 [])), (9, (.clos 40 (.pr (.bptr 1 []) .un))), (0, (.data (.sl false (.int .i64)) t0_2)), (42, (.ref 3 [] 0)), (43, (.data (.int .i64) t43_1)), (44, (.data (.int .i64) t44_1)), (11, (.data (.sl false (.int .i64)) t11)), (52, (.data (.int .i64) t52))] [.row (.int .i64) y.2 0, .cell (.ref 2 [] 0), .row (.int .i64) o2_1 0, .row (.sl false (.int .i64)) o3 0])
    (fun y4 => k (.exit 4) (St.of [(12, (.ref 0 [] 0)), (7, (.bptr 1 [])), (9, (.clos 40 (.pr (.bptr 1 []) .un))), (0, (.data (.sl false (.int .i64)) t0_2)), (42, (.ref 3 [] 0)), (43, (.data (.int .i64) t43_1)), (44, (.data (.int .i64) t44_1)), (11, (.data (.sl false (.int .i64)) t11))] [.row (.int .i64) y4 0, .cell (.ref 2 [] 0), .row (.int .i64) o2_1 0, .row (.sl false (.int .i64)) o3 0])) x := by kernel_rfl
theorem l21_16 (N : Nat) : LoopOK (x21 N) (loopAt 16 (loopsOf b21)) :=
  loop_mk (G21_16 N) (by kernel_rfl) (by kernel_rfl) (by kernel_rfl) fun R k d =>
    loop_eq (st := fun (x : Int × List Int) => ([(53, (.data (.int .i64) x.1)), (12, (.ref 0 [] 0)), (7, (.bptr 1 [])), (9, (.clos 40 (.pr (.bptr 1 []) .un))), (0, (.data (.sl false (.int .i64)) d.1.2.2.2.2.1)), (42, (.ref 3 [] 0)), (43, (.data (.int .i64) d.1.2.2.2.2.2.2.1)), (44, (.data (.int .i64) d.1.2.2.2.2.2.2.2.1)), (11, (.data (.sl false (.int .i64)) d.1.2.2.2.2.2.2.2.2.1)), (52, (.data (.int .i64) d.1.2.2.2.2.2.2.2.2.2.1))], [.row (.int .i64) x.2 0, .cell (.ref 2 [] 0), .row (.int .i64) d.2.2.2.1 0, .row (.sl false (.int .i64)) d.2.2.2.2.1 0])) (s21_16 N k d.1.2.2.2.2.1 d.1.2.2.2.2.2.2.1 d.1.2.2.2.2.2.2.2.1 d.1.2.2.2.2.2.2.2.2.1 d.1.2.2.2.2.2.2.2.2.2.1 d.2.2.2.1 d.2.2.2.2.1) N (d.1.1, d.2.1)
theorem s21_21 (N : Nat) {R : Type} (k : AExit → St → Option R) (t60 : List Int) (t0_3 : List Int) (t43_2 : Int) (t44_2 : Int) (t61 : Int) (o3_1 : List (List Int)) (kb : List (Nat × AVal) → List Obj → Option R) (x : Int × List Int × List Int) : codeK (x21 N) (loopAt 21 (loopsOf b21)) (St.of [(62, (.data (.int .i64) x.1)), (12, (.ref 0 [] 0)), (7, (.bptr 1 [])), (9, (.clos 40 (.pr (.bptr 1 []) .un))), (60, (.data (.sl false (.int .i64)) t60)), (0, (.data (.sl false (.int .i64)) t0_3)), (42, (.ref 3 [] 0)), (43, (.data (.int .i64) t43_2)), (44, (.data (.int .i64) t44_2)), (61, (.data (.int .i64) t61))] [.row (.int .i64) x.2.1 0, .cell (.ref 2 [] 0), .row (.int .i64) x.2.2 0, .row (.sl false (.int .i64)) o3_1 0]) (kLoop (x21 N) 21 ⟨[62, 12, 7, 9, 60, 0, 42, 43, 44, 61], []⟩ kb k) = f21_L21 N t60 t0_3 t43_2 t44_2 t61 o3_1 (fun y => kb [(62, (.data (.int .i64) y.1)), (12, (.ref 0 [] 0)), (7, (.bptr 1 [])), (9, (.clos 40 (.pr (.bptr 1 []) .un))), (60, (.data (.sl false (.int .i64)) t60)), (0, (.data (.sl false (.int .i64)) t0_3)), (42, (.ref 3 [] 0)), (43, (.data (.int .i64) t43_2)), (44, (.data (.int .i64) t44_2)), (61, (.data (.int .i64) t61))] [.row (.int .i64) y.2.1 0, .cell (.ref 2 [] 0), .row (.int .i64) y.2.2 0, .row (.sl false (.int .i64)) o3_1 0])
    (fun y3 => k (.exit 6) (St.of [(7, (.bptr 0 [])), (9, (.clos 40 (.pr (.bptr 0 []) .un))), (0, (.data (.sl false (.int .i64)) t0_3)), (42, (.ref 2 [] 0)), (43, (.data (.int .i64) t43_2)), (44, (.data (.int .i64) t44_2))] [.cell (.ref 1 [] 0), .row (.int .i64) y3 0, .row (.sl false (.int .i64)) o3_1 0])) x := by kernel_rfl
theorem l21_21 (N : Nat) : LoopOK (x21 N) (loopAt 21 (loopsOf b21)) :=
  loop_mk (G21_21 N) (by kernel_rfl) (by kernel_rfl) (by kernel_rfl) fun R k d =>
    loop_eq (st := fun (x : Int × List Int × List Int) => ([(62, (.data (.int .i64) x.1)), (12, (.ref 0 [] 0)), (7, (.bptr 1 [])), (9, (.clos 40 (.pr (.bptr 1 []) .un))), (60, (.data (.sl false (.int .i64)) d.1.2.2.2.2.1)), (0, (.data (.sl false (.int .i64)) d.1.2.2.2.2.2.1)), (42, (.ref 3 [] 0)), (43, (.data (.int .i64) d.1.2.2.2.2.2.2.2.1)), (44, (.data (.int .i64) d.1.2.2.2.2.2.2.2.2.1)), (61, (.data (.int .i64) d.1.2.2.2.2.2.2.2.2.2.1))], [.row (.int .i64) x.2.1 0, .cell (.ref 2 [] 0), .row (.int .i64) x.2.2 0, .row (.sl false (.int .i64)) d.2.2.2.2.1 0])) (s21_21 N k d.1.2.2.2.2.1 d.1.2.2.2.2.2.1 d.1.2.2.2.2.2.2.2.1 d.1.2.2.2.2.2.2.2.2.1 d.1.2.2.2.2.2.2.2.2.2.1 d.2.2.2.2.1) N (d.1.1, d.2.1, d.2.2.2.1)
theorem s21_12 (N : Nat) {R : Type} (k : AExit → St → Option R) (t0_1 : List Int) (t43 : Int) (o2 : List (List Int)) (kb : List (Nat × AVal) → List Obj → Option R) (x : Int × List Int) : codeK (x21 N) (loopAt 12 (loopsOf b21)) (St.of [(7, (.bptr 0 [])), (9, (.clos 40 (.pr (.bptr 0 []) .un))), (44, (.data (.int .i64) x.1)), (0, (.data (.sl false (.int .i64)) t0_1)), (42, (.ref 2 [] 0)), (43, (.data (.int .i64) t43))] [.cell (.ref 1 [] 0), .row (.int .i64) x.2 0, .row (.sl false (.int .i64)) o2 0]) (kLoop (x21 N) 12 ⟨[7, 9, 44, 0, 42, 43], []⟩ kb k) = f21_L12 N t0_1 t43 o2 (fun y => kb [(7, (.bptr 0 [])), (9, (.clos 40 (.pr (.bptr 0 []) .un))), (44, (.data (.int .i64) y.1)), (0, (.data (.sl false (.int .i64)) t0_1)), (42, (.ref 2 [] 0)), (43, (.data (.int .i64) t43))] [.cell (.ref 1 [] 0), .row (.int .i64) y.2 0, .row (.sl false (.int .i64)) o2 0])
    (fun y1 => k (.exit 2) (St.of [(9, (.clos 40 (.pr (.bptr 0 []) .un))), (0, (.data (.sl false (.int .i64)) t0_1))] [.cell (.ref 1 [] 0), .row (.int .i64) y1 0])) x := by kernel_rfl
theorem l21_12 (N : Nat) : LoopOK (x21 N) (loopAt 12 (loopsOf b21)) :=
  loop_mk (G21_12 N) (by kernel_rfl) (by kernel_rfl) (by kernel_rfl) fun R k d =>
    loop_eq (st := fun (x : Int × List Int) => ([(7, (.bptr 0 [])), (9, (.clos 40 (.pr (.bptr 0 []) .un))), (44, (.data (.int .i64) x.1)), (0, (.data (.sl false (.int .i64)) d.1.2.2.2.1)), (42, (.ref 2 [] 0)), (43, (.data (.int .i64) d.1.2.2.2.2.2.1))], [.cell (.ref 1 [] 0), .row (.int .i64) x.2 0, .row (.sl false (.int .i64)) d.2.2.2.1 0])) (s21_12 N k d.1.2.2.2.1 d.1.2.2.2.2.2.1 d.2.2.2.1) N (d.1.2.2.1, d.2.2.1)
theorem s21_31 (N : Nat) {R : Type} (k : AExit → St → Option R) (t99 : Int) (o1_5 : List Int) (kb : List (Nat × AVal) → List Obj → Option R) (x : Int × List Int) : codeK (x21 N) (loopAt 31 (loopsOf b21)) (St.of [(100, (.data (.int .i64) x.1)), (9, (.clos 40 (.pr (.bptr 0 []) .un))), (18, (.ref 2 [] 0)), (99, (.data (.int .i64) t99))] [.cell (.ref 1 [] 0), .row (.int .i64) o1_5 0, .row (.int .i64) x.2 0]) (kLoop (x21 N) 31 ⟨[100, 9, 18, 99], []⟩ kb k) = f21_L31 N t99 o1_5 (fun y => kb [(100, (.data (.int .i64) y.1)), (9, (.clos 40 (.pr (.bptr 0 []) .un))), (18, (.ref 2 [] 0)), (99, (.data (.int .i64) t99))] [.cell (.ref 1 [] 0), .row (.int .i64) o1_5 0, .row (.int .i64) y.2 0])
    (fun y0 => k (.exit 8) (St.of [(18, (.ref 0 [] 0))] [.row (.int .i64) y0 0])) x := by kernel_rfl
theorem l21_31 (N : Nat) : LoopOK (x21 N) (loopAt 31 (loopsOf b21)) :=
  loop_mk (G21_31 N) (by kernel_rfl) (by kernel_rfl) (by kernel_rfl) fun R k d =>
    loop_eq (st := fun (x : Int × List Int) => ([(100, (.data (.int .i64) x.1)), (9, (.clos 40 (.pr (.bptr 0 []) .un))), (18, (.ref 2 [] 0)), (99, (.data (.int .i64) d.1.2.2.2.1))], [.cell (.ref 1 [] 0), .row (.int .i64) d.2.2.1 0, .row (.int .i64) x.2 0])) (s21_31 N k d.1.2.2.2.1 d.2.2.1) N (d.1.1, d.2.2.2.1)
theorem e21 (N : Nat) (a0 : List Int) (a1 : List Int) : bodyK (x21 N) [(.sl true (.int .i64)), (.int .i64)] [.tmp 4, .tmp 5] b21 (entry (.pr (.val (.sl false (.int .i64))) (.pr (.val (.sl false (.int .i64))) .un)) (a0, (a1, ()))) = f21 N a0 a1 := by kernel_rfl
theorem k21 (N : Nat) : CalleeOK Go.Proofs.Try.prog 21 (c21 N) :=
  fn_ok (fn := Go.Proofs.Try.f21) (body := b21) (c := x21 N) Go.Proofs.Try.func21 (by kernel_rfl) (by kernel_rfl) ⟨ttL_ok, mtL_ok, env_cons (forall_mem1 (k38 N)) (env_cons (forall_mem1 (k40 N)) (env_cons (forall_mem1 (k11 N)) (env_nil)))⟩ mixed (by kernel_rfl) (Nat.le_of_ble_eq_true (by kernel_rfl)) (by kernel_rfl) (by decide)
    (loops_ok (by kernel_rfl : loopsOf b21 = [loopAt 6 (loopsOf b21), loopAt 12 (loopsOf b21), loopAt 16 (loopsOf b21), loopAt 21 (loopsOf b21), loopAt 31 (loopsOf b21)]) (.cons (l21_6 N) (.cons (l21_12 N) (.cons (l21_16 N) (.cons (l21_21 N) (.cons (l21_31 N) .nil)))))) fun d => e21 N d.1 d.2.1
/-! ### 12: slices.Equal[[]int,int] -/
def f12_L4 {R : Type} (N : Nat) (t1 : List Int) (t0 : List Int) (t12 : Int) (kb : Int → Option R) (kret : Bool → Option R) (kx0 : Unit → Option R) : Int → Option R :=
  fun t13 =>
    cond (decide (t13 < t12))
      ((idx t0 t13).bind fun x =>
      (idx t1 t13).bind fun x_1 =>
      cond (!(decide (x = x_1)))
        (kret false)
        (kb (wi64 (t13 + 1))))
      (kx0 ())
def f12 (N : Nat) (a0 : List Int) (a1 : List Int) : Option (Bool) :=
  cond (!(decide ((len a0) = (len a1))))
    (some false)
    (iter (fun w => f12_L4 N a1 a0 (len a0) w
      (fun t4 =>
        some t4)
      (fun (_ : Unit) =>
        some true)) N 0)
def c12 (N : Nat) : Callee := .pure (.pr (.val (.sl false (.int .i64))) (.pr (.val (.sl false (.int .i64))) .un)) [.bool] fun d => f12 N d.1 d.2.1
def F12_4 : SForm := ⟨[(13, (.val (.int .i64))), (1, (.val (.sl false (.int .i64)))), (0, (.val (.sl false (.int .i64)))), (12, (.val (.int .i64)))], []⟩
def G12_4 (N : Nat) : (R : Type) → F12_4.den → (AExit → St → Option R) → Option R := fun R d k => iter (fun kb => f12_L4 N d.1.2.1 d.1.2.2.1 d.1.2.2.2.1 kb
    (fun y0 => k .ret (St.of [(4, (.data .bool y0))] []))
    (fun _ => k (.exit 0) (St.of [] []))) N d.1.1
def lp12 (N : Nat) : Nat → Option LoopFn := fun r => cond (Nat.beq r 4) (some fun R sl os k => F12_4.take sl os fun d => G12_4 N R d k) (none)
def x12 (N : Nat) : Ctx := { fuel := N, tt := getL ttL, mt := getL mtL, ntmps := 26, env := fun f => (getL [] f).getD [], cut := getL [(4, ⟨[13, 1, 0, 12], []⟩)], exits := fun r => getL ((getL [(4, [(0, ⟨[], []⟩)])] r).getD []), res := ⟨[4], []⟩, own := fun _ => none, lp := lp12 N }
noncomputable def b12 : Code := ((Go.Proofs.Try.f12).body).getD .skip
theorem s12_4 (N : Nat) {R : Type} (k : AExit → St → Option R) (t1 : List Int) (t0 : List Int) (t12 : Int) (kb : List (Nat × AVal) → List Obj → Option R) (x : Int) : codeK (x12 N) (loopAt 4 (loopsOf b12)) (St.of [(13, (.data (.int .i64) x)), (1, (.data (.sl false (.int .i64)) t1)), (0, (.data (.sl false (.int .i64)) t0)), (12, (.data (.int .i64) t12))] []) (kLoop (x12 N) 4 ⟨[13, 1, 0, 12], []⟩ kb k) = f12_L4 N t1 t0 t12 (fun y => kb [(13, (.data (.int .i64) y)), (1, (.data (.sl false (.int .i64)) t1)), (0, (.data (.sl false (.int .i64)) t0)), (12, (.data (.int .i64) t12))] [])
    (fun y0 => k .ret (St.of [(4, (.data .bool y0))] []))
    (fun _ => k (.exit 0) (St.of [] [])) x := by kernel_rfl
theorem l12_4 (N : Nat) : LoopOK (x12 N) (loopAt 4 (loopsOf b12)) :=
  loop_mk (G12_4 N) (by kernel_rfl) (by kernel_rfl) (by kernel_rfl) fun R k d =>
    loop_eq (st := fun (x : Int) => ([(13, (.data (.int .i64) x)), (1, (.data (.sl false (.int .i64)) d.1.2.1)), (0, (.data (.sl false (.int .i64)) d.1.2.2.1)), (12, (.data (.int .i64) d.1.2.2.2.1))], [])) (s12_4 N k d.1.2.1 d.1.2.2.1 d.1.2.2.2.1) N d.1.1
theorem e12 (N : Nat) (a0 : List Int) (a1 : List Int) : bodyK (x12 N) [.bool] [.tmp 4] b12 (entry (.pr (.val (.sl false (.int .i64))) (.pr (.val (.sl false (.int .i64))) .un)) (a0, (a1, ()))) = f12 N a0 a1 := by kernel_rfl
theorem k12 (N : Nat) : CalleeOK Go.Proofs.Try.prog 12 (c12 N) :=
  fn_ok (fn := Go.Proofs.Try.f12) (body := b12) (c := x12 N) Go.Proofs.Try.func12 (by kernel_rfl) (by kernel_rfl) ⟨ttL_ok, mtL_ok, env_nil⟩ mixed (by kernel_rfl) (Nat.le_of_ble_eq_true (by kernel_rfl)) (by kernel_rfl) (by decide)
    (loops_ok (by kernel_rfl : loopsOf b12 = [loopAt 4 (loopsOf b12)]) (.cons (l12_4 N) .nil)) fun d => e12 N d.1 d.2.1
/-! ### 30: keyhole/partition.Sizes -/
def f30_L5 {R : Type} (N : Nat) (t9 : List Int) (t10 : Int) (kb : Int × List Int → Option R) (kx0 : (List Int) → Option R) : Int × List Int → Option R :=
  fun (t11, o0) =>
    cond (decide (t11 < t10))
      ((idx t9 t11).bind fun x =>
      cond (decide (x = (len o0)))
        (chk (decide ((o0.length.succ) ≤ room)) <|
        chk (inb (o0 ++ (0 :: ([] : List Int))) x) <|
        (idx (o0 ++ (0 :: ([] : List Int))) x).bind fun x_1 =>
        chk (inb (o0 ++ (0 :: ([] : List Int))) x) <|
        (idx (o0 ++ (0 :: ([] : List Int))) x).bind fun x_2 =>
        (idx (o0 ++ (0 :: ([] : List Int))) x).bind fun x_3 =>
        kb ((wi64 (t11 + 1)), (setI (o0 ++ (0 :: ([] : List Int))) x (wi64 (x_1 + 1)))))
        (chk (inb o0 x) <|
        (idx o0 x).bind fun x_4 =>
        chk (inb o0 x) <|
        (idx o0 x).bind fun x_5 =>
        (idx o0 x).bind fun x_6 =>
        kb ((wi64 (t11 + 1)), (setI o0 x (wi64 (x_4 + 1))))))
      (kx0 o0)
def f30 (N : Nat) (a0 : List Int) : Option (List Int) :=
  (f14 N a0).bind fun r =>
  cond (!r)
    (some ([] : List Int))
    (iter (fun w => f30_L5 N a0 (len a0) w
      (fun o0_1 =>
        some o0_1)) N (0, ([] : List Int)))
def c30 (N : Nat) : Callee := .pure (.pr (.val (.sl false (.int .i64))) .un) [(.sl true (.int .i64))] fun d => f30 N d.1
def F30_5 : SForm := ⟨[(11, (.val (.int .i64))), (3, (.ref 0)), (9, (.val (.sl false (.int .i64)))), (10, (.val (.int .i64)))], [.row (.int .i64)]⟩
def G30_5 (N : Nat) : (R : Type) → F30_5.den → (AExit → St → Option R) → Option R := fun R d k => iter (fun kb => f30_L5 N d.1.2.2.1 d.1.2.2.2.1 kb
    (fun y0 => k (.exit 0) (St.of [(3, (.ref 0 [] 0))] [.row (.int .i64) y0 0]))) N (d.1.1, d.2.1)
def lp30 (N : Nat) : Nat → Option LoopFn := fun r => cond (Nat.beq r 5) (some fun R sl os k => F30_5.take sl os fun d => G30_5 N R d k) (none)
def x30 (N : Nat) : Ctx := { fuel := N, tt := getL ttL, mt := getL mtL, ntmps := 30, env := fun f => (getL [(14, [c14 N])] f).getD [], cut := getL [(5, ⟨[11, 3, 9, 10], [(3, none, .row (.int .i64))]⟩)], exits := fun r => getL ((getL [(5, [(0, ⟨[3], []⟩)])] r).getD []), res := ⟨[2], []⟩, own := fun _ => none, lp := lp30 N }
noncomputable def b30 : Code := ((Go.Proofs.Try.f30).body).getD .skip
theorem s30_5 (N : Nat) {R : Type} (k : AExit → St → Option R) (t9 : List Int) (t10 : Int) (kb : List (Nat × AVal) → List Obj → Option R) (x : Int × List Int) : codeK (x30 N) (loopAt 5 (loopsOf b30)) (St.of [(11, (.data (.int .i64) x.1)), (3, (.ref 0 [] 0)), (9, (.data (.sl false (.int .i64)) t9)), (10, (.data (.int .i64) t10))] [.row (.int .i64) x.2 0]) (kLoop (x30 N) 5 ⟨[11, 3, 9, 10], [(3, none, .row (.int .i64))]⟩ kb k) = f30_L5 N t9 t10 (fun y => kb [(11, (.data (.int .i64) y.1)), (3, (.ref 0 [] 0)), (9, (.data (.sl false (.int .i64)) t9)), (10, (.data (.int .i64) t10))] [.row (.int .i64) y.2 0])
    (fun y0 => k (.exit 0) (St.of [(3, (.ref 0 [] 0))] [.row (.int .i64) y0 0])) x := by kernel_rfl
theorem l30_5 (N : Nat) : LoopOK (x30 N) (loopAt 5 (loopsOf b30)) :=
  loop_mk (G30_5 N) (by kernel_rfl) (by kernel_rfl) (by kernel_rfl) fun R k d =>
    loop_eq (st := fun (x : Int × List Int) => ([(11, (.data (.int .i64) x.1)), (3, (.ref 0 [] 0)), (9, (.data (.sl false (.int .i64)) d.1.2.2.1)), (10, (.data (.int .i64) d.1.2.2.2.1))], [.row (.int .i64) x.2 0])) (s30_5 N k d.1.2.2.1 d.1.2.2.2.1) N (d.1.1, d.2.1)
theorem e30 (N : Nat) (a0 : List Int) : bodyK (x30 N) [(.sl true (.int .i64))] [.tmp 2] b30 (entry (.pr (.val (.sl false (.int .i64))) .un) (a0, ())) = f30 N a0 := by kernel_rfl
theorem k30 (N : Nat) : CalleeOK Go.Proofs.Try.prog 30 (c30 N) :=
  fn_ok (fn := Go.Proofs.Try.f30) (body := b30) (c := x30 N) Go.Proofs.Try.func30 (by kernel_rfl) (by kernel_rfl) ⟨ttL_ok, mtL_ok, env_cons (forall_mem1 (k14 N)) (env_nil)⟩ mixed (by kernel_rfl) (Nat.le_of_ble_eq_true (by kernel_rfl)) (by kernel_rfl) (by decide)
    (loops_ok (by kernel_rfl : loopsOf b30 = [loopAt 5 (loopsOf b30)]) (.cons (l30_5 N) .nil)) fun d => e30 N d.1
/-! ### 26: keyhole/partition.Count -/
def f26 (N : Nat) (a0 : List Int) : Option (Int) :=
  (f30 N a0).bind fun r =>
  some (len r)
def c26 (N : Nat) : Callee := .pure (.pr (.val (.sl false (.int .i64))) .un) [(.int .i64)] fun d => f26 N d.1
def lp26 (N : Nat) : Nat → Option LoopFn := fun r => none
def x26 (N : Nat) : Ctx := { fuel := N, tt := getL ttL, mt := getL mtL, ntmps := 6, env := fun f => (getL [(30, [c30 N])] f).getD [], cut := getL [], exits := fun r => getL ((getL [] r).getD []), res := ⟨[2], []⟩, own := fun _ => none, lp := lp26 N }
noncomputable def b26 : Code := ((Go.Proofs.Try.f26).body).getD .skip
theorem e26 (N : Nat) (a0 : List Int) : bodyK (x26 N) [(.int .i64)] [.tmp 2] b26 (entry (.pr (.val (.sl false (.int .i64))) .un) (a0, ())) = f26 N a0 := by kernel_rfl
theorem k26 (N : Nat) : CalleeOK Go.Proofs.Try.prog 26 (c26 N) :=
  fn_ok (fn := Go.Proofs.Try.f26) (body := b26) (c := x26 N) Go.Proofs.Try.func26 (by kernel_rfl) (by kernel_rfl) ⟨ttL_ok, mtL_ok, env_cons (forall_mem1 (k30 N)) (env_nil)⟩ mixed (by kernel_rfl) (Nat.le_of_ble_eq_true (by kernel_rfl)) (by kernel_rfl) (by decide)
    (loops_ok (by kernel_rfl : loopsOf b26 = []) .nil) fun d => e26 N d.1
/-! ### 27: keyhole/partition.Pairs -/
def f27_L3 {R : Type} (N : Nat) (t9 : Int) (o0 : List Int) (kb : Int × Int × Int → Option R) (kx0 : Int → Option R) : Int × Int × Int → Option R :=
  fun (t10, t4, t3) =>
    cond (decide (t10 < t9))
      (chk (inb o0 t10) <|
      (idx o0 t10).bind fun x =>
      kb ((wi64 (t10 + 1)), (wi64 (t4 + x)), (wi64 (t3 + (wi64 (x * t4))))))
      (kx0 t3)
def f27 (N : Nat) (a0 : List Int) : Option (Int) :=
  (f30 N a0).bind fun r =>
  iter (fun w => f27_L3 N (len r) r w
    (fun t3_1 =>
      some t3_1)) N (0, 0, 0)
def c27 (N : Nat) : Callee := .pure (.pr (.val (.sl false (.int .i64))) .un) [(.int .i64)] fun d => f27 N d.1
def F27_3 : SForm := ⟨[(10, (.val (.int .i64))), (4, (.val (.int .i64))), (3, (.val (.int .i64))), (8, (.ref 0)), (9, (.val (.int .i64)))], [.row (.int .i64)]⟩
def G27_3 (N : Nat) : (R : Type) → F27_3.den → (AExit → St → Option R) → Option R := fun R d k => iter (fun kb => f27_L3 N d.1.2.2.2.2.1 d.2.1 kb
    (fun y0 => k (.exit 0) (St.of [(3, (.data (.int .i64) y0))] []))) N (d.1.1, d.1.2.1, d.1.2.2.1)
def lp27 (N : Nat) : Nat → Option LoopFn := fun r => cond (Nat.beq r 3) (some fun R sl os k => F27_3.take sl os fun d => G27_3 N R d k) (none)
def x27 (N : Nat) : Ctx := { fuel := N, tt := getL ttL, mt := getL mtL, ntmps := 24, env := fun f => (getL [(30, [c30 N])] f).getD [], cut := getL [(3, ⟨[10, 4, 3, 8, 9], []⟩)], exits := fun r => getL ((getL [(3, [(0, ⟨[3], []⟩)])] r).getD []), res := ⟨[2], []⟩, own := fun _ => none, lp := lp27 N }
noncomputable def b27 : Code := ((Go.Proofs.Try.f27).body).getD .skip
theorem s27_3 (N : Nat) {R : Type} (k : AExit → St → Option R) (t9 : Int) (o0 : List Int) (kb : List (Nat × AVal) → List Obj → Option R) (x : Int × Int × Int) : codeK (x27 N) (loopAt 3 (loopsOf b27)) (St.of [(10, (.data (.int .i64) x.1)), (4, (.data (.int .i64) x.2.1)), (3, (.data (.int .i64) x.2.2)), (8, (.ref 0 [] 0)), (9, (.data (.int .i64) t9))] [.row (.int .i64) o0 0]) (kLoop (x27 N) 3 ⟨[10, 4, 3, 8, 9], []⟩ kb k) = f27_L3 N t9 o0 (fun y => kb [(10, (.data (.int .i64) y.1)), (4, (.data (.int .i64) y.2.1)), (3, (.data (.int .i64) y.2.2)), (8, (.ref 0 [] 0)), (9, (.data (.int .i64) t9))] [.row (.int .i64) o0 0])
    (fun y0 => k (.exit 0) (St.of [(3, (.data (.int .i64) y0))] [])) x := by kernel_rfl
theorem l27_3 (N : Nat) : LoopOK (x27 N) (loopAt 3 (loopsOf b27)) :=
  loop_mk (G27_3 N) (by kernel_rfl) (by kernel_rfl) (by kernel_rfl) fun R k d =>
    loop_eq (st := fun (x : Int × Int × Int) => ([(10, (.data (.int .i64) x.1)), (4, (.data (.int .i64) x.2.1)), (3, (.data (.int .i64) x.2.2)), (8, (.ref 0 [] 0)), (9, (.data (.int .i64) d.1.2.2.2.2.1))], [.row (.int .i64) d.2.1 0])) (s27_3 N k d.1.2.2.2.2.1 d.2.1) N (d.1.1, d.1.2.1, d.1.2.2.1)
theorem e27 (N : Nat) (a0 : List Int) : bodyK (x27 N) [(.int .i64)] [.tmp 2] b27 (entry (.pr (.val (.sl false (.int .i64))) .un) (a0, ())) = f27 N a0 := by kernel_rfl
theorem k27 (N : Nat) : CalleeOK Go.Proofs.Try.prog 27 (c27 N) :=
  fn_ok (fn := Go.Proofs.Try.f27) (body := b27) (c := x27 N) Go.Proofs.Try.func27 (by kernel_rfl) (by kernel_rfl) ⟨ttL_ok, mtL_ok, env_cons (forall_mem1 (k30 N)) (env_nil)⟩ mixed (by kernel_rfl) (Nat.le_of_ble_eq_true (by kernel_rfl)) (by kernel_rfl) (by decide)
    (loops_ok (by kernel_rfl : loopsOf b27 = [loopAt 3 (loopsOf b27)]) (.cons (l27_3 N) .nil)) fun d => e27 N d.1
/-! ### 10: keyhole/keyholelaw04.known -/
def f10 (N : Nat) : Option (Bool) :=
  (f11 N (7 :: (3 :: (7 :: (9 :: ([] : List Int)))))).bind fun r =>
  (f19 N r (0 :: (0 :: (1 :: (1 :: ([] : List Int)))))).bind fun r_1 =>
  (f21 N r (0 :: (0 :: (1 :: (1 :: ([] : List Int)))))).bind fun r_2 =>
  (f12 N r (0 :: (1 :: (0 :: (2 :: ([] : List Int)))))).bind fun r_3 =>
  (cond r_3
      ((f26 N r).bind fun r_4 =>
      some (decide (r_4 = 3)))
      (some false)).bind fun b =>
  (cond b
      ((f27 N r).bind fun r_5 =>
      some (decide (r_5 = 5)))
      (some false)).bind fun b_1 =>
  (cond b_1
      (some (decide (r_1.2 = 0)))
      (some false)).bind fun b_2 =>
  (cond b_2
      ((f12 N r_1.1 (0 :: (1 :: (2 :: (3 :: ([] : List Int)))))).bind fun r_6 =>
      some r_6)
      (some false)).bind fun b_3 =>
  (cond b_3
      (some (decide (r_2.2 = 0)))
      (some false)).bind fun b_4 =>
  (cond b_4
      ((f12 N r_2.1 (0 :: (0 :: (0 :: (0 :: ([] : List Int)))))).bind fun r_7 =>
      some r_7)
      (some false)).bind fun b_5 =>
  some b_5
def c10 (N : Nat) : Callee := .pure .un [.bool] fun d => f10 N 
def lp10 (N : Nat) : Nat → Option LoopFn := fun r => none
def x10 (N : Nat) : Ctx := { fuel := N, tt := getL ttL, mt := getL mtL, ntmps := 51, env := fun f => (getL [(11, [c11 N]), (19, [c19 N]), (21, [c21 N]), (12, [c12 N]), (26, [c26 N]), (27, [c27 N])] f).getD [], cut := getL [], exits := fun r => getL ((getL [] r).getD []), res := ⟨[0], []⟩, own := fun _ => none, lp := lp10 N }
noncomputable def b10 : Code := ((Go.Proofs.Try.f10).body).getD .skip
theorem e10 (N : Nat) : bodyK (x10 N) [.bool] [.tmp 0] b10 (entry .un ()) = f10 N := by kernel_rfl
theorem k10 (N : Nat) : CalleeOK Go.Proofs.Try.prog 10 (c10 N) :=
  fn_ok (fn := Go.Proofs.Try.f10) (body := b10) (c := x10 N) Go.Proofs.Try.func10 (by kernel_rfl) (by kernel_rfl) ⟨ttL_ok, mtL_ok, env_cons (forall_mem1 (k11 N)) (env_cons (forall_mem1 (k19 N)) (env_cons (forall_mem1 (k21 N)) (env_cons (forall_mem1 (k12 N)) (env_cons (forall_mem1 (k26 N)) (env_cons (forall_mem1 (k27 N)) (env_nil))))))⟩ mixed (by kernel_rfl) (Nat.le_of_ble_eq_true (by kernel_rfl)) (by kernel_rfl) (by decide)
    (loops_ok (by kernel_rfl : loopsOf b10 = []) .nil) fun d => e10 N 
/-! ### 13: keyhole/keyholeref04.Of -/
def f13_L8 {R : Type} (N : Nat) (t5_1 : Int) (t0_1 : List Int) (t4_1 : Int) (o0_1 : List Int) (kb : Int × Int → Option R) (kx2 : Int → Option R) : Int × Int → Option R :=
  fun (t7, t6) =>
    cond (decide (t7 < t5_1))
      ((idx t0_1 t7).bind fun x =>
      (idx t0_1 t5_1).bind fun x_1 =>
      cond (decide (x = x_1))
        (chk (inb o0_1 t7) <|
        (idx o0_1 t7).bind fun x_2 =>
        kb ((wi64 (t7 + 1)), x_2))
        (kb ((wi64 (t7 + 1)), t6)))
      (kx2 t6)
def f13_L4 {R : Type} (N : Nat) (t0 : List Int) (kb : Int × Int × List Int → Option R) (kx0 : (List Int) → Option R) : Int × Int × List Int → Option R :=
  fun (t5, t4, o0) =>
    cond (decide (t5 < (len t0)))
      (iter (fun w => f13_L8 N t5 t0 t4 o0 w
        (fun t6_1 =>
          cond (decide (t6_1 = t4))
            (chk (decide ((o0.length.succ) ≤ room)) <|
            kb ((wi64 (t5 + 1)), (wi64 (t4 + 1)), (o0 ++ (t6_1 :: ([] : List Int)))))
            (chk (decide ((o0.length.succ) ≤ room)) <|
            kb ((wi64 (t5 + 1)), t4, (o0 ++ (t6_1 :: ([] : List Int))))))) N (0, t4))
      (kx0 o0)
def f13 (N : Nat) (a0 : List Int) : Option (List Int) :=
  iter (fun w => f13_L4 N a0 w
    (fun o0_2 =>
      some o0_2)) N (0, 0, ([] : List Int))
def c13 (N : Nat) : Callee := .pure (.pr (.val (.sl false (.int .i64))) .un) [(.sl true (.int .i64))] fun d => f13 N d.1
def F13_8 : SForm := ⟨[(7, (.val (.int .i64))), (3, (.ref 0)), (5, (.val (.int .i64))), (0, (.val (.sl false (.int .i64)))), (6, (.val (.int .i64))), (4, (.val (.int .i64)))], [.row (.int .i64)]⟩
def G13_8 (N : Nat) : (R : Type) → F13_8.den → (AExit → St → Option R) → Option R := fun R d k => iter (fun kb => f13_L8 N d.1.2.2.1 d.1.2.2.2.1 d.1.2.2.2.2.2.1 d.2.1 kb
    (fun y2 => k (.exit 2) (St.of [(0, (.data (.sl false (.int .i64)) d.1.2.2.2.1)), (5, (.data (.int .i64) d.1.2.2.1)), (6, (.data (.int .i64) y2)), (3, (.ref 0 [] 0)), (4, (.data (.int .i64) d.1.2.2.2.2.2.1))] [.row (.int .i64) d.2.1 0]))) N (d.1.1, d.1.2.2.2.2.1)
def F13_4 : SForm := ⟨[(3, (.ref 0)), (5, (.val (.int .i64))), (0, (.val (.sl false (.int .i64)))), (4, (.val (.int .i64)))], [.row (.int .i64)]⟩
def G13_4 (N : Nat) : (R : Type) → F13_4.den → (AExit → St → Option R) → Option R := fun R d k => iter (fun kb => f13_L4 N d.1.2.2.1 kb
    (fun y0 => k (.exit 0) (St.of [(3, (.ref 0 [] 0))] [.row (.int .i64) y0 0]))) N (d.1.2.1, d.1.2.2.2.1, d.2.1)
def lp13 (N : Nat) : Nat → Option LoopFn := fun r => cond (Nat.beq r 8) (some fun R sl os k => F13_8.take sl os fun d => G13_8 N R d k) (cond (Nat.beq r 4) (some fun R sl os k => F13_4.take sl os fun d => G13_4 N R d k) (none))
def x13 (N : Nat) : Ctx := { fuel := N, tt := getL ttL, mt := getL mtL, ntmps := 43, env := fun f => (getL [] f).getD [], cut := getL [(4, ⟨[3, 5, 0, 4], [(3, none, .row (.int .i64))]⟩), (8, ⟨[7, 3, 5, 0, 6, 4], []⟩)], exits := fun r => getL ((getL [(4, [(0, ⟨[3], []⟩)]), (8, [(2, ⟨[0, 5, 6, 3, 4], []⟩)])] r).getD []), res := ⟨[2], []⟩, own := fun _ => none, lp := lp13 N }
noncomputable def b13 : Code := ((Go.Proofs.Try.f13).body).getD .skip
theorem s13_8 (N : Nat) {R : Type} (k : AExit → St → Option R) (t5_1 : Int) (t0_1 : List Int) (t4_1 : Int) (o0_1 : List Int) (kb : List (Nat × AVal) → List Obj → Option R) (x : Int × Int) : codeK (x13 N) (loopAt 8 (loopsOf b13)) (St.of [(7, (.data (.int .i64) x.1)), (3, (.ref 0 [] 0)), (5, (.data (.int .i64) t5_1)), (0, (.data (.sl false (.int .i64)) t0_1)), (6, (.data (.int .i64) x.2)), (4, (.data (.int .i64) t4_1))] [.row (.int .i64) o0_1 0]) (kLoop (x13 N) 8 ⟨[7, 3, 5, 0, 6, 4], []⟩ kb k) = f13_L8 N t5_1 t0_1 t4_1 o0_1 (fun y => kb [(7, (.data (.int .i64) y.1)), (3, (.ref 0 [] 0)), (5, (.data (.int .i64) t5_1)), (0, (.data (.sl false (.int .i64)) t0_1)), (6, (.data (.int .i64) y.2)), (4, (.data (.int .i64) t4_1))] [.row (.int .i64) o0_1 0])
    (fun y2 => k (.exit 2) (St.of [(0, (.data (.sl false (.int .i64)) t0_1)), (5, (.data (.int .i64) t5_1)), (6, (.data (.int .i64) y2)), (3, (.ref 0 [] 0)), (4, (.data (.int .i64) t4_1))] [.row (.int .i64) o0_1 0])) x := by kernel_rfl
theorem l13_8 (N : Nat) : LoopOK (x13 N) (loopAt 8 (loopsOf b13)) :=
  loop_mk (G13_8 N) (by kernel_rfl) (by kernel_rfl) (by kernel_rfl) fun R k d =>
    loop_eq (st := fun (x : Int × Int) => ([(7, (.data (.int .i64) x.1)), (3, (.ref 0 [] 0)), (5, (.data (.int .i64) d.1.2.2.1)), (0, (.data (.sl false (.int .i64)) d.1.2.2.2.1)), (6, (.data (.int .i64) x.2)), (4, (.data (.int .i64) d.1.2.2.2.2.2.1))], [.row (.int .i64) d.2.1 0])) (s13_8 N k d.1.2.2.1 d.1.2.2.2.1 d.1.2.2.2.2.2.1 d.2.1) N (d.1.1, d.1.2.2.2.2.1)
theorem s13_4 (N : Nat) {R : Type} (k : AExit → St → Option R) (t0 : List Int) (kb : List (Nat × AVal) → List Obj → Option R) (x : Int × Int × List Int) : codeK (x13 N) (loopAt 4 (loopsOf b13)) (St.of [(3, (.ref 0 [] 0)), (5, (.data (.int .i64) x.1)), (0, (.data (.sl false (.int .i64)) t0)), (4, (.data (.int .i64) x.2.1))] [.row (.int .i64) x.2.2 0]) (kLoop (x13 N) 4 ⟨[3, 5, 0, 4], [(3, none, .row (.int .i64))]⟩ kb k) = f13_L4 N t0 (fun y => kb [(3, (.ref 0 [] 0)), (5, (.data (.int .i64) y.1)), (0, (.data (.sl false (.int .i64)) t0)), (4, (.data (.int .i64) y.2.1))] [.row (.int .i64) y.2.2 0])
    (fun y0 => k (.exit 0) (St.of [(3, (.ref 0 [] 0))] [.row (.int .i64) y0 0])) x := by kernel_rfl
theorem l13_4 (N : Nat) : LoopOK (x13 N) (loopAt 4 (loopsOf b13)) :=
  loop_mk (G13_4 N) (by kernel_rfl) (by kernel_rfl) (by kernel_rfl) fun R k d =>
    loop_eq (st := fun (x : Int × Int × List Int) => ([(3, (.ref 0 [] 0)), (5, (.data (.int .i64) x.1)), (0, (.data (.sl false (.int .i64)) d.1.2.2.1)), (4, (.data (.int .i64) x.2.1))], [.row (.int .i64) x.2.2 0])) (s13_4 N k d.1.2.2.1) N (d.1.2.1, d.1.2.2.2.1, d.2.1)
theorem e13 (N : Nat) (a0 : List Int) : bodyK (x13 N) [(.sl true (.int .i64))] [.tmp 2] b13 (entry (.pr (.val (.sl false (.int .i64))) .un) (a0, ())) = f13 N a0 := by kernel_rfl
theorem k13 (N : Nat) : CalleeOK Go.Proofs.Try.prog 13 (c13 N) :=
  fn_ok (fn := Go.Proofs.Try.f13) (body := b13) (c := x13 N) Go.Proofs.Try.func13 (by kernel_rfl) (by kernel_rfl) ⟨ttL_ok, mtL_ok, env_nil⟩ mixed (by kernel_rfl) (Nat.le_of_ble_eq_true (by kernel_rfl)) (by kernel_rfl) (by decide)
    (loops_ok (by kernel_rfl : loopsOf b13 = [loopAt 4 (loopsOf b13), loopAt 8 (loopsOf b13)]) (.cons (l13_4 N) (.cons (l13_8 N) .nil))) fun d => e13 N d.1
/-! ### 15: keyhole/keyholeref04.Valid -/
def f15_L3 {R : Type} (N : Nat) (t0 : List Int) (kb : Int × Int → Option R) (kret : Bool → Option R) (kx0 : Unit → Option R) : Int × Int → Option R :=
  fun (t4, t3) =>
    cond (decide (t4 < (len t0)))
      ((idx t0 t4).bind fun x =>
      (cond (decide (x < 0))
          (some true)
          ((idx t0 t4).bind fun x_1 =>
          some (decide (t3 < x_1)))).bind fun b =>
      cond b
        (kret false)
        ((idx t0 t4).bind fun x_2 =>
        cond (decide (x_2 = t3))
          (kb ((wi64 (t4 + 1)), (wi64 (t3 + 1))))
          (kb ((wi64 (t4 + 1)), t3))))
      (kx0 ())
def f15 (N : Nat) (a0 : List Int) : Option (Bool) :=
  iter (fun w => f15_L3 N a0 w
    (fun t2 =>
      some t2)
    (fun (_ : Unit) =>
      some true)) N (0, 0)
def c15 (N : Nat) : Callee := .pure (.pr (.val (.sl false (.int .i64))) .un) [.bool] fun d => f15 N d.1
def F15_3 : SForm := ⟨[(4, (.val (.int .i64))), (3, (.val (.int .i64))), (0, (.val (.sl false (.int .i64))))], []⟩
def G15_3 (N : Nat) : (R : Type) → F15_3.den → (AExit → St → Option R) → Option R := fun R d k => iter (fun kb => f15_L3 N d.1.2.2.1 kb
    (fun y0 => k .ret (St.of [(2, (.data .bool y0))] []))
    (fun _ => k (.exit 0) (St.of [] []))) N (d.1.1, d.1.2.1)
def lp15 (N : Nat) : Nat → Option LoopFn := fun r => cond (Nat.beq r 3) (some fun R sl os k => F15_3.take sl os fun d => G15_3 N R d k) (none)
def x15 (N : Nat) : Ctx := { fuel := N, tt := getL ttL, mt := getL mtL, ntmps := 32, env := fun f => (getL [] f).getD [], cut := getL [(3, ⟨[4, 3, 0], []⟩)], exits := fun r => getL ((getL [(3, [(0, ⟨[], []⟩)])] r).getD []), res := ⟨[2], []⟩, own := fun _ => none, lp := lp15 N }
noncomputable def b15 : Code := ((Go.Proofs.Try.f15).body).getD .skip
theorem s15_3 (N : Nat) {R : Type} (k : AExit → St → Option R) (t0 : List Int) (kb : List (Nat × AVal) → List Obj → Option R) (x : Int × Int) : codeK (x15 N) (loopAt 3 (loopsOf b15)) (St.of [(4, (.data (.int .i64) x.1)), (3, (.data (.int .i64) x.2)), (0, (.data (.sl false (.int .i64)) t0))] []) (kLoop (x15 N) 3 ⟨[4, 3, 0], []⟩ kb k) = f15_L3 N t0 (fun y => kb [(4, (.data (.int .i64) y.1)), (3, (.data (.int .i64) y.2)), (0, (.data (.sl false (.int .i64)) t0))] [])
    (fun y0 => k .ret (St.of [(2, (.data .bool y0))] []))
    (fun _ => k (.exit 0) (St.of [] [])) x := by kernel_rfl
theorem l15_3 (N : Nat) : LoopOK (x15 N) (loopAt 3 (loopsOf b15)) :=
  loop_mk (G15_3 N) (by kernel_rfl) (by kernel_rfl) (by kernel_rfl) fun R k d =>
    loop_eq (st := fun (x : Int × Int) => ([(4, (.data (.int .i64) x.1)), (3, (.data (.int .i64) x.2)), (0, (.data (.sl false (.int .i64)) d.1.2.2.1))], [])) (s15_3 N k d.1.2.2.1) N (d.1.1, d.1.2.1)
theorem e15 (N : Nat) (a0 : List Int) : bodyK (x15 N) [.bool] [.tmp 2] b15 (entry (.pr (.val (.sl false (.int .i64))) .un) (a0, ())) = f15 N a0 := by kernel_rfl
theorem k15 (N : Nat) : CalleeOK Go.Proofs.Try.prog 15 (c15 N) :=
  fn_ok (fn := Go.Proofs.Try.f15) (body := b15) (c := x15 N) Go.Proofs.Try.func15 (by kernel_rfl) (by kernel_rfl) ⟨ttL_ok, mtL_ok, env_nil⟩ mixed (by kernel_rfl) (Nat.le_of_ble_eq_true (by kernel_rfl)) (by kernel_rfl) (by decide)
    (loops_ok (by kernel_rfl : loopsOf b15 = [loopAt 3 (loopsOf b15)]) (.cons (l15_3 N) .nil)) fun d => e15 N d.1
/-! ### 3: keyhole/keyholelaw04.PartitionCanonical -/
def f3 (N : Nat) (a0 : List Int) (a1 : List Int) : Option (Bool) :=
  (f10 N).bind fun r =>
  cond (!r)
    (some false)
    ((cond (decide (64 < (len a0)))
        (some true)
        (some (decide (64 < (len a1))))).bind fun b =>
    cond b
      (some true)
      ((f11 N a0).bind fun r_1 =>
      (f13 N a0).bind fun r_2 =>
      (f12 N r_1 r_2).bind fun r_3 =>
      (cond r_3
          ((f14 N r_1).bind fun r_4 =>
          some r_4)
          (some false)).bind fun b_1 =>
      (cond b_1
          ((f14 N a1).bind fun r_5 =>
          (f15 N a1).bind fun r_6 =>
          some (decide (r_5 = r_6)))
          (some false)).bind fun b_2 =>
      (cond b_2
          ((f11 N a1).bind fun r_7 =>
          (f12 N r_7 a1).bind fun r_8 =>
          (f15 N a1).bind fun r_9 =>
          some (decide (r_8 = r_9)))
          (some false)).bind fun b_3 =>
      some b_3))
def c3 (N : Nat) : Callee := .pure (.pr (.val (.sl false (.int .i64))) (.pr (.val (.sl false (.int .i64))) .un)) [.bool] fun d => f3 N d.1 d.2.1
def lp3 (N : Nat) : Nat → Option LoopFn := fun r => none
def x3 (N : Nat) : Ctx := { fuel := N, tt := getL ttL, mt := getL mtL, ntmps := 42, env := fun f => (getL [(10, [c10 N]), (11, [c11 N]), (13, [c13 N]), (12, [c12 N]), (14, [c14 N]), (15, [c15 N])] f).getD [], cut := getL [], exits := fun r => getL ((getL [] r).getD []), res := ⟨[4], []⟩, own := fun _ => none, lp := lp3 N }
noncomputable def b3 : Code := ((Go.Proofs.Try.f3).body).getD .skip
theorem e3 (N : Nat) (a0 : List Int) (a1 : List Int) : bodyK (x3 N) [.bool] [.tmp 4] b3 (entry (.pr (.val (.sl false (.int .i64))) (.pr (.val (.sl false (.int .i64))) .un)) (a0, (a1, ()))) = f3 N a0 a1 := by kernel_rfl
theorem k3 (N : Nat) : CalleeOK Go.Proofs.Try.prog 3 (c3 N) :=
  fn_ok (fn := Go.Proofs.Try.f3) (body := b3) (c := x3 N) Go.Proofs.Try.func3 (by kernel_rfl) (by kernel_rfl) ⟨ttL_ok, mtL_ok, env_cons (forall_mem1 (k10 N)) (env_cons (forall_mem1 (k11 N)) (env_cons (forall_mem1 (k13 N)) (env_cons (forall_mem1 (k12 N)) (env_cons (forall_mem1 (k14 N)) (env_cons (forall_mem1 (k15 N)) (env_nil))))))⟩ mixed (by kernel_rfl) (Nat.le_of_ble_eq_true (by kernel_rfl)) (by kernel_rfl) (by decide)
    (loops_ok (by kernel_rfl : loopsOf b3 = []) .nil) fun d => e3 N d.1 d.2.1
/-! ### 16: keyhole/keyholelaw04.three -/
def f16 (N : Nat) (a0 : List Int) (a1 : List Int) (a2 : List Int) : Option (List Int × List Int × List Int) :=
  chk ((decide (0 ≤ (minI (minI (minI (len a0) (len a1)) (len a2)) 24))) && (decide ((minI (minI (minI (len a0) (len a1)) (len a2)) 24) ≤ (len a0)))) <|
  chk ((decide (0 ≤ (minI (minI (minI (len a0) (len a1)) (len a2)) 24))) && (decide ((minI (minI (minI (len a0) (len a1)) (len a2)) 24) ≤ (len a1)))) <|
  chk ((decide (0 ≤ (minI (minI (minI (len a0) (len a1)) (len a2)) 24))) && (decide ((minI (minI (minI (len a0) (len a1)) (len a2)) 24) ≤ (len a2)))) <|
  (f13 N (sub a0 0 (minI (minI (minI (len a0) (len a1)) (len a2)) 24))).bind fun r =>
  (f13 N (sub a1 0 (minI (minI (minI (len a0) (len a1)) (len a2)) 24))).bind fun r_1 =>
  (f13 N (sub a2 0 (minI (minI (minI (len a0) (len a1)) (len a2)) 24))).bind fun r_2 =>
  some (r, (r_1, r_2))
def c16 (N : Nat) : Callee := .pure (.pr (.val (.sl false (.int .i64))) (.pr (.val (.sl false (.int .i64))) (.pr (.val (.sl false (.int .i64))) .un))) [(.sl true (.int .i64)), (.sl true (.int .i64)), (.sl true (.int .i64))] fun d => f16 N d.1 d.2.1 d.2.2.1
def lp16 (N : Nat) : Nat → Option LoopFn := fun r => none
def x16 (N : Nat) : Ctx := { fuel := N, tt := getL ttL, mt := getL mtL, ntmps := 29, env := fun f => (getL [(13, [c13 N])] f).getD [], cut := getL [], exits := fun r => getL ((getL [] r).getD []), res := ⟨[6, 7, 8], []⟩, own := fun _ => none, lp := lp16 N }
noncomputable def b16 : Code := ((Go.Proofs.Try.f16).body).getD .skip
theorem e16 (N : Nat) (a0 : List Int) (a1 : List Int) (a2 : List Int) : bodyK (x16 N) [(.sl true (.int .i64)), (.sl true (.int .i64)), (.sl true (.int .i64))] [.tmp 6, .tmp 7, .tmp 8] b16 (entry (.pr (.val (.sl false (.int .i64))) (.pr (.val (.sl false (.int .i64))) (.pr (.val (.sl false (.int .i64))) .un))) (a0, (a1, (a2, ())))) = f16 N a0 a1 a2 := by kernel_rfl
theorem k16 (N : Nat) : CalleeOK Go.Proofs.Try.prog 16 (c16 N) :=
  fn_ok (fn := Go.Proofs.Try.f16) (body := b16) (c := x16 N) Go.Proofs.Try.func16 (by kernel_rfl) (by kernel_rfl) ⟨ttL_ok, mtL_ok, env_cons (forall_mem1 (k13 N)) (env_nil)⟩ mixed (by kernel_rfl) (Nat.le_of_ble_eq_true (by kernel_rfl)) (by kernel_rfl) (by decide)
    (loops_ok (by kernel_rfl : loopsOf b16 = []) .nil) fun d => e16 N d.1 d.2.1 d.2.2.1
/-! ### 17: keyhole/keyholelaw04.meet -/
def f17 (N : Nat) (a0 : List Int) (a1 : List Int) : Option (List Int × Bool) :=
  (f19 N a0 a1).bind fun r =>
  (cond (decide (r.2 = 0))
      (some (decide ((len r.1) = (len a0))))
      (some false)).bind fun b =>
  some (r.1, b)
def c17 (N : Nat) : Callee := .pure (.pr (.val (.sl false (.int .i64))) (.pr (.val (.sl false (.int .i64))) .un)) [(.sl true (.int .i64)), .bool] fun d => f17 N d.1 d.2.1
def lp17 (N : Nat) : Nat → Option LoopFn := fun r => none
def x17 (N : Nat) : Ctx := { fuel := N, tt := getL ttL, mt := getL mtL, ntmps := 24, env := fun f => (getL [(19, [c19 N])] f).getD [], cut := getL [], exits := fun r => getL ((getL [] r).getD []), res := ⟨[4, 5], []⟩, own := fun _ => none, lp := lp17 N }
noncomputable def b17 : Code := ((Go.Proofs.Try.f17).body).getD .skip
theorem e17 (N : Nat) (a0 : List Int) (a1 : List Int) : bodyK (x17 N) [(.sl true (.int .i64)), .bool] [.tmp 4, .tmp 5] b17 (entry (.pr (.val (.sl false (.int .i64))) (.pr (.val (.sl false (.int .i64))) .un)) (a0, (a1, ()))) = f17 N a0 a1 := by kernel_rfl
theorem k17 (N : Nat) : CalleeOK Go.Proofs.Try.prog 17 (c17 N) :=
  fn_ok (fn := Go.Proofs.Try.f17) (body := b17) (c := x17 N) Go.Proofs.Try.func17 (by kernel_rfl) (by kernel_rfl) ⟨ttL_ok, mtL_ok, env_cons (forall_mem1 (k19 N)) (env_nil)⟩ mixed (by kernel_rfl) (Nat.le_of_ble_eq_true (by kernel_rfl)) (by kernel_rfl) (by decide)
    (loops_ok (by kernel_rfl : loopsOf b17 = []) .nil) fun d => e17 N d.1 d.2.1
/-! ### 18: keyhole/keyholelaw04.join -/
def f18 (N : Nat) (a0 : List Int) (a1 : List Int) : Option (List Int × Bool) :=
  (f21 N a0 a1).bind fun r =>
  (cond (decide (r.2 = 0))
      (some (decide ((len r.1) = (len a0))))
      (some false)).bind fun b =>
  some (r.1, b)
def c18 (N : Nat) : Callee := .pure (.pr (.val (.sl false (.int .i64))) (.pr (.val (.sl false (.int .i64))) .un)) [(.sl true (.int .i64)), .bool] fun d => f18 N d.1 d.2.1
def lp18 (N : Nat) : Nat → Option LoopFn := fun r => none
def x18 (N : Nat) : Ctx := { fuel := N, tt := getL ttL, mt := getL mtL, ntmps := 24, env := fun f => (getL [(21, [c21 N])] f).getD [], cut := getL [], exits := fun r => getL ((getL [] r).getD []), res := ⟨[4, 5], []⟩, own := fun _ => none, lp := lp18 N }
noncomputable def b18 : Code := ((Go.Proofs.Try.f18).body).getD .skip
theorem e18 (N : Nat) (a0 : List Int) (a1 : List Int) : bodyK (x18 N) [(.sl true (.int .i64)), .bool] [.tmp 4, .tmp 5] b18 (entry (.pr (.val (.sl false (.int .i64))) (.pr (.val (.sl false (.int .i64))) .un)) (a0, (a1, ()))) = f18 N a0 a1 := by kernel_rfl
theorem k18 (N : Nat) : CalleeOK Go.Proofs.Try.prog 18 (c18 N) :=
  fn_ok (fn := Go.Proofs.Try.f18) (body := b18) (c := x18 N) Go.Proofs.Try.func18 (by kernel_rfl) (by kernel_rfl) ⟨ttL_ok, mtL_ok, env_cons (forall_mem1 (k21 N)) (env_nil)⟩ mixed (by kernel_rfl) (Nat.le_of_ble_eq_true (by kernel_rfl)) (by kernel_rfl) (by decide)
    (loops_ok (by kernel_rfl : loopsOf b18 = []) .nil) fun d => e18 N d.1 d.2.1
/-! ### 4: keyhole/keyholelaw04.PartitionLattice -/
def f4 (N : Nat) (a0 : List Int) (a1 : List Int) (a2 : List Int) : Option (Bool) :=
  (f10 N).bind fun r =>
  cond (!r)
    (some false)
    ((f16 N a0 a1 a2).bind fun r_1 =>
    (f17 N r_1.1 r_1.2.1).bind fun r_2 =>
    (f17 N r_1.2.1 r_1.1).bind fun r_3 =>
    (f18 N r_1.1 r_1.2.1).bind fun r_4 =>
    (f18 N r_1.2.1 r_1.1).bind fun r_5 =>
    (cond (!r_2.2)
        (some true)
        (some (!r_3.2))).bind fun b =>
    (cond b
        (some true)
        (some (!r_4.2))).bind fun b_1 =>
    (cond b_1
        (some true)
        (some (!r_5.2))).bind fun b_2 =>
    (cond b_2
        (some true)
        ((f12 N r_2.1 r_3.1).bind fun r_6 =>
        some (!r_6))).bind fun b_3 =>
    (cond b_3
        (some true)
        ((f12 N r_4.1 r_5.1).bind fun r_7 =>
        some (!r_7))).bind fun b_4 =>
    cond b_4
      (some false)
      ((f17 N r_1.2.1 r_1.2.2).bind fun r_8 =>
      (f18 N r_1.2.1 r_1.2.2).bind fun r_9 =>
      (cond (!r_8.2)
          (some true)
          (some (!r_9.2))).bind fun b_5 =>
      (cond b_5
          (some true)
          ((f14 N r_2.1).bind fun r_10 =>
          some (!r_10))).bind fun b_6 =>
      (cond b_6
          (some true)
          ((f14 N r_4.1).bind fun r_11 =>
          some (!r_11))).bind fun b_7 =>
      (cond b_7
          (some true)
          ((f14 N r_8.1).bind fun r_12 =>
          some (!r_12))).bind fun b_8 =>
      (cond b_8
          (some true)
          ((f14 N r_9.1).bind fun r_13 =>
          some (!r_13))).bind fun b_9 =>
      cond b_9
        (some false)
        ((f17 N r_2.1 r_1.2.2).bind fun r_14 =>
        (f17 N r_1.1 r_8.1).bind fun r_15 =>
        (f18 N r_4.1 r_1.2.2).bind fun r_16 =>
        (f18 N r_1.1 r_9.1).bind fun r_17 =>
        (cond (!r_14.2)
            (some true)
            (some (!r_15.2))).bind fun b_10 =>
        (cond b_10
            (some true)
            (some (!r_16.2))).bind fun b_11 =>
        (cond b_11
            (some true)
            (some (!r_17.2))).bind fun b_12 =>
        (cond b_12
            (some true)
            ((f12 N r_14.1 r_15.1).bind fun r_18 =>
            some (!r_18))).bind fun b_13 =>
        (cond b_13
            (some true)
            ((f12 N r_16.1 r_17.1).bind fun r_19 =>
            some (!r_19))).bind fun b_14 =>
        cond b_14
          (some false)
          ((f17 N r_1.1 r_1.1).bind fun r_20 =>
          (f18 N r_1.1 r_1.1).bind fun r_21 =>
          (f17 N r_1.1 r_4.1).bind fun r_22 =>
          (f18 N r_1.1 r_2.1).bind fun r_23 =>
          (cond r_20.2
              (some r_21.2)
              (some false)).bind fun b_15 =>
          (cond b_15
              (some r_22.2)
              (some false)).bind fun b_16 =>
          (cond b_16
              (some r_23.2)
              (some false)).bind fun b_17 =>
          (cond b_17
              ((f12 N r_20.1 r_1.1).bind fun r_24 =>
              some r_24)
              (some false)).bind fun b_18 =>
          (cond b_18
              ((f12 N r_21.1 r_1.1).bind fun r_25 =>
              some r_25)
              (some false)).bind fun b_19 =>
          (cond b_19
              ((f12 N r_22.1 r_1.1).bind fun r_26 =>
              some r_26)
              (some false)).bind fun b_20 =>
          (cond b_20
              ((f12 N r_23.1 r_1.1).bind fun r_27 =>
              some r_27)
              (some false)).bind fun b_21 =>
          some b_21))))
def c4 (N : Nat) : Callee := .pure (.pr (.val (.sl false (.int .i64))) (.pr (.val (.sl false (.int .i64))) (.pr (.val (.sl false (.int .i64))) .un))) [.bool] fun d => f4 N d.1 d.2.1 d.2.2.1
def lp4 (N : Nat) : Nat → Option LoopFn := fun r => none
def x4 (N : Nat) : Ctx := { fuel := N, tt := getL ttL, mt := getL mtL, ntmps := 230, env := fun f => (getL [(10, [c10 N]), (16, [c16 N]), (17, [c17 N]), (18, [c18 N]), (12, [c12 N]), (14, [c14 N])] f).getD [], cut := getL [], exits := fun r => getL ((getL [] r).getD []), res := ⟨[6], []⟩, own := fun _ => none, lp := lp4 N }
noncomputable def b4 : Code := ((Go.Proofs.Try.f4).body).getD .skip
theorem e4 (N : Nat) (a0 : List Int) (a1 : List Int) (a2 : List Int) : bodyK (x4 N) [.bool] [.tmp 6] b4 (entry (.pr (.val (.sl false (.int .i64))) (.pr (.val (.sl false (.int .i64))) (.pr (.val (.sl false (.int .i64))) .un))) (a0, (a1, (a2, ())))) = f4 N a0 a1 a2 := by kernel_rfl
theorem k4 (N : Nat) : CalleeOK Go.Proofs.Try.prog 4 (c4 N) :=
  fn_ok (fn := Go.Proofs.Try.f4) (body := b4) (c := x4 N) Go.Proofs.Try.func4 (by kernel_rfl) (by kernel_rfl) ⟨ttL_ok, mtL_ok, env_cons (forall_mem1 (k10 N)) (env_cons (forall_mem1 (k16 N)) (env_cons (forall_mem1 (k17 N)) (env_cons (forall_mem1 (k18 N)) (env_cons (forall_mem1 (k12 N)) (env_cons (forall_mem1 (k14 N)) (env_nil))))))⟩ mixed (by kernel_rfl) (Nat.le_of_ble_eq_true (by kernel_rfl)) (by kernel_rfl) (by decide)
    (loops_ok (by kernel_rfl : loopsOf b4 = []) .nil) fun d => e4 N d.1 d.2.1 d.2.2.1
/-! ### 39: keyhole/keyholeref04.both -/
def f39 (N : Nat) (a0 : List Int) (a1 : List Int) : Option (Int) :=
  (f15 N a0).bind fun r =>
  (cond (!r)
      (some true)
      ((f15 N a1).bind fun r_1 =>
      some (!r_1))).bind fun b =>
  cond b
    (some 1)
    (cond (!(decide ((len a0) = (len a1))))
      (some 2)
      (some 0))
def c39 (N : Nat) : Callee := .pure (.pr (.val (.sl false (.int .i64))) (.pr (.val (.sl false (.int .i64))) .un)) [(.int .i64)] fun d => f39 N d.1 d.2.1
def lp39 (N : Nat) : Nat → Option LoopFn := fun r => none
def x39 (N : Nat) : Ctx := { fuel := N, tt := getL ttL, mt := getL mtL, ntmps := 18, env := fun f => (getL [(15, [c15 N])] f).getD [], cut := getL [], exits := fun r => getL ((getL [] r).getD []), res := ⟨[4], []⟩, own := fun _ => none, lp := lp39 N }
noncomputable def b39 : Code := ((Go.Proofs.Try.f39).body).getD .skip
theorem e39 (N : Nat) (a0 : List Int) (a1 : List Int) : bodyK (x39 N) [(.int .i64)] [.tmp 4] b39 (entry (.pr (.val (.sl false (.int .i64))) (.pr (.val (.sl false (.int .i64))) .un)) (a0, (a1, ()))) = f39 N a0 a1 := by kernel_rfl
theorem k39 (N : Nat) : CalleeOK Go.Proofs.Try.prog 39 (c39 N) :=
  fn_ok (fn := Go.Proofs.Try.f39) (body := b39) (c := x39 N) Go.Proofs.Try.func39 (by kernel_rfl) (by kernel_rfl) ⟨ttL_ok, mtL_ok, env_cons (forall_mem1 (k15 N)) (env_nil)⟩ mixed (by kernel_rfl) (Nat.le_of_ble_eq_true (by kernel_rfl)) (by kernel_rfl) (by decide)
    (loops_ok (by kernel_rfl : loopsOf b39 = []) .nil) fun d => e39 N d.1 d.2.1
/-! ### 20: keyhole/keyholeref04.Meet -/
def f20_L10 {R : Type} (N : Nat) (t8_1 : Int) (t1_1 : List Int) (t0_1 : List Int) (kb : Int × List Int → Option R) (kx2 : (List Int) → Option R) : Int × List Int → Option R :=
  fun (t9, o0_1) =>
    cond (decide (0 ≤ t9))
      ((idx t0_1 t9).bind fun x_2 =>
      (idx t0_1 t8_1).bind fun x_3 =>
      (cond (decide (x_2 = x_3))
          ((idx t1_1 t9).bind fun x_4 =>
          (idx t1_1 t8_1).bind fun x_5 =>
          some (decide (x_4 = x_5)))
          (some false)).bind fun b =>
      cond b
        (chk (inb o0_1 t8_1) <|
        (idx o0_1 t8_1).bind fun x_6 =>
        (idx o0_1 t8_1).bind fun x_7 =>
        kb ((wi64 (t9 - 1)), (setI o0_1 t8_1 t9)))
        (kb ((wi64 (t9 - 1)), o0_1)))
      (kx2 o0_1)
def f20_L6 {R : Type} (N : Nat) (t1 : List Int) (t0 : List Int) (kb : Int × List Int → Option R) (kx0 : (List Int) → Option R) : Int × List Int → Option R :=
  fun (t8, o0) =>
    cond (decide (t8 < (len t0)))
      (chk (inb o0 t8) <|
      (idx o0 t8).bind fun x =>
      (idx o0 t8).bind fun x_1 =>
      iter (fun w => f20_L10 N t8 t1 t0 w
        (fun o0_2 =>
          kb ((wi64 (t8 + 1)), o0_2))) N ((wi64 (t8 - 1)), (setI o0 t8 t8)))
      (kx0 o0)
def f20 (N : Nat) (a0 : List Int) (a1 : List Int) : Option (List Int × Int) :=
  (f39 N a0 a1).bind fun r =>
  cond (!(decide (r = 0)))
    (some (([] : List Int), r))
    (chk (((decide (0 ≤ (len a0))) && (decide ((len a0) ≤ (len a0)))) && (decide ((len a0) ≤ ((room : Nat) : Int)))) <|
    iter (fun w => f20_L6 N a1 a0 w
      (fun o0_3 =>
        (f13 N o0_3).bind fun r_1 =>
        some (r_1, 0))) N (0, (List.replicate (Int.toNat (len a0)) 0 : List Int)))
def c20 (N : Nat) : Callee := .pure (.pr (.val (.sl false (.int .i64))) (.pr (.val (.sl false (.int .i64))) .un)) [(.sl true (.int .i64)), (.int .i64)] fun d => f20 N d.1 d.2.1
def F20_10 : SForm := ⟨[(9, (.val (.int .i64))), (8, (.val (.int .i64))), (7, (.ref 0)), (1, (.val (.sl false (.int .i64)))), (0, (.val (.sl false (.int .i64))))], [.row (.int .i64)]⟩
def G20_10 (N : Nat) : (R : Type) → F20_10.den → (AExit → St → Option R) → Option R := fun R d k => iter (fun kb => f20_L10 N d.1.2.1 d.1.2.2.2.1 d.1.2.2.2.2.1 kb
    (fun y3 => k (.exit 2) (St.of [(7, (.ref 0 [] 0)), (1, (.data (.sl false (.int .i64)) d.1.2.2.2.1)), (0, (.data (.sl false (.int .i64)) d.1.2.2.2.2.1)), (8, (.data (.int .i64) d.1.2.1))] [.row (.int .i64) y3 0]))) N (d.1.1, d.2.1)
def F20_6 : SForm := ⟨[(8, (.val (.int .i64))), (7, (.ref 0)), (1, (.val (.sl false (.int .i64)))), (0, (.val (.sl false (.int .i64))))], [.row (.int .i64)]⟩
def G20_6 (N : Nat) : (R : Type) → F20_6.den → (AExit → St → Option R) → Option R := fun R d k => iter (fun kb => f20_L6 N d.1.2.2.1 d.1.2.2.2.1 kb
    (fun y0 => k (.exit 0) (St.of [(7, (.ref 0 [] 0))] [.row (.int .i64) y0 0]))) N (d.1.1, d.2.1)
def lp20 (N : Nat) : Nat → Option LoopFn := fun r => cond (Nat.beq r 10) (some fun R sl os k => F20_10.take sl os fun d => G20_10 N R d k) (cond (Nat.beq r 6) (some fun R sl os k => F20_6.take sl os fun d => G20_6 N R d k) (none))
def x20 (N : Nat) : Ctx := { fuel := N, tt := getL ttL, mt := getL mtL, ntmps := 61, env := fun f => (getL [(39, [c39 N]), (13, [c13 N])] f).getD [], cut := getL [(6, ⟨[8, 7, 1, 0], []⟩), (10, ⟨[9, 8, 7, 1, 0], []⟩)], exits := fun r => getL ((getL [(6, [(0, ⟨[7], []⟩)]), (10, [(2, ⟨[7, 1, 0, 8], []⟩)])] r).getD []), res := ⟨[4, 5], []⟩, own := fun _ => none, lp := lp20 N }
noncomputable def b20 : Code := ((Go.Proofs.Try.f20).body).getD .skip
theorem s20_10 (N : Nat) {R : Type} (k : AExit → St → Option R) (t8_1 : Int) (t1_1 : List Int) (t0_1 : List Int) (kb : List (Nat × AVal) → List Obj → Option R) (x : Int × List Int) : codeK (x20 N) (loopAt 10 (loopsOf b20)) (St.of [(9, (.data (.int .i64) x.1)), (8, (.data (.int .i64) t8_1)), (7, (.ref 0 [] 0)), (1, (.data (.sl false (.int .i64)) t1_1)), (0, (.data (.sl false (.int .i64)) t0_1))] [.row (.int .i64) x.2 0]) (kLoop (x20 N) 10 ⟨[9, 8, 7, 1, 0], []⟩ kb k) = f20_L10 N t8_1 t1_1 t0_1 (fun y => kb [(9, (.data (.int .i64) y.1)), (8, (.data (.int .i64) t8_1)), (7, (.ref 0 [] 0)), (1, (.data (.sl false (.int .i64)) t1_1)), (0, (.data (.sl false (.int .i64)) t0_1))] [.row (.int .i64) y.2 0])
    (fun y3 => k (.exit 2) (St.of [(7, (.ref 0 [] 0)), (1, (.data (.sl false (.int .i64)) t1_1)), (0, (.data (.sl false (.int .i64)) t0_1)), (8, (.data (.int .i64) t8_1))] [.row (.int .i64) y3 0])) x := by kernel_rfl
theorem l20_10 (N : Nat) : LoopOK (x20 N) (loopAt 10 (loopsOf b20)) :=
  loop_mk (G20_10 N) (by kernel_rfl) (by kernel_rfl) (by kernel_rfl) fun R k d =>
    loop_eq (st := fun (x : Int × List Int) => ([(9, (.data (.int .i64) x.1)), (8, (.data (.int .i64) d.1.2.1)), (7, (.ref 0 [] 0)), (1, (.data (.sl false (.int .i64)) d.1.2.2.2.1)), (0, (.data (.sl false (.int .i64)) d.1.2.2.2.2.1))], [.row (.int .i64) x.2 0])) (s20_10 N k d.1.2.1 d.1.2.2.2.1 d.1.2.2.2.2.1) N (d.1.1, d.2.1)
theorem s20_6 (N : Nat) {R : Type} (k : AExit → St → Option R) (t1 : List Int) (t0 : List Int) (kb : List (Nat × AVal) → List Obj → Option R) (x : Int × List Int) : codeK (x20 N) (loopAt 6 (loopsOf b20)) (St.of [(8, (.data (.int .i64) x.1)), (7, (.ref 0 [] 0)), (1, (.data (.sl false (.int .i64)) t1)), (0, (.data (.sl false (.int .i64)) t0))] [.row (.int .i64) x.2 0]) (kLoop (x20 N) 6 ⟨[8, 7, 1, 0], []⟩ kb k) = f20_L6 N t1 t0 (fun y => kb [(8, (.data (.int .i64) y.1)), (7, (.ref 0 [] 0)), (1, (.data (.sl false (.int .i64)) t1)), (0, (.data (.sl false (.int .i64)) t0))] [.row (.int .i64) y.2 0])
    (fun y0 => k (.exit 0) (St.of [(7, (.ref 0 [] 0))] [.row (.int .i64) y0 0])) x := by kernel_rfl
theorem l20_6 (N : Nat) : LoopOK (x20 N) (loopAt 6 (loopsOf b20)) :=
  loop_mk (G20_6 N) (by kernel_rfl) (by kernel_rfl) (by kernel_rfl) fun R k d =>
    loop_eq (st := fun (x : Int × List Int) => ([(8, (.data (.int .i64) x.1)), (7, (.ref 0 [] 0)), (1, (.data (.sl false (.int .i64)) d.1.2.2.1)), (0, (.data (.sl false (.int .i64)) d.1.2.2.2.1))], [.row (.int .i64) x.2 0])) (s20_6 N k d.1.2.2.1 d.1.2.2.2.1) N (d.1.1, d.2.1)
theorem e20 (N : Nat) (a0 : List Int) (a1 : List Int) : bodyK (x20 N) [(.sl true (.int .i64)), (.int .i64)] [.tmp 4, .tmp 5] b20 (entry (.pr (.val (.sl false (.int .i64))) (.pr (.val (.sl false (.int .i64))) .un)) (a0, (a1, ()))) = f20 N a0 a1 := by kernel_rfl
theorem k20 (N : Nat) : CalleeOK Go.Proofs.Try.prog 20 (c20 N) :=
  fn_ok (fn := Go.Proofs.Try.f20) (body := b20) (c := x20 N) Go.Proofs.Try.func20 (by kernel_rfl) (by kernel_rfl) ⟨ttL_ok, mtL_ok, env_cons (forall_mem1 (k39 N)) (env_cons (forall_mem1 (k13 N)) (env_nil))⟩ mixed (by kernel_rfl) (Nat.le_of_ble_eq_true (by kernel_rfl)) (by kernel_rfl) (by decide)
    (loops_ok (by kernel_rfl : loopsOf b20 = [loopAt 6 (loopsOf b20), loopAt 10 (loopsOf b20)]) (.cons (l20_6 N) (.cons (l20_10 N) .nil))) fun d => e20 N d.1 d.2.1
/-! ### 22: keyhole/keyholeref04.Join -/
def f22_L6 {R : Type} (N : Nat) (t1 : List Int) (t0 : List Int) (kb : Int × List Int → Option R) (kx0 : (List Int) → Option R) : Int × List Int → Option R :=
  fun (t8, o0) =>
    cond (decide (t8 < (len t0)))
      (chk (inb o0 t8) <|
      (idx o0 t8).bind fun x =>
      (idx o0 t8).bind fun x_1 =>
      kb ((wi64 (t8 + 1)), (setI o0 t8 t8)))
      (kx0 o0)
def f22_L16 {R : Type} (N : Nat) (t10_1 : Int) (t1_3 : List Int) (t0_3 : List Int) (kb : Int × Bool × List Int → Option R) (kx6 : Bool → (List Int) → Option R) : Int × Bool × List Int → Option R :=
  fun (t11, t9_2, o0_4) =>
    cond (decide (t11 < (len t0_3)))
      ((idx t0_3 t10_1).bind fun x_2 =>
      (idx t0_3 t11).bind fun x_3 =>
      (cond (decide (x_2 = x_3))
          (some true)
          ((idx t1_3 t10_1).bind fun x_4 =>
          (idx t1_3 t11).bind fun x_5 =>
          some (decide (x_4 = x_5)))).bind fun b =>
      (cond b
          (chk (inb o0_4 t11) <|
          (idx o0_4 t11).bind fun x_6 =>
          chk (inb o0_4 t10_1) <|
          (idx o0_4 t10_1).bind fun x_7 =>
          some (decide (x_6 < x_7)))
          (some false)).bind fun b_1 =>
      cond b_1
        (chk (inb o0_4 t11) <|
        (idx o0_4 t11).bind fun x_8 =>
        chk (inb o0_4 t10_1) <|
        (idx o0_4 t10_1).bind fun x_9 =>
        (idx o0_4 t10_1).bind fun x_10 =>
        kb ((wi64 (t11 + 1)), true, (setI o0_4 t10_1 x_8)))
        (kb ((wi64 (t11 + 1)), t9_2, o0_4)))
      (kx6 t9_2 o0_4)
def f22_L13 {R : Type} (N : Nat) (t1_2 : List Int) (t0_2 : List Int) (kb : Int × Bool × List Int → Option R) (kx4 : Bool → (List Int) → Option R) : Int × Bool × List Int → Option R :=
  fun (t10, t9_1, o0_3) =>
    cond (decide (t10 < (len t0_2)))
      (iter (fun w => f22_L16 N t10 t1_2 t0_2 w
        (fun t9_3 o0_5 =>
          kb ((wi64 (t10 + 1)), t9_3, o0_5))) N (0, t9_1, o0_3))
      (kx4 t9_1 o0_3)
def f22_L10 {R : Type} (N : Nat) (t1_1 : List Int) (t0_1 : List Int) (kb : Bool × List Int → Option R) (kx2 : (List Int) → Option R) : Bool × List Int → Option R :=
  fun (t9, o0_2) =>
    cond t9
      (iter (fun w => f22_L13 N t1_1 t0_1 w
        (fun t9_4 o0_6 =>
          kb (t9_4, o0_6))) N (0, false, o0_2))
      (kx2 o0_2)
def f22 (N : Nat) (a0 : List Int) (a1 : List Int) : Option (List Int × Int) :=
  (f39 N a0 a1).bind fun r =>
  cond (!(decide (r = 0)))
    (some (([] : List Int), r))
    (chk (((decide (0 ≤ (len a0))) && (decide ((len a0) ≤ (len a0)))) && (decide ((len a0) ≤ ((room : Nat) : Int)))) <|
    iter (fun w => f22_L6 N a1 a0 w
      (fun o0_1 =>
        iter (fun w => f22_L10 N a1 a0 w
          (fun o0_7 =>
            (f13 N o0_7).bind fun r_1 =>
            some (r_1, 0))) N (true, o0_1))) N (0, (List.replicate (Int.toNat (len a0)) 0 : List Int)))
def c22 (N : Nat) : Callee := .pure (.pr (.val (.sl false (.int .i64))) (.pr (.val (.sl false (.int .i64))) .un)) [(.sl true (.int .i64)), (.int .i64)] fun d => f22 N d.1 d.2.1
def F22_6 : SForm := ⟨[(8, (.val (.int .i64))), (7, (.ref 0)), (1, (.val (.sl false (.int .i64)))), (0, (.val (.sl false (.int .i64))))], [.row (.int .i64)]⟩
def G22_6 (N : Nat) : (R : Type) → F22_6.den → (AExit → St → Option R) → Option R := fun R d k => iter (fun kb => f22_L6 N d.1.2.2.1 d.1.2.2.2.1 kb
    (fun y2 => k (.exit 0) (St.of [(7, (.ref 0 [] 0)), (1, (.data (.sl false (.int .i64)) d.1.2.2.1)), (0, (.data (.sl false (.int .i64)) d.1.2.2.2.1))] [.row (.int .i64) y2 0]))) N (d.1.1, d.2.1)
def F22_16 : SForm := ⟨[(11, (.val (.int .i64))), (7, (.ref 0)), (10, (.val (.int .i64))), (1, (.val (.sl false (.int .i64)))), (0, (.val (.sl false (.int .i64)))), (9, (.val .bool))], [.row (.int .i64)]⟩
def G22_16 (N : Nat) : (R : Type) → F22_16.den → (AExit → St → Option R) → Option R := fun R d k => iter (fun kb => f22_L16 N d.1.2.2.1 d.1.2.2.2.1 d.1.2.2.2.2.1 kb
    (fun y2 y4 => k (.exit 6) (St.of [(7, (.ref 0 [] 0)), (1, (.data (.sl false (.int .i64)) d.1.2.2.2.1)), (0, (.data (.sl false (.int .i64)) d.1.2.2.2.2.1)), (9, (.data .bool y2)), (10, (.data (.int .i64) d.1.2.2.1))] [.row (.int .i64) y4 0]))) N (d.1.1, d.1.2.2.2.2.2.1, d.2.1)
def F22_13 : SForm := ⟨[(7, (.ref 0)), (10, (.val (.int .i64))), (1, (.val (.sl false (.int .i64)))), (0, (.val (.sl false (.int .i64)))), (9, (.val .bool))], [.row (.int .i64)]⟩
def G22_13 (N : Nat) : (R : Type) → F22_13.den → (AExit → St → Option R) → Option R := fun R d k => iter (fun kb => f22_L13 N d.1.2.2.1 d.1.2.2.2.1 kb
    (fun y2 y3 => k (.exit 4) (St.of [(7, (.ref 0 [] 0)), (1, (.data (.sl false (.int .i64)) d.1.2.2.1)), (0, (.data (.sl false (.int .i64)) d.1.2.2.2.1)), (9, (.data .bool y2))] [.row (.int .i64) y3 0]))) N (d.1.2.1, d.1.2.2.2.2.1, d.2.1)
def F22_10 : SForm := ⟨[(7, (.ref 0)), (1, (.val (.sl false (.int .i64)))), (0, (.val (.sl false (.int .i64)))), (9, (.val .bool))], [.row (.int .i64)]⟩
def G22_10 (N : Nat) : (R : Type) → F22_10.den → (AExit → St → Option R) → Option R := fun R d k => iter (fun kb => f22_L10 N d.1.2.1 d.1.2.2.1 kb
    (fun y0 => k (.exit 2) (St.of [(7, (.ref 0 [] 0))] [.row (.int .i64) y0 0]))) N (d.1.2.2.2.1, d.2.1)
def lp22 (N : Nat) : Nat → Option LoopFn := fun r => cond (Nat.beq r 6) (some fun R sl os k => F22_6.take sl os fun d => G22_6 N R d k) (cond (Nat.beq r 16) (some fun R sl os k => F22_16.take sl os fun d => G22_16 N R d k) (cond (Nat.beq r 13) (some fun R sl os k => F22_13.take sl os fun d => G22_13 N R d k) (cond (Nat.beq r 10) (some fun R sl os k => F22_10.take sl os fun d => G22_10 N R d k) (none))))
def x22 (N : Nat) : Ctx := { fuel := N, tt := getL ttL, mt := getL mtL, ntmps := 84, env := fun f => (getL [(39, [c39 N]), (13, [c13 N])] f).getD [], cut := getL [(6, ⟨[8, 7, 1, 0], []⟩), (10, ⟨[7, 1, 0, 9], []⟩), (13, ⟨[7, 10, 1, 0, 9], []⟩), (16, ⟨[11, 7, 10, 1, 0, 9], []⟩)], exits := fun r => getL ((getL [(6, [(0, ⟨[7, 1, 0], []⟩)]), (10, [(2, ⟨[7], []⟩)]), (13, [(4, ⟨[7, 1, 0, 9], []⟩)]), (16, [(6, ⟨[7, 1, 0, 9, 10], []⟩)])] r).getD []), res := ⟨[4, 5], []⟩, own := fun _ => none, lp := lp22 N }
noncomputable def b22 : Code := ((Go.Proofs.Try.f22).body).getD .skip
theorem s22_6 (N : Nat) {R : Type} (k : AExit → St → Option R) (t1 : List Int) (t0 : List Int) (kb : List (Nat × AVal) → List Obj → Option R) (x : Int × List Int) : codeK (x22 N) (loopAt 6 (loopsOf b22)) (St.of [(8, (.data (.int .i64) x.1)), (7, (.ref 0 [] 0)), (1, (.data (.sl false (.int .i64)) t1)), (0, (.data (.sl false (.int .i64)) t0))] [.row (.int .i64) x.2 0]) (kLoop (x22 N) 6 ⟨[8, 7, 1, 0], []⟩ kb k) = f22_L6 N t1 t0 (fun y => kb [(8, (.data (.int .i64) y.1)), (7, (.ref 0 [] 0)), (1, (.data (.sl false (.int .i64)) t1)), (0, (.data (.sl false (.int .i64)) t0))] [.row (.int .i64) y.2 0])
    (fun y2 => k (.exit 0) (St.of [(7, (.ref 0 [] 0)), (1, (.data (.sl false (.int .i64)) t1)), (0, (.data (.sl false (.int .i64)) t0))] [.row (.int .i64) y2 0])) x := by kernel_rfl
theorem l22_6 (N : Nat) : LoopOK (x22 N) (loopAt 6 (loopsOf b22)) :=
  loop_mk (G22_6 N) (by kernel_rfl) (by kernel_rfl) (by kernel_rfl) fun R k d =>
    loop_eq (st := fun (x : Int × List Int) => ([(8, (.data (.int .i64) x.1)), (7, (.ref 0 [] 0)), (1, (.data (.sl false (.int .i64)) d.1.2.2.1)), (0, (.data (.sl false (.int .i64)) d.1.2.2.2.1))], [.row (.int .i64) x.2 0])) (s22_6 N k d.1.2.2.1 d.1.2.2.2.1) N (d.1.1, d.2.1)
theorem s22_16 (N : Nat) {R : Type} (k : AExit → St → Option R) (t10_1 : Int) (t1_3 : List Int) (t0_3 : List Int) (kb : List (Nat × AVal) → List Obj → Option R) (x : Int × Bool × List Int) : codeK (x22 N) (loopAt 16 (loopsOf b22)) (St.of [(11, (.data (.int .i64) x.1)), (7, (.ref 0 [] 0)), (10, (.data (.int .i64) t10_1)), (1, (.data (.sl false (.int .i64)) t1_3)), (0, (.data (.sl false (.int .i64)) t0_3)), (9, (.data .bool x.2.1))] [.row (.int .i64) x.2.2 0]) (kLoop (x22 N) 16 ⟨[11, 7, 10, 1, 0, 9], []⟩ kb k) = f22_L16 N t10_1 t1_3 t0_3 (fun y => kb [(11, (.data (.int .i64) y.1)), (7, (.ref 0 [] 0)), (10, (.data (.int .i64) t10_1)), (1, (.data (.sl false (.int .i64)) t1_3)), (0, (.data (.sl false (.int .i64)) t0_3)), (9, (.data .bool y.2.1))] [.row (.int .i64) y.2.2 0])
    (fun y2 y4 => k (.exit 6) (St.of [(7, (.ref 0 [] 0)), (1, (.data (.sl false (.int .i64)) t1_3)), (0, (.data (.sl false (.int .i64)) t0_3)), (9, (.data .bool y2)), (10, (.data (.int .i64) t10_1))] [.row (.int .i64) y4 0])) x := by kernel_rfl
theorem l22_16 (N : Nat) : LoopOK (x22 N) (loopAt 16 (loopsOf b22)) :=
  loop_mk (G22_16 N) (by kernel_rfl) (by kernel_rfl) (by kernel_rfl) fun R k d =>
    loop_eq (st := fun (x : Int × Bool × List Int) => ([(11, (.data (.int .i64) x.1)), (7, (.ref 0 [] 0)), (10, (.data (.int .i64) d.1.2.2.1)), (1, (.data (.sl false (.int .i64)) d.1.2.2.2.1)), (0, (.data (.sl false (.int .i64)) d.1.2.2.2.2.1)), (9, (.data .bool x.2.1))], [.row (.int .i64) x.2.2 0])) (s22_16 N k d.1.2.2.1 d.1.2.2.2.1 d.1.2.2.2.2.1) N (d.1.1, d.1.2.2.2.2.2.1, d.2.1)
theorem s22_13 (N : Nat) {R : Type} (k : AExit → St → Option R) (t1_2 : List Int) (t0_2 : List Int) (kb : List (Nat × AVal) → List Obj → Option R) (x : Int × Bool × List Int) : codeK (x22 N) (loopAt 13 (loopsOf b22)) (St.of [(7, (.ref 0 [] 0)), (10, (.data (.int .i64) x.1)), (1, (.data (.sl false (.int .i64)) t1_2)), (0, (.data (.sl false (.int .i64)) t0_2)), (9, (.data .bool x.2.1))] [.row (.int .i64) x.2.2 0]) (kLoop (x22 N) 13 ⟨[7, 10, 1, 0, 9], []⟩ kb k) = f22_L13 N t1_2 t0_2 (fun y => kb [(7, (.ref 0 [] 0)), (10, (.data (.int .i64) y.1)), (1, (.data (.sl false (.int .i64)) t1_2)), (0, (.data (.sl false (.int .i64)) t0_2)), (9, (.data .bool y.2.1))] [.row (.int .i64) y.2.2 0])
    (fun y2 y3 => k (.exit 4) (St.of [(7, (.ref 0 [] 0)), (1, (.data (.sl false (.int .i64)) t1_2)), (0, (.data (.sl false (.int .i64)) t0_2)), (9, (.data .bool y2))] [.row (.int .i64) y3 0])) x := by kernel_rfl
theorem l22_13 (N : Nat) : LoopOK (x22 N) (loopAt 13 (loopsOf b22)) :=
  loop_mk (G22_13 N) (by kernel_rfl) (by kernel_rfl) (by kernel_rfl) fun R k d =>
    loop_eq (st := fun (x : Int × Bool × List Int) => ([(7, (.ref 0 [] 0)), (10, (.data (.int .i64) x.1)), (1, (.data (.sl false (.int .i64)) d.1.2.2.1)), (0, (.data (.sl false (.int .i64)) d.1.2.2.2.1)), (9, (.data .bool x.2.1))], [.row (.int .i64) x.2.2 0])) (s22_13 N k d.1.2.2.1 d.1.2.2.2.1) N (d.1.2.1, d.1.2.2.2.2.1, d.2.1)
theorem s22_10 (N : Nat) {R : Type} (k : AExit → St → Option R) (t1_1 : List Int) (t0_1 : List Int) (kb : List (Nat × AVal) → List Obj → Option R) (x : Bool × List Int) : codeK (x22 N) (loopAt 10 (loopsOf b22)) (St.of [(7, (.ref 0 [] 0)), (1, (.data (.sl false (.int .i64)) t1_1)), (0, (.data (.sl false (.int .i64)) t0_1)), (9, (.data .bool x.1))] [.row (.int .i64) x.2 0]) (kLoop (x22 N) 10 ⟨[7, 1, 0, 9], []⟩ kb k) = f22_L10 N t1_1 t0_1 (fun y => kb [(7, (.ref 0 [] 0)), (1, (.data (.sl false (.int .i64)) t1_1)), (0, (.data (.sl false (.int .i64)) t0_1)), (9, (.data .bool y.1))] [.row (.int .i64) y.2 0])
    (fun y0 => k (.exit 2) (St.of [(7, (.ref 0 [] 0))] [.row (.int .i64) y0 0])) x := by kernel_rfl
theorem l22_10 (N : Nat) : LoopOK (x22 N) (loopAt 10 (loopsOf b22)) :=
  loop_mk (G22_10 N) (by kernel_rfl) (by kernel_rfl) (by kernel_rfl) fun R k d =>
    loop_eq (st := fun (x : Bool × List Int) => ([(7, (.ref 0 [] 0)), (1, (.data (.sl false (.int .i64)) d.1.2.1)), (0, (.data (.sl false (.int .i64)) d.1.2.2.1)), (9, (.data .bool x.1))], [.row (.int .i64) x.2 0])) (s22_10 N k d.1.2.1 d.1.2.2.1) N (d.1.2.2.2.1, d.2.1)
theorem e22 (N : Nat) (a0 : List Int) (a1 : List Int) : bodyK (x22 N) [(.sl true (.int .i64)), (.int .i64)] [.tmp 4, .tmp 5] b22 (entry (.pr (.val (.sl false (.int .i64))) (.pr (.val (.sl false (.int .i64))) .un)) (a0, (a1, ()))) = f22 N a0 a1 := by kernel_rfl
theorem k22 (N : Nat) : CalleeOK Go.Proofs.Try.prog 22 (c22 N) :=
  fn_ok (fn := Go.Proofs.Try.f22) (body := b22) (c := x22 N) Go.Proofs.Try.func22 (by kernel_rfl) (by kernel_rfl) ⟨ttL_ok, mtL_ok, env_cons (forall_mem1 (k39 N)) (env_cons (forall_mem1 (k13 N)) (env_nil))⟩ mixed (by kernel_rfl) (Nat.le_of_ble_eq_true (by kernel_rfl)) (by kernel_rfl) (by decide)
    (loops_ok (by kernel_rfl : loopsOf b22 = [loopAt 6 (loopsOf b22), loopAt 10 (loopsOf b22), loopAt 13 (loopsOf b22), loopAt 16 (loopsOf b22)]) (.cons (l22_6 N) (.cons (l22_10 N) (.cons (l22_13 N) (.cons (l22_16 N) .nil))))) fun d => e22 N d.1 d.2.1
/-! ### 23: keyhole/partition.Refines -/
def f23 (N : Nat) (a0 : List Int) (a1 : List Int) : Option (Bool × Int) :=
  (f19 N a0 a1).bind fun r =>
  (cond (decide (r.2 = 0))
      ((f12 N r.1 a0).bind fun r_1 =>
      some r_1)
      (some false)).bind fun b =>
  some (b, r.2)
def c23 (N : Nat) : Callee := .pure (.pr (.val (.sl false (.int .i64))) (.pr (.val (.sl false (.int .i64))) .un)) [.bool, (.int .i64)] fun d => f23 N d.1 d.2.1
def lp23 (N : Nat) : Nat → Option LoopFn := fun r => none
def x23 (N : Nat) : Ctx := { fuel := N, tt := getL ttL, mt := getL mtL, ntmps := 22, env := fun f => (getL [(19, [c19 N]), (12, [c12 N])] f).getD [], cut := getL [], exits := fun r => getL ((getL [] r).getD []), res := ⟨[4, 5], []⟩, own := fun _ => none, lp := lp23 N }
noncomputable def b23 : Code := ((Go.Proofs.Try.f23).body).getD .skip
theorem e23 (N : Nat) (a0 : List Int) (a1 : List Int) : bodyK (x23 N) [.bool, (.int .i64)] [.tmp 4, .tmp 5] b23 (entry (.pr (.val (.sl false (.int .i64))) (.pr (.val (.sl false (.int .i64))) .un)) (a0, (a1, ()))) = f23 N a0 a1 := by kernel_rfl
theorem k23 (N : Nat) : CalleeOK Go.Proofs.Try.prog 23 (c23 N) :=
  fn_ok (fn := Go.Proofs.Try.f23) (body := b23) (c := x23 N) Go.Proofs.Try.func23 (by kernel_rfl) (by kernel_rfl) ⟨ttL_ok, mtL_ok, env_cons (forall_mem1 (k19 N)) (env_cons (forall_mem1 (k12 N)) (env_nil))⟩ mixed (by kernel_rfl) (Nat.le_of_ble_eq_true (by kernel_rfl)) (by kernel_rfl) (by decide)
    (loops_ok (by kernel_rfl : loopsOf b23 = []) .nil) fun d => e23 N d.1 d.2.1
/-! ### 24: keyhole/keyholeref04.Refines -/
def f24_L8 {R : Type} (N : Nat) (t1_1 : List Int) (t7_1 : Int) (t0_1 : List Int) (kb : Int → Option R) (kret : Bool → Int → Option R) (kx2 : Unit → Option R) : Int → Option R :=
  fun t8 =>
    cond (decide (t8 < t7_1))
      ((idx t0_1 t7_1).bind fun x =>
      (idx t0_1 t8).bind fun x_1 =>
      (cond (decide (x = x_1))
          ((idx t1_1 t7_1).bind fun x_2 =>
          (idx t1_1 t8).bind fun x_3 =>
          some (!(decide (x_2 = x_3))))
          (some false)).bind fun b =>
      cond b
        (kret false 0)
        (kb (wi64 (t8 + 1))))
      (kx2 ())
def f24_L5 {R : Type} (N : Nat) (t1 : List Int) (t0 : List Int) (kb : Int → Option R) (kret : Bool → Int → Option R) (kx0 : Unit → Option R) : Int → Option R :=
  fun t7 =>
    cond (decide (t7 < (len t0)))
      (iter (fun w => f24_L8 N t1 t7 t0 w
        (fun t4 t5 =>
          kret t4 t5)
        (fun (_ : Unit) =>
          kb (wi64 (t7 + 1)))) N 0)
      (kx0 ())
def f24 (N : Nat) (a0 : List Int) (a1 : List Int) : Option (Bool × Int) :=
  (f39 N a0 a1).bind fun r =>
  cond (!(decide (r = 0)))
    (some (false, r))
    (iter (fun w => f24_L5 N a1 a0 w
      (fun t4_1 t5_1 =>
        some (t4_1, t5_1))
      (fun (_ : Unit) =>
        some (true, 0))) N 0)
def c24 (N : Nat) : Callee := .pure (.pr (.val (.sl false (.int .i64))) (.pr (.val (.sl false (.int .i64))) .un)) [.bool, (.int .i64)] fun d => f24 N d.1 d.2.1
def F24_8 : SForm := ⟨[(8, (.val (.int .i64))), (1, (.val (.sl false (.int .i64)))), (7, (.val (.int .i64))), (0, (.val (.sl false (.int .i64))))], []⟩
def G24_8 (N : Nat) : (R : Type) → F24_8.den → (AExit → St → Option R) → Option R := fun R d k => iter (fun kb => f24_L8 N d.1.2.1 d.1.2.2.1 d.1.2.2.2.1 kb
    (fun y0 y1 => k .ret (St.of [(4, (.data .bool y0)), (5, (.data (.int .i64) y1))] []))
    (fun _ => k (.exit 2) (St.of [(1, (.data (.sl false (.int .i64)) d.1.2.1)), (0, (.data (.sl false (.int .i64)) d.1.2.2.2.1)), (7, (.data (.int .i64) d.1.2.2.1))] []))) N d.1.1
def F24_5 : SForm := ⟨[(1, (.val (.sl false (.int .i64)))), (7, (.val (.int .i64))), (0, (.val (.sl false (.int .i64))))], []⟩
def G24_5 (N : Nat) : (R : Type) → F24_5.den → (AExit → St → Option R) → Option R := fun R d k => iter (fun kb => f24_L5 N d.1.1 d.1.2.2.1 kb
    (fun y0 y1 => k .ret (St.of [(4, (.data .bool y0)), (5, (.data (.int .i64) y1))] []))
    (fun _ => k (.exit 0) (St.of [] []))) N d.1.2.1
def lp24 (N : Nat) : Nat → Option LoopFn := fun r => cond (Nat.beq r 8) (some fun R sl os k => F24_8.take sl os fun d => G24_8 N R d k) (cond (Nat.beq r 5) (some fun R sl os k => F24_5.take sl os fun d => G24_5 N R d k) (none))
def x24 (N : Nat) : Ctx := { fuel := N, tt := getL ttL, mt := getL mtL, ntmps := 46, env := fun f => (getL [(39, [c39 N])] f).getD [], cut := getL [(5, ⟨[1, 7, 0], []⟩), (8, ⟨[8, 1, 7, 0], []⟩)], exits := fun r => getL ((getL [(5, [(0, ⟨[], []⟩)]), (8, [(2, ⟨[1, 0, 7], []⟩)])] r).getD []), res := ⟨[4, 5], []⟩, own := fun _ => none, lp := lp24 N }
noncomputable def b24 : Code := ((Go.Proofs.Try.f24).body).getD .skip
theorem s24_8 (N : Nat) {R : Type} (k : AExit → St → Option R) (t1_1 : List Int) (t7_1 : Int) (t0_1 : List Int) (kb : List (Nat × AVal) → List Obj → Option R) (x : Int) : codeK (x24 N) (loopAt 8 (loopsOf b24)) (St.of [(8, (.data (.int .i64) x)), (1, (.data (.sl false (.int .i64)) t1_1)), (7, (.data (.int .i64) t7_1)), (0, (.data (.sl false (.int .i64)) t0_1))] []) (kLoop (x24 N) 8 ⟨[8, 1, 7, 0], []⟩ kb k) = f24_L8 N t1_1 t7_1 t0_1 (fun y => kb [(8, (.data (.int .i64) y)), (1, (.data (.sl false (.int .i64)) t1_1)), (7, (.data (.int .i64) t7_1)), (0, (.data (.sl false (.int .i64)) t0_1))] [])
    (fun y0 y1 => k .ret (St.of [(4, (.data .bool y0)), (5, (.data (.int .i64) y1))] []))
    (fun _ => k (.exit 2) (St.of [(1, (.data (.sl false (.int .i64)) t1_1)), (0, (.data (.sl false (.int .i64)) t0_1)), (7, (.data (.int .i64) t7_1))] [])) x := by kernel_rfl
theorem l24_8 (N : Nat) : LoopOK (x24 N) (loopAt 8 (loopsOf b24)) :=
  loop_mk (G24_8 N) (by kernel_rfl) (by kernel_rfl) (by kernel_rfl) fun R k d =>
    loop_eq (st := fun (x : Int) => ([(8, (.data (.int .i64) x)), (1, (.data (.sl false (.int .i64)) d.1.2.1)), (7, (.data (.int .i64) d.1.2.2.1)), (0, (.data (.sl false (.int .i64)) d.1.2.2.2.1))], [])) (s24_8 N k d.1.2.1 d.1.2.2.1 d.1.2.2.2.1) N d.1.1
theorem s24_5 (N : Nat) {R : Type} (k : AExit → St → Option R) (t1 : List Int) (t0 : List Int) (kb : List (Nat × AVal) → List Obj → Option R) (x : Int) : codeK (x24 N) (loopAt 5 (loopsOf b24)) (St.of [(1, (.data (.sl false (.int .i64)) t1)), (7, (.data (.int .i64) x)), (0, (.data (.sl false (.int .i64)) t0))] []) (kLoop (x24 N) 5 ⟨[1, 7, 0], []⟩ kb k) = f24_L5 N t1 t0 (fun y => kb [(1, (.data (.sl false (.int .i64)) t1)), (7, (.data (.int .i64) y)), (0, (.data (.sl false (.int .i64)) t0))] [])
    (fun y0 y1 => k .ret (St.of [(4, (.data .bool y0)), (5, (.data (.int .i64) y1))] []))
    (fun _ => k (.exit 0) (St.of [] [])) x := by kernel_rfl
theorem l24_5 (N : Nat) : LoopOK (x24 N) (loopAt 5 (loopsOf b24)) :=
  loop_mk (G24_5 N) (by kernel_rfl) (by kernel_rfl) (by kernel_rfl) fun R k d =>
    loop_eq (st := fun (x : Int) => ([(1, (.data (.sl false (.int .i64)) d.1.1)), (7, (.data (.int .i64) x)), (0, (.data (.sl false (.int .i64)) d.1.2.2.1))], [])) (s24_5 N k d.1.1 d.1.2.2.1) N d.1.2.1
theorem e24 (N : Nat) (a0 : List Int) (a1 : List Int) : bodyK (x24 N) [.bool, (.int .i64)] [.tmp 4, .tmp 5] b24 (entry (.pr (.val (.sl false (.int .i64))) (.pr (.val (.sl false (.int .i64))) .un)) (a0, (a1, ()))) = f24 N a0 a1 := by kernel_rfl
theorem k24 (N : Nat) : CalleeOK Go.Proofs.Try.prog 24 (c24 N) :=
  fn_ok (fn := Go.Proofs.Try.f24) (body := b24) (c := x24 N) Go.Proofs.Try.func24 (by kernel_rfl) (by kernel_rfl) ⟨ttL_ok, mtL_ok, env_cons (forall_mem1 (k39 N)) (env_nil)⟩ mixed (by kernel_rfl) (Nat.le_of_ble_eq_true (by kernel_rfl)) (by kernel_rfl) (by decide)
    (loops_ok (by kernel_rfl : loopsOf b24 = [loopAt 5 (loopsOf b24), loopAt 8 (loopsOf b24)]) (.cons (l24_5 N) (.cons (l24_8 N) .nil))) fun d => e24 N d.1 d.2.1
/-! ### 5: keyhole/keyholelaw04.PartitionMeets -/
def f5 (N : Nat) (a0 : List Int) (a1 : List Int) : Option (Bool) :=
  (f10 N).bind fun r =>
  cond (!r)
    (some false)
    ((cond (decide (64 < (len a0)))
        (some true)
        (some (decide (64 < (len a1))))).bind fun b =>
    cond b
      (some true)
      ((f19 N a0 a1).bind fun r_1 =>
      (f20 N a0 a1).bind fun r_2 =>
      (f21 N a0 a1).bind fun r_3 =>
      (f22 N a0 a1).bind fun r_4 =>
      (f23 N a0 a1).bind fun r_5 =>
      (f24 N a0 a1).bind fun r_6 =>
      (f12 N r_1.1 r_2.1).bind fun r_7 =>
      (cond r_7
          (some (decide (r_1.2 = r_2.2)))
          (some false)).bind fun b_1 =>
      (cond b_1
          ((f12 N r_3.1 r_4.1).bind fun r_8 =>
          some r_8)
          (some false)).bind fun b_2 =>
      (cond b_2
          (some (decide (r_3.2 = r_4.2)))
          (some false)).bind fun b_3 =>
      (cond b_3
          (some (decide (r_5.1 = r_6.1)))
          (some false)).bind fun b_4 =>
      (cond b_4
          (some (decide (r_5.2 = r_6.2)))
          (some false)).bind fun b_5 =>
      some b_5))
def c5 (N : Nat) : Callee := .pure (.pr (.val (.sl false (.int .i64))) (.pr (.val (.sl false (.int .i64))) .un)) [.bool] fun d => f5 N d.1 d.2.1
def lp5 (N : Nat) : Nat → Option LoopFn := fun r => none
def x5 (N : Nat) : Ctx := { fuel := N, tt := getL ttL, mt := getL mtL, ntmps := 91, env := fun f => (getL [(10, [c10 N]), (19, [c19 N]), (20, [c20 N]), (21, [c21 N]), (22, [c22 N]), (23, [c23 N]), (24, [c24 N]), (12, [c12 N])] f).getD [], cut := getL [], exits := fun r => getL ((getL [] r).getD []), res := ⟨[4], []⟩, own := fun _ => none, lp := lp5 N }
noncomputable def b5 : Code := ((Go.Proofs.Try.f5).body).getD .skip
theorem e5 (N : Nat) (a0 : List Int) (a1 : List Int) : bodyK (x5 N) [.bool] [.tmp 4] b5 (entry (.pr (.val (.sl false (.int .i64))) (.pr (.val (.sl false (.int .i64))) .un)) (a0, (a1, ()))) = f5 N a0 a1 := by kernel_rfl
theorem k5 (N : Nat) : CalleeOK Go.Proofs.Try.prog 5 (c5 N) :=
  fn_ok (fn := Go.Proofs.Try.f5) (body := b5) (c := x5 N) Go.Proofs.Try.func5 (by kernel_rfl) (by kernel_rfl) ⟨ttL_ok, mtL_ok, env_cons (forall_mem1 (k10 N)) (env_cons (forall_mem1 (k19 N)) (env_cons (forall_mem1 (k20 N)) (env_cons (forall_mem1 (k21 N)) (env_cons (forall_mem1 (k22 N)) (env_cons (forall_mem1 (k23 N)) (env_cons (forall_mem1 (k24 N)) (env_cons (forall_mem1 (k12 N)) (env_nil))))))))⟩ mixed (by kernel_rfl) (Nat.le_of_ble_eq_true (by kernel_rfl)) (by kernel_rfl) (by decide)
    (loops_ok (by kernel_rfl : loopsOf b5 = []) .nil) fun d => e5 N d.1 d.2.1
/-! ### 25: keyhole/keyholelaw04.refines -/
def f25 (N : Nat) (a0 : List Int) (a1 : List Int) : Option (Bool) :=
  (f23 N a0 a1).bind fun r =>
  (cond r.1
      (some (decide (r.2 = 0)))
      (some false)).bind fun b =>
  some b
def c25 (N : Nat) : Callee := .pure (.pr (.val (.sl false (.int .i64))) (.pr (.val (.sl false (.int .i64))) .un)) [.bool] fun d => f25 N d.1 d.2.1
def lp25 (N : Nat) : Nat → Option LoopFn := fun r => none
def x25 (N : Nat) : Ctx := { fuel := N, tt := getL ttL, mt := getL mtL, ntmps := 18, env := fun f => (getL [(23, [c23 N])] f).getD [], cut := getL [], exits := fun r => getL ((getL [] r).getD []), res := ⟨[4], []⟩, own := fun _ => none, lp := lp25 N }
noncomputable def b25 : Code := ((Go.Proofs.Try.f25).body).getD .skip
theorem e25 (N : Nat) (a0 : List Int) (a1 : List Int) : bodyK (x25 N) [.bool] [.tmp 4] b25 (entry (.pr (.val (.sl false (.int .i64))) (.pr (.val (.sl false (.int .i64))) .un)) (a0, (a1, ()))) = f25 N a0 a1 := by kernel_rfl
theorem k25 (N : Nat) : CalleeOK Go.Proofs.Try.prog 25 (c25 N) :=
  fn_ok (fn := Go.Proofs.Try.f25) (body := b25) (c := x25 N) Go.Proofs.Try.func25 (by kernel_rfl) (by kernel_rfl) ⟨ttL_ok, mtL_ok, env_cons (forall_mem1 (k23 N)) (env_nil)⟩ mixed (by kernel_rfl) (Nat.le_of_ble_eq_true (by kernel_rfl)) (by kernel_rfl) (by decide)
    (loops_ok (by kernel_rfl : loopsOf b25 = []) .nil) fun d => e25 N d.1 d.2.1
/-! ### 6: keyhole/keyholelaw04.PartitionOrder -/
def f6 (N : Nat) (a0 : List Int) (a1 : List Int) (a2 : List Int) : Option (Bool) :=
  (f10 N).bind fun r =>
  cond (!r)
    (some false)
    ((f16 N a0 a1 a2).bind fun r_1 =>
    (f17 N r_1.1 r_1.2.1).bind fun r_2 =>
    (f18 N r_1.1 r_1.2.1).bind fun r_3 =>
    (cond (!r_2.2)
        (some true)
        (some (!r_3.2))).bind fun b =>
    (cond b
        (some true)
        ((f25 N r_1.1 r_1.1).bind fun r_4 =>
        some (!r_4))).bind fun b_1 =>
    (cond b_1
        (some true)
        ((f25 N r_1.1 r_1.2.1).bind fun r_5 =>
        (f12 N r_2.1 r_1.1).bind fun r_6 =>
        some (!(decide (r_5 = r_6))))).bind fun b_2 =>
    (cond b_2
        (some true)
        ((f25 N r_1.1 r_1.2.1).bind fun r_7 =>
        (f12 N r_3.1 r_1.2.1).bind fun r_8 =>
        some (!(decide (r_7 = r_8))))).bind fun b_3 =>
    cond b_3
      (some false)
      ((f25 N r_1.1 r_1.2.1).bind fun r_9 =>
      (cond r_9
          ((f25 N r_1.2.1 r_1.1).bind fun r_10 =>
          some r_10)
          (some false)).bind fun b_4 =>
      (cond b_4
          ((f12 N r_1.1 r_1.2.1).bind fun r_11 =>
          some (!r_11))
          (some false)).bind fun b_5 =>
      cond b_5
        (some false)
        ((f17 N r_2.1 r_1.2.2).bind fun r_12 =>
        (cond (!r_12.2)
            (some true)
            ((f25 N r_12.1 r_2.1).bind fun r_13 =>
            some (!r_13))).bind fun b_6 =>
        (cond b_6
            (some true)
            ((f25 N r_2.1 r_1.1).bind fun r_14 =>
            some (!r_14))).bind fun b_7 =>
        (cond b_7
            (some true)
            ((f25 N r_2.1 r_1.2.1).bind fun r_15 =>
            some (!r_15))).bind fun b_8 =>
        (cond b_8
            (some true)
            ((f25 N r_1.1 r_3.1).bind fun r_16 =>
            some (!r_16))).bind fun b_9 =>
        (cond b_9
            (some true)
            ((f25 N r_1.2.1 r_3.1).bind fun r_17 =>
            some (!r_17))).bind fun b_10 =>
        (cond b_10
            (some true)
            ((f25 N r_12.1 r_3.1).bind fun r_18 =>
            some (!r_18))).bind fun b_11 =>
        cond b_11
          (some false)
          ((f25 N r_1.1 r_1.2.1).bind fun r_19 =>
          (cond (!r_19)
              (some true)
              ((f25 N r_1.2.1 r_1.2.2).bind fun r_20 =>
              some (!r_20))).bind fun b_12 =>
          (cond b_12
              (some true)
              ((f25 N r_1.1 r_1.2.2).bind fun r_21 =>
              some r_21)).bind fun b_13 =>
          some b_13))))
def c6 (N : Nat) : Callee := .pure (.pr (.val (.sl false (.int .i64))) (.pr (.val (.sl false (.int .i64))) (.pr (.val (.sl false (.int .i64))) .un))) [.bool] fun d => f6 N d.1 d.2.1 d.2.2.1
def lp6 (N : Nat) : Nat → Option LoopFn := fun r => none
def x6 (N : Nat) : Ctx := { fuel := N, tt := getL ttL, mt := getL mtL, ntmps := 140, env := fun f => (getL [(10, [c10 N]), (16, [c16 N]), (17, [c17 N]), (18, [c18 N]), (25, [c25 N]), (12, [c12 N])] f).getD [], cut := getL [], exits := fun r => getL ((getL [] r).getD []), res := ⟨[6], []⟩, own := fun _ => none, lp := lp6 N }
noncomputable def b6 : Code := ((Go.Proofs.Try.f6).body).getD .skip
theorem e6 (N : Nat) (a0 : List Int) (a1 : List Int) (a2 : List Int) : bodyK (x6 N) [.bool] [.tmp 6] b6 (entry (.pr (.val (.sl false (.int .i64))) (.pr (.val (.sl false (.int .i64))) (.pr (.val (.sl false (.int .i64))) .un))) (a0, (a1, (a2, ())))) = f6 N a0 a1 a2 := by kernel_rfl
theorem k6 (N : Nat) : CalleeOK Go.Proofs.Try.prog 6 (c6 N) :=
  fn_ok (fn := Go.Proofs.Try.f6) (body := b6) (c := x6 N) Go.Proofs.Try.func6 (by kernel_rfl) (by kernel_rfl) ⟨ttL_ok, mtL_ok, env_cons (forall_mem1 (k10 N)) (env_cons (forall_mem1 (k16 N)) (env_cons (forall_mem1 (k17 N)) (env_cons (forall_mem1 (k18 N)) (env_cons (forall_mem1 (k25 N)) (env_cons (forall_mem1 (k12 N)) (env_nil))))))⟩ mixed (by kernel_rfl) (Nat.le_of_ble_eq_true (by kernel_rfl)) (by kernel_rfl) (by decide)
    (loops_ok (by kernel_rfl : loopsOf b6 = []) .nil) fun d => e6 N d.1 d.2.1 d.2.2.1
/-! ### 28: keyhole/partition.Largest -/
def f28_L3 {R : Type} (N : Nat) (t8 : Int) (o0 : List Int) (kb : Int × Int → Option R) (kx0 : Int → Option R) : Int × Int → Option R :=
  fun (t9, t3) =>
    cond (decide (t9 < t8))
      (chk (inb o0 t9) <|
      (idx o0 t9).bind fun x =>
      kb ((wi64 (t9 + 1)), (maxI t3 x)))
      (kx0 t3)
def f28 (N : Nat) (a0 : List Int) : Option (Int) :=
  (f30 N a0).bind fun r =>
  iter (fun w => f28_L3 N (len r) r w
    (fun t3_1 =>
      some t3_1)) N (0, 0)
def c28 (N : Nat) : Callee := .pure (.pr (.val (.sl false (.int .i64))) .un) [(.int .i64)] fun d => f28 N d.1
def F28_3 : SForm := ⟨[(9, (.val (.int .i64))), (3, (.val (.int .i64))), (7, (.ref 0)), (8, (.val (.int .i64)))], [.row (.int .i64)]⟩
def G28_3 (N : Nat) : (R : Type) → F28_3.den → (AExit → St → Option R) → Option R := fun R d k => iter (fun kb => f28_L3 N d.1.2.2.2.1 d.2.1 kb
    (fun y0 => k (.exit 0) (St.of [(3, (.data (.int .i64) y0))] []))) N (d.1.1, d.1.2.1)
def lp28 (N : Nat) : Nat → Option LoopFn := fun r => cond (Nat.beq r 3) (some fun R sl os k => F28_3.take sl os fun d => G28_3 N R d k) (none)
def x28 (N : Nat) : Ctx := { fuel := N, tt := getL ttL, mt := getL mtL, ntmps := 18, env := fun f => (getL [(30, [c30 N])] f).getD [], cut := getL [(3, ⟨[9, 3, 7, 8], []⟩)], exits := fun r => getL ((getL [(3, [(0, ⟨[3], []⟩)])] r).getD []), res := ⟨[2], []⟩, own := fun _ => none, lp := lp28 N }
noncomputable def b28 : Code := ((Go.Proofs.Try.f28).body).getD .skip
theorem s28_3 (N : Nat) {R : Type} (k : AExit → St → Option R) (t8 : Int) (o0 : List Int) (kb : List (Nat × AVal) → List Obj → Option R) (x : Int × Int) : codeK (x28 N) (loopAt 3 (loopsOf b28)) (St.of [(9, (.data (.int .i64) x.1)), (3, (.data (.int .i64) x.2)), (7, (.ref 0 [] 0)), (8, (.data (.int .i64) t8))] [.row (.int .i64) o0 0]) (kLoop (x28 N) 3 ⟨[9, 3, 7, 8], []⟩ kb k) = f28_L3 N t8 o0 (fun y => kb [(9, (.data (.int .i64) y.1)), (3, (.data (.int .i64) y.2)), (7, (.ref 0 [] 0)), (8, (.data (.int .i64) t8))] [.row (.int .i64) o0 0])
    (fun y0 => k (.exit 0) (St.of [(3, (.data (.int .i64) y0))] [])) x := by kernel_rfl
theorem l28_3 (N : Nat) : LoopOK (x28 N) (loopAt 3 (loopsOf b28)) :=
  loop_mk (G28_3 N) (by kernel_rfl) (by kernel_rfl) (by kernel_rfl) fun R k d =>
    loop_eq (st := fun (x : Int × Int) => ([(9, (.data (.int .i64) x.1)), (3, (.data (.int .i64) x.2)), (7, (.ref 0 [] 0)), (8, (.data (.int .i64) d.1.2.2.2.1))], [.row (.int .i64) d.2.1 0])) (s28_3 N k d.1.2.2.2.1 d.2.1) N (d.1.1, d.1.2.1)
theorem e28 (N : Nat) (a0 : List Int) : bodyK (x28 N) [(.int .i64)] [.tmp 2] b28 (entry (.pr (.val (.sl false (.int .i64))) .un) (a0, ())) = f28 N a0 := by kernel_rfl
theorem k28 (N : Nat) : CalleeOK Go.Proofs.Try.prog 28 (c28 N) :=
  fn_ok (fn := Go.Proofs.Try.f28) (body := b28) (c := x28 N) Go.Proofs.Try.func28 (by kernel_rfl) (by kernel_rfl) ⟨ttL_ok, mtL_ok, env_cons (forall_mem1 (k30 N)) (env_nil)⟩ mixed (by kernel_rfl) (Nat.le_of_ble_eq_true (by kernel_rfl)) (by kernel_rfl) (by decide)
    (loops_ok (by kernel_rfl : loopsOf b28 = [loopAt 3 (loopsOf b28)]) (.cons (l28_3 N) .nil)) fun d => e28 N d.1
/-! ### 7: keyhole/keyholelaw04.PartitionSemimodular -/
def f7 (N : Nat) (a0 : List Int) (a1 : List Int) : Option (Bool) :=
  (f10 N).bind fun r =>
  cond (!r)
    (some false)
    ((f16 N a0 a1 a0).bind fun r_1 =>
    (f17 N r_1.1 r_1.2.1).bind fun r_2 =>
    (f18 N r_1.1 r_1.2.1).bind fun r_3 =>
    (cond (!r_2.2)
        (some true)
        (some (!r_3.2))).bind fun b =>
    cond b
      (some false)
      ((f26 N r_1.1).bind fun r_4 =>
      (f26 N r_1.2.1).bind fun r_5 =>
      (f26 N r_2.1).bind fun r_6 =>
      (f26 N r_3.1).bind fun r_7 =>
      (cond (decide ((wi64 (r_6 + r_7)) < (wi64 (r_4 + r_5))))
          (some true)
          (some (decide ((wi64 (r_4 * r_5)) < r_6)))).bind fun b_1 =>
      (cond b_1
          (some true)
          (some (decide (r_6 < (maxI r_4 r_5))))).bind fun b_2 =>
      (cond b_2
          (some true)
          (some (decide ((minI r_4 r_5) < r_7)))).bind fun b_3 =>
      (cond b_3
          (some true)
          ((cond (decide (0 < (len r_1.1)))
              (some (decide (r_7 < 1)))
              (some false)).bind fun b_4 =>
          some b_4)).bind fun b_5 =>
      cond b_5
        (some false)
        ((f27 N r_2.1).bind fun r_8 =>
        (f27 N r_1.1).bind fun r_9 =>
        (cond (decide (r_9 ≤ r_8))
            ((f27 N r_1.1).bind fun r_10 =>
            (f27 N r_3.1).bind fun r_11 =>
            some (decide (r_11 ≤ r_10)))
            (some false)).bind fun b_6 =>
        (cond b_6
            ((f27 N r_2.1).bind fun r_12 =>
            (f27 N r_1.1).bind fun r_13 =>
            (f27 N r_1.2.1).bind fun r_14 =>
            some (decide (r_12 ≤ (wi64 (r_13 + r_14)))))
            (some false)).bind fun b_7 =>
        (cond b_7
            ((f28 N r_2.1).bind fun r_15 =>
            (f28 N r_1.1).bind fun r_16 =>
            some (decide (r_15 ≤ r_16)))
            (some false)).bind fun b_8 =>
        (cond b_8
            ((f28 N r_1.1).bind fun r_17 =>
            (f28 N r_3.1).bind fun r_18 =>
            some (decide (r_17 ≤ r_18)))
            (some false)).bind fun b_9 =>
        some b_9)))
def c7 (N : Nat) : Callee := .pure (.pr (.val (.sl false (.int .i64))) (.pr (.val (.sl false (.int .i64))) .un)) [.bool] fun d => f7 N d.1 d.2.1
def lp7 (N : Nat) : Nat → Option LoopFn := fun r => none
def x7 (N : Nat) : Ctx := { fuel := N, tt := getL ttL, mt := getL mtL, ntmps := 125, env := fun f => (getL [(10, [c10 N]), (16, [c16 N]), (17, [c17 N]), (18, [c18 N]), (26, [c26 N]), (27, [c27 N]), (28, [c28 N])] f).getD [], cut := getL [], exits := fun r => getL ((getL [] r).getD []), res := ⟨[4], []⟩, own := fun _ => none, lp := lp7 N }
noncomputable def b7 : Code := ((Go.Proofs.Try.f7).body).getD .skip
theorem e7 (N : Nat) (a0 : List Int) (a1 : List Int) : bodyK (x7 N) [.bool] [.tmp 4] b7 (entry (.pr (.val (.sl false (.int .i64))) (.pr (.val (.sl false (.int .i64))) .un)) (a0, (a1, ()))) = f7 N a0 a1 := by kernel_rfl
theorem k7 (N : Nat) : CalleeOK Go.Proofs.Try.prog 7 (c7 N) :=
  fn_ok (fn := Go.Proofs.Try.f7) (body := b7) (c := x7 N) Go.Proofs.Try.func7 (by kernel_rfl) (by kernel_rfl) ⟨ttL_ok, mtL_ok, env_cons (forall_mem1 (k10 N)) (env_cons (forall_mem1 (k16 N)) (env_cons (forall_mem1 (k17 N)) (env_cons (forall_mem1 (k18 N)) (env_cons (forall_mem1 (k26 N)) (env_cons (forall_mem1 (k27 N)) (env_cons (forall_mem1 (k28 N)) (env_nil)))))))⟩ mixed (by kernel_rfl) (Nat.le_of_ble_eq_true (by kernel_rfl)) (by kernel_rfl) (by decide)
    (loops_ok (by kernel_rfl : loopsOf b7 = []) .nil) fun d => e7 N d.1 d.2.1
/-! ### 29: keyhole/keyholeref04.Count -/
def f29_L5 {R : Type} (N : Nat) (t0 : List Int) (kb : Int × Int → Option R) (kx0 : Int → Option R) : Int × Int → Option R :=
  fun (t4, t3) =>
    cond (decide (t4 < (len t0)))
      ((idx t0 t4).bind fun x =>
      cond (decide (x = t3))
        (kb ((wi64 (t4 + 1)), (wi64 (t3 + 1))))
        (kb ((wi64 (t4 + 1)), t3)))
      (kx0 t3)
def f29 (N : Nat) (a0 : List Int) : Option (Int) :=
  (f15 N a0).bind fun r =>
  cond (!r)
    (some 0)
    (iter (fun w => f29_L5 N a0 w
      (fun t3_1 =>
        some t3_1)) N (0, 0))
def c29 (N : Nat) : Callee := .pure (.pr (.val (.sl false (.int .i64))) .un) [(.int .i64)] fun d => f29 N d.1
def F29_5 : SForm := ⟨[(4, (.val (.int .i64))), (3, (.val (.int .i64))), (0, (.val (.sl false (.int .i64))))], []⟩
def G29_5 (N : Nat) : (R : Type) → F29_5.den → (AExit → St → Option R) → Option R := fun R d k => iter (fun kb => f29_L5 N d.1.2.2.1 kb
    (fun y0 => k (.exit 0) (St.of [(3, (.data (.int .i64) y0))] []))) N (d.1.1, d.1.2.1)
def lp29 (N : Nat) : Nat → Option LoopFn := fun r => cond (Nat.beq r 5) (some fun R sl os k => F29_5.take sl os fun d => G29_5 N R d k) (none)
def x29 (N : Nat) : Ctx := { fuel := N, tt := getL ttL, mt := getL mtL, ntmps := 23, env := fun f => (getL [(15, [c15 N])] f).getD [], cut := getL [(5, ⟨[4, 3, 0], []⟩)], exits := fun r => getL ((getL [(5, [(0, ⟨[3], []⟩)])] r).getD []), res := ⟨[2], []⟩, own := fun _ => none, lp := lp29 N }
noncomputable def b29 : Code := ((Go.Proofs.Try.f29).body).getD .skip
theorem s29_5 (N : Nat) {R : Type} (k : AExit → St → Option R) (t0 : List Int) (kb : List (Nat × AVal) → List Obj → Option R) (x : Int × Int) : codeK (x29 N) (loopAt 5 (loopsOf b29)) (St.of [(4, (.data (.int .i64) x.1)), (3, (.data (.int .i64) x.2)), (0, (.data (.sl false (.int .i64)) t0))] []) (kLoop (x29 N) 5 ⟨[4, 3, 0], []⟩ kb k) = f29_L5 N t0 (fun y => kb [(4, (.data (.int .i64) y.1)), (3, (.data (.int .i64) y.2)), (0, (.data (.sl false (.int .i64)) t0))] [])
    (fun y0 => k (.exit 0) (St.of [(3, (.data (.int .i64) y0))] [])) x := by kernel_rfl
theorem l29_5 (N : Nat) : LoopOK (x29 N) (loopAt 5 (loopsOf b29)) :=
  loop_mk (G29_5 N) (by kernel_rfl) (by kernel_rfl) (by kernel_rfl) fun R k d =>
    loop_eq (st := fun (x : Int × Int) => ([(4, (.data (.int .i64) x.1)), (3, (.data (.int .i64) x.2)), (0, (.data (.sl false (.int .i64)) d.1.2.2.1))], [])) (s29_5 N k d.1.2.2.1) N (d.1.1, d.1.2.1)
theorem e29 (N : Nat) (a0 : List Int) : bodyK (x29 N) [(.int .i64)] [.tmp 2] b29 (entry (.pr (.val (.sl false (.int .i64))) .un) (a0, ())) = f29 N a0 := by kernel_rfl
theorem k29 (N : Nat) : CalleeOK Go.Proofs.Try.prog 29 (c29 N) :=
  fn_ok (fn := Go.Proofs.Try.f29) (body := b29) (c := x29 N) Go.Proofs.Try.func29 (by kernel_rfl) (by kernel_rfl) ⟨ttL_ok, mtL_ok, env_cons (forall_mem1 (k15 N)) (env_nil)⟩ mixed (by kernel_rfl) (Nat.le_of_ble_eq_true (by kernel_rfl)) (by kernel_rfl) (by decide)
    (loops_ok (by kernel_rfl : loopsOf b29 = [loopAt 5 (loopsOf b29)]) (.cons (l29_5 N) .nil)) fun d => e29 N d.1
/-! ### 33: keyhole/keyholeref04.Class -/
def f33_L5 {R : Type} (N : Nat) (t1 : Int) (t0 : List Int) (kb : Int × List Int → Option R) (kx0 : (List Int) → Option R) : Int × List Int → Option R :=
  fun (t6, o0) =>
    cond (decide (t6 < (len t0)))
      ((idx t0 t6).bind fun x =>
      cond (decide (x = t1))
        (chk (decide ((o0.length.succ) ≤ room)) <|
        kb ((wi64 (t6 + 1)), (o0 ++ (t6 :: ([] : List Int)))))
        (kb ((wi64 (t6 + 1)), o0)))
      (kx0 o0)
def f33 (N : Nat) (a0 : List Int) (a1 : Int) : Option (List Int) :=
  (f15 N a0).bind fun r =>
  cond (!r)
    (some ([] : List Int))
    (iter (fun w => f33_L5 N a1 a0 w
      (fun o0_1 =>
        some o0_1)) N (0, ([] : List Int)))
def c33 (N : Nat) : Callee := .pure (.pr (.val (.sl false (.int .i64))) (.pr (.val (.int .i64)) .un)) [(.sl true (.int .i64))] fun d => f33 N d.1 d.2.1
def F33_5 : SForm := ⟨[(6, (.val (.int .i64))), (5, (.ref 0)), (1, (.val (.int .i64))), (0, (.val (.sl false (.int .i64))))], [.row (.int .i64)]⟩
def G33_5 (N : Nat) : (R : Type) → F33_5.den → (AExit → St → Option R) → Option R := fun R d k => iter (fun kb => f33_L5 N d.1.2.2.1 d.1.2.2.2.1 kb
    (fun y0 => k (.exit 0) (St.of [(5, (.ref 0 [] 0))] [.row (.int .i64) y0 0]))) N (d.1.1, d.2.1)
def lp33 (N : Nat) : Nat → Option LoopFn := fun r => cond (Nat.beq r 5) (some fun R sl os k => F33_5.take sl os fun d => G33_5 N R d k) (none)
def x33 (N : Nat) : Ctx := { fuel := N, tt := getL ttL, mt := getL mtL, ntmps := 28, env := fun f => (getL [(15, [c15 N])] f).getD [], cut := getL [(5, ⟨[6, 5, 1, 0], [(5, none, .row (.int .i64))]⟩)], exits := fun r => getL ((getL [(5, [(0, ⟨[5], []⟩)])] r).getD []), res := ⟨[4], []⟩, own := fun _ => none, lp := lp33 N }
noncomputable def b33 : Code := ((Go.Proofs.Try.f33).body).getD .skip
theorem s33_5 (N : Nat) {R : Type} (k : AExit → St → Option R) (t1 : Int) (t0 : List Int) (kb : List (Nat × AVal) → List Obj → Option R) (x : Int × List Int) : codeK (x33 N) (loopAt 5 (loopsOf b33)) (St.of [(6, (.data (.int .i64) x.1)), (5, (.ref 0 [] 0)), (1, (.data (.int .i64) t1)), (0, (.data (.sl false (.int .i64)) t0))] [.row (.int .i64) x.2 0]) (kLoop (x33 N) 5 ⟨[6, 5, 1, 0], [(5, none, .row (.int .i64))]⟩ kb k) = f33_L5 N t1 t0 (fun y => kb [(6, (.data (.int .i64) y.1)), (5, (.ref 0 [] 0)), (1, (.data (.int .i64) t1)), (0, (.data (.sl false (.int .i64)) t0))] [.row (.int .i64) y.2 0])
    (fun y0 => k (.exit 0) (St.of [(5, (.ref 0 [] 0))] [.row (.int .i64) y0 0])) x := by kernel_rfl
theorem l33_5 (N : Nat) : LoopOK (x33 N) (loopAt 5 (loopsOf b33)) :=
  loop_mk (G33_5 N) (by kernel_rfl) (by kernel_rfl) (by kernel_rfl) fun R k d =>
    loop_eq (st := fun (x : Int × List Int) => ([(6, (.data (.int .i64) x.1)), (5, (.ref 0 [] 0)), (1, (.data (.int .i64) d.1.2.2.1)), (0, (.data (.sl false (.int .i64)) d.1.2.2.2.1))], [.row (.int .i64) x.2 0])) (s33_5 N k d.1.2.2.1 d.1.2.2.2.1) N (d.1.1, d.2.1)
theorem e33 (N : Nat) (a0 : List Int) (a1 : Int) : bodyK (x33 N) [(.sl true (.int .i64))] [.tmp 4] b33 (entry (.pr (.val (.sl false (.int .i64))) (.pr (.val (.int .i64)) .un)) (a0, (a1, ()))) = f33 N a0 a1 := by kernel_rfl
theorem k33 (N : Nat) : CalleeOK Go.Proofs.Try.prog 33 (c33 N) :=
  fn_ok (fn := Go.Proofs.Try.f33) (body := b33) (c := x33 N) Go.Proofs.Try.func33 (by kernel_rfl) (by kernel_rfl) ⟨ttL_ok, mtL_ok, env_cons (forall_mem1 (k15 N)) (env_nil)⟩ mixed (by kernel_rfl) (Nat.le_of_ble_eq_true (by kernel_rfl)) (by kernel_rfl) (by decide)
    (loops_ok (by kernel_rfl : loopsOf b33 = [loopAt 5 (loopsOf b33)]) (.cons (l33_5 N) .nil)) fun d => e33 N d.1 d.2.1
/-! ### 31: keyhole/keyholeref04.Sizes -/
def f31_L3 {R : Type} (N : Nat) (t0 : List Int) (kb : Int × List Int → Option R) (kx0 : (List Int) → Option R) : Int × List Int → Option R :=
  fun (t4, o0) =>
    (f29 N t0).bind fun r =>
    cond (decide (t4 < r))
      ((f33 N t0 t4).bind fun r_1 =>
      chk (decide ((o0.length.succ) ≤ room)) <|
      kb ((wi64 (t4 + 1)), (o0 ++ ((len r_1) :: ([] : List Int)))))
      (kx0 o0)
def f31 (N : Nat) (a0 : List Int) : Option (List Int) :=
  iter (fun w => f31_L3 N a0 w
    (fun o0_1 =>
      some o0_1)) N (0, ([] : List Int))
def c31 (N : Nat) : Callee := .pure (.pr (.val (.sl false (.int .i64))) .un) [(.sl true (.int .i64))] fun d => f31 N d.1
def F31_3 : SForm := ⟨[(4, (.val (.int .i64))), (0, (.val (.sl false (.int .i64)))), (3, (.ref 0))], [.row (.int .i64)]⟩
def G31_3 (N : Nat) : (R : Type) → F31_3.den → (AExit → St → Option R) → Option R := fun R d k => iter (fun kb => f31_L3 N d.1.2.1 kb
    (fun y0 => k (.exit 0) (St.of [(3, (.ref 0 [] 0))] [.row (.int .i64) y0 0]))) N (d.1.1, d.2.1)
def lp31 (N : Nat) : Nat → Option LoopFn := fun r => cond (Nat.beq r 3) (some fun R sl os k => F31_3.take sl os fun d => G31_3 N R d k) (none)
def x31 (N : Nat) : Ctx := { fuel := N, tt := getL ttL, mt := getL mtL, ntmps := 19, env := fun f => (getL [(29, [c29 N]), (33, [c33 N])] f).getD [], cut := getL [(3, ⟨[4, 0, 3], [(3, none, .row (.int .i64))]⟩)], exits := fun r => getL ((getL [(3, [(0, ⟨[3], []⟩)])] r).getD []), res := ⟨[2], []⟩, own := fun _ => none, lp := lp31 N }
noncomputable def b31 : Code := ((Go.Proofs.Try.f31).body).getD .skip
theorem s31_3 (N : Nat) {R : Type} (k : AExit → St → Option R) (t0 : List Int) (kb : List (Nat × AVal) → List Obj → Option R) (x : Int × List Int) : codeK (x31 N) (loopAt 3 (loopsOf b31)) (St.of [(4, (.data (.int .i64) x.1)), (0, (.data (.sl false (.int .i64)) t0)), (3, (.ref 0 [] 0))] [.row (.int .i64) x.2 0]) (kLoop (x31 N) 3 ⟨[4, 0, 3], [(3, none, .row (.int .i64))]⟩ kb k) = f31_L3 N t0 (fun y => kb [(4, (.data (.int .i64) y.1)), (0, (.data (.sl false (.int .i64)) t0)), (3, (.ref 0 [] 0))] [.row (.int .i64) y.2 0])
    (fun y0 => k (.exit 0) (St.of [(3, (.ref 0 [] 0))] [.row (.int .i64) y0 0])) x := by kernel_rfl
theorem l31_3 (N : Nat) : LoopOK (x31 N) (loopAt 3 (loopsOf b31)) :=
  loop_mk (G31_3 N) (by kernel_rfl) (by kernel_rfl) (by kernel_rfl) fun R k d =>
    loop_eq (st := fun (x : Int × List Int) => ([(4, (.data (.int .i64) x.1)), (0, (.data (.sl false (.int .i64)) d.1.2.1)), (3, (.ref 0 [] 0))], [.row (.int .i64) x.2 0])) (s31_3 N k d.1.2.1) N (d.1.1, d.2.1)
theorem e31 (N : Nat) (a0 : List Int) : bodyK (x31 N) [(.sl true (.int .i64))] [.tmp 2] b31 (entry (.pr (.val (.sl false (.int .i64))) .un) (a0, ())) = f31 N a0 := by kernel_rfl
theorem k31 (N : Nat) : CalleeOK Go.Proofs.Try.prog 31 (c31 N) :=
  fn_ok (fn := Go.Proofs.Try.f31) (body := b31) (c := x31 N) Go.Proofs.Try.func31 (by kernel_rfl) (by kernel_rfl) ⟨ttL_ok, mtL_ok, env_cons (forall_mem1 (k29 N)) (env_cons (forall_mem1 (k33 N)) (env_nil))⟩ mixed (by kernel_rfl) (Nat.le_of_ble_eq_true (by kernel_rfl)) (by kernel_rfl) (by decide)
    (loops_ok (by kernel_rfl : loopsOf b31 = [loopAt 3 (loopsOf b31)]) (.cons (l31_3 N) .nil)) fun d => e31 N d.1
/-! ### 32: keyhole/partition.Class -/
def f32_L5 {R : Type} (N : Nat) (t1 : Int) (t11 : List Int) (t12 : Int) (kb : Int × List Int → Option R) (kx0 : (List Int) → Option R) : Int × List Int → Option R :=
  fun (t13, o0) =>
    cond (decide (t13 < t12))
      ((idx t11 t13).bind fun x =>
      cond (decide (x = t1))
        (chk (decide ((o0.length.succ) ≤ room)) <|
        kb ((wi64 (t13 + 1)), (o0 ++ (t13 :: ([] : List Int)))))
        (kb ((wi64 (t13 + 1)), o0)))
      (kx0 o0)
def f32 (N : Nat) (a0 : List Int) (a1 : Int) : Option (List Int) :=
  (f14 N a0).bind fun r =>
  cond (!r)
    (some ([] : List Int))
    (iter (fun w => f32_L5 N a1 a0 (len a0) w
      (fun o0_1 =>
        some o0_1)) N (0, ([] : List Int)))
def c32 (N : Nat) : Callee := .pure (.pr (.val (.sl false (.int .i64))) (.pr (.val (.int .i64)) .un)) [(.sl true (.int .i64))] fun d => f32 N d.1 d.2.1
def F32_5 : SForm := ⟨[(13, (.val (.int .i64))), (5, (.ref 0)), (1, (.val (.int .i64))), (11, (.val (.sl false (.int .i64)))), (12, (.val (.int .i64)))], [.row (.int .i64)]⟩
def G32_5 (N : Nat) : (R : Type) → F32_5.den → (AExit → St → Option R) → Option R := fun R d k => iter (fun kb => f32_L5 N d.1.2.2.1 d.1.2.2.2.1 d.1.2.2.2.2.1 kb
    (fun y0 => k (.exit 0) (St.of [(5, (.ref 0 [] 0))] [.row (.int .i64) y0 0]))) N (d.1.1, d.2.1)
def lp32 (N : Nat) : Nat → Option LoopFn := fun r => cond (Nat.beq r 5) (some fun R sl os k => F32_5.take sl os fun d => G32_5 N R d k) (none)
def x32 (N : Nat) : Ctx := { fuel := N, tt := getL ttL, mt := getL mtL, ntmps := 27, env := fun f => (getL [(14, [c14 N])] f).getD [], cut := getL [(5, ⟨[13, 5, 1, 11, 12], [(5, none, .row (.int .i64))]⟩)], exits := fun r => getL ((getL [(5, [(0, ⟨[5], []⟩)])] r).getD []), res := ⟨[4], []⟩, own := fun _ => none, lp := lp32 N }
noncomputable def b32 : Code := ((Go.Proofs.Try.f32).body).getD .skip
theorem s32_5 (N : Nat) {R : Type} (k : AExit → St → Option R) (t1 : Int) (t11 : List Int) (t12 : Int) (kb : List (Nat × AVal) → List Obj → Option R) (x : Int × List Int) : codeK (x32 N) (loopAt 5 (loopsOf b32)) (St.of [(13, (.data (.int .i64) x.1)), (5, (.ref 0 [] 0)), (1, (.data (.int .i64) t1)), (11, (.data (.sl false (.int .i64)) t11)), (12, (.data (.int .i64) t12))] [.row (.int .i64) x.2 0]) (kLoop (x32 N) 5 ⟨[13, 5, 1, 11, 12], [(5, none, .row (.int .i64))]⟩ kb k) = f32_L5 N t1 t11 t12 (fun y => kb [(13, (.data (.int .i64) y.1)), (5, (.ref 0 [] 0)), (1, (.data (.int .i64) t1)), (11, (.data (.sl false (.int .i64)) t11)), (12, (.data (.int .i64) t12))] [.row (.int .i64) y.2 0])
    (fun y0 => k (.exit 0) (St.of [(5, (.ref 0 [] 0))] [.row (.int .i64) y0 0])) x := by kernel_rfl
theorem l32_5 (N : Nat) : LoopOK (x32 N) (loopAt 5 (loopsOf b32)) :=
  loop_mk (G32_5 N) (by kernel_rfl) (by kernel_rfl) (by kernel_rfl) fun R k d =>
    loop_eq (st := fun (x : Int × List Int) => ([(13, (.data (.int .i64) x.1)), (5, (.ref 0 [] 0)), (1, (.data (.int .i64) d.1.2.2.1)), (11, (.data (.sl false (.int .i64)) d.1.2.2.2.1)), (12, (.data (.int .i64) d.1.2.2.2.2.1))], [.row (.int .i64) x.2 0])) (s32_5 N k d.1.2.2.1 d.1.2.2.2.1 d.1.2.2.2.2.1) N (d.1.1, d.2.1)
theorem e32 (N : Nat) (a0 : List Int) (a1 : Int) : bodyK (x32 N) [(.sl true (.int .i64))] [.tmp 4] b32 (entry (.pr (.val (.sl false (.int .i64))) (.pr (.val (.int .i64)) .un)) (a0, (a1, ()))) = f32 N a0 a1 := by kernel_rfl
theorem k32 (N : Nat) : CalleeOK Go.Proofs.Try.prog 32 (c32 N) :=
  fn_ok (fn := Go.Proofs.Try.f32) (body := b32) (c := x32 N) Go.Proofs.Try.func32 (by kernel_rfl) (by kernel_rfl) ⟨ttL_ok, mtL_ok, env_cons (forall_mem1 (k14 N)) (env_nil)⟩ mixed (by kernel_rfl) (Nat.le_of_ble_eq_true (by kernel_rfl)) (by kernel_rfl) (by decide)
    (loops_ok (by kernel_rfl : loopsOf b32 = [loopAt 5 (loopsOf b32)]) (.cons (l32_5 N) .nil)) fun d => e32 N d.1 d.2.1
/-! ### 34: keyhole/keyholeref04.Pairs -/
def f34_L8 {R : Type} (N : Nat) (t0_1 : List Int) (t4_1 : Int) (kb : Int × Int → Option R) (kx2 : Int → Option R) : Int × Int → Option R :=
  fun (t5, t3_1) =>
    cond (decide (t5 < t4_1))
      ((idx t0_1 t4_1).bind fun x =>
      (idx t0_1 t5).bind fun x_1 =>
      cond (!(decide (x = x_1)))
        (kb ((wi64 (t5 + 1)), (wi64 (t3_1 + 1))))
        (kb ((wi64 (t5 + 1)), t3_1)))
      (kx2 t3_1)
def f34_L5 {R : Type} (N : Nat) (t0 : List Int) (kb : Int × Int → Option R) (kx0 : Int → Option R) : Int × Int → Option R :=
  fun (t3, t4) =>
    cond (decide (t4 < (len t0)))
      (iter (fun w => f34_L8 N t0 t4 w
        (fun t3_2 =>
          kb (t3_2, (wi64 (t4 + 1))))) N (0, t3))
      (kx0 t3)
def f34 (N : Nat) (a0 : List Int) : Option (Int) :=
  (f15 N a0).bind fun r =>
  cond (!r)
    (some 0)
    (iter (fun w => f34_L5 N a0 w
      (fun t3_3 =>
        some t3_3)) N (0, 0))
def c34 (N : Nat) : Callee := .pure (.pr (.val (.sl false (.int .i64))) .un) [(.int .i64)] fun d => f34 N d.1
def F34_8 : SForm := ⟨[(5, (.val (.int .i64))), (3, (.val (.int .i64))), (0, (.val (.sl false (.int .i64)))), (4, (.val (.int .i64)))], []⟩
def G34_8 (N : Nat) : (R : Type) → F34_8.den → (AExit → St → Option R) → Option R := fun R d k => iter (fun kb => f34_L8 N d.1.2.2.1 d.1.2.2.2.1 kb
    (fun y0 => k (.exit 2) (St.of [(3, (.data (.int .i64) y0)), (0, (.data (.sl false (.int .i64)) d.1.2.2.1)), (4, (.data (.int .i64) d.1.2.2.2.1))] []))) N (d.1.1, d.1.2.1)
def F34_5 : SForm := ⟨[(3, (.val (.int .i64))), (0, (.val (.sl false (.int .i64)))), (4, (.val (.int .i64)))], []⟩
def G34_5 (N : Nat) : (R : Type) → F34_5.den → (AExit → St → Option R) → Option R := fun R d k => iter (fun kb => f34_L5 N d.1.2.1 kb
    (fun y0 => k (.exit 0) (St.of [(3, (.data (.int .i64) y0))] []))) N (d.1.1, d.1.2.2.1)
def lp34 (N : Nat) : Nat → Option LoopFn := fun r => cond (Nat.beq r 8) (some fun R sl os k => F34_8.take sl os fun d => G34_8 N R d k) (cond (Nat.beq r 5) (some fun R sl os k => F34_5.take sl os fun d => G34_5 N R d k) (none))
def x34 (N : Nat) : Ctx := { fuel := N, tt := getL ttL, mt := getL mtL, ntmps := 32, env := fun f => (getL [(15, [c15 N])] f).getD [], cut := getL [(5, ⟨[3, 0, 4], []⟩), (8, ⟨[5, 3, 0, 4], []⟩)], exits := fun r => getL ((getL [(5, [(0, ⟨[3], []⟩)]), (8, [(2, ⟨[3, 0, 4], []⟩)])] r).getD []), res := ⟨[2], []⟩, own := fun _ => none, lp := lp34 N }
noncomputable def b34 : Code := ((Go.Proofs.Try.f34).body).getD .skip
theorem s34_8 (N : Nat) {R : Type} (k : AExit → St → Option R) (t0_1 : List Int) (t4_1 : Int) (kb : List (Nat × AVal) → List Obj → Option R) (x : Int × Int) : codeK (x34 N) (loopAt 8 (loopsOf b34)) (St.of [(5, (.data (.int .i64) x.1)), (3, (.data (.int .i64) x.2)), (0, (.data (.sl false (.int .i64)) t0_1)), (4, (.data (.int .i64) t4_1))] []) (kLoop (x34 N) 8 ⟨[5, 3, 0, 4], []⟩ kb k) = f34_L8 N t0_1 t4_1 (fun y => kb [(5, (.data (.int .i64) y.1)), (3, (.data (.int .i64) y.2)), (0, (.data (.sl false (.int .i64)) t0_1)), (4, (.data (.int .i64) t4_1))] [])
    (fun y0 => k (.exit 2) (St.of [(3, (.data (.int .i64) y0)), (0, (.data (.sl false (.int .i64)) t0_1)), (4, (.data (.int .i64) t4_1))] [])) x := by kernel_rfl
theorem l34_8 (N : Nat) : LoopOK (x34 N) (loopAt 8 (loopsOf b34)) :=
  loop_mk (G34_8 N) (by kernel_rfl) (by kernel_rfl) (by kernel_rfl) fun R k d =>
    loop_eq (st := fun (x : Int × Int) => ([(5, (.data (.int .i64) x.1)), (3, (.data (.int .i64) x.2)), (0, (.data (.sl false (.int .i64)) d.1.2.2.1)), (4, (.data (.int .i64) d.1.2.2.2.1))], [])) (s34_8 N k d.1.2.2.1 d.1.2.2.2.1) N (d.1.1, d.1.2.1)
theorem s34_5 (N : Nat) {R : Type} (k : AExit → St → Option R) (t0 : List Int) (kb : List (Nat × AVal) → List Obj → Option R) (x : Int × Int) : codeK (x34 N) (loopAt 5 (loopsOf b34)) (St.of [(3, (.data (.int .i64) x.1)), (0, (.data (.sl false (.int .i64)) t0)), (4, (.data (.int .i64) x.2))] []) (kLoop (x34 N) 5 ⟨[3, 0, 4], []⟩ kb k) = f34_L5 N t0 (fun y => kb [(3, (.data (.int .i64) y.1)), (0, (.data (.sl false (.int .i64)) t0)), (4, (.data (.int .i64) y.2))] [])
    (fun y0 => k (.exit 0) (St.of [(3, (.data (.int .i64) y0))] [])) x := by kernel_rfl
theorem l34_5 (N : Nat) : LoopOK (x34 N) (loopAt 5 (loopsOf b34)) :=
  loop_mk (G34_5 N) (by kernel_rfl) (by kernel_rfl) (by kernel_rfl) fun R k d =>
    loop_eq (st := fun (x : Int × Int) => ([(3, (.data (.int .i64) x.1)), (0, (.data (.sl false (.int .i64)) d.1.2.1)), (4, (.data (.int .i64) x.2))], [])) (s34_5 N k d.1.2.1) N (d.1.1, d.1.2.2.1)
theorem e34 (N : Nat) (a0 : List Int) : bodyK (x34 N) [(.int .i64)] [.tmp 2] b34 (entry (.pr (.val (.sl false (.int .i64))) .un) (a0, ())) = f34 N a0 := by kernel_rfl
theorem k34 (N : Nat) : CalleeOK Go.Proofs.Try.prog 34 (c34 N) :=
  fn_ok (fn := Go.Proofs.Try.f34) (body := b34) (c := x34 N) Go.Proofs.Try.func34 (by kernel_rfl) (by kernel_rfl) ⟨ttL_ok, mtL_ok, env_cons (forall_mem1 (k15 N)) (env_nil)⟩ mixed (by kernel_rfl) (Nat.le_of_ble_eq_true (by kernel_rfl)) (by kernel_rfl) (by decide)
    (loops_ok (by kernel_rfl : loopsOf b34 = [loopAt 5 (loopsOf b34), loopAt 8 (loopsOf b34)]) (.cons (l34_5 N) (.cons (l34_8 N) .nil))) fun d => e34 N d.1
/-! ### 35: keyhole/keyholeref04.Largest -/
def f35_L4 {R : Type} (N : Nat) (o0 : List Int) (kb : Int × Int → Option R) (kx0 : Int → Option R) : Int × Int → Option R :=
  fun (t5, t3) =>
    cond (decide (t5 < (len o0)))
      (chk (inb o0 t5) <|
      (idx o0 t5).bind fun x =>
      cond (decide (t3 < x))
        (chk (inb o0 t5) <|
        (idx o0 t5).bind fun x_1 =>
        kb ((wi64 (t5 + 1)), x_1))
        (kb ((wi64 (t5 + 1)), t3)))
      (kx0 t3)
def f35 (N : Nat) (a0 : List Int) : Option (Int) :=
  (f31 N a0).bind fun r =>
  iter (fun w => f35_L4 N r w
    (fun t3_1 =>
      some t3_1)) N (0, 0)
def c35 (N : Nat) : Callee := .pure (.pr (.val (.sl false (.int .i64))) .un) [(.int .i64)] fun d => f35 N d.1
def F35_4 : SForm := ⟨[(5, (.val (.int .i64))), (4, (.ref 0)), (3, (.val (.int .i64)))], [.row (.int .i64)]⟩
def G35_4 (N : Nat) : (R : Type) → F35_4.den → (AExit → St → Option R) → Option R := fun R d k => iter (fun kb => f35_L4 N d.2.1 kb
    (fun y0 => k (.exit 0) (St.of [(3, (.data (.int .i64) y0))] []))) N (d.1.1, d.1.2.2.1)
def lp35 (N : Nat) : Nat → Option LoopFn := fun r => cond (Nat.beq r 4) (some fun R sl os k => F35_4.take sl os fun d => G35_4 N R d k) (none)
def x35 (N : Nat) : Ctx := { fuel := N, tt := getL ttL, mt := getL mtL, ntmps := 25, env := fun f => (getL [(31, [c31 N])] f).getD [], cut := getL [(4, ⟨[5, 4, 3], []⟩)], exits := fun r => getL ((getL [(4, [(0, ⟨[3], []⟩)])] r).getD []), res := ⟨[2], []⟩, own := fun _ => none, lp := lp35 N }
noncomputable def b35 : Code := ((Go.Proofs.Try.f35).body).getD .skip
theorem s35_4 (N : Nat) {R : Type} (k : AExit → St → Option R) (o0 : List Int) (kb : List (Nat × AVal) → List Obj → Option R) (x : Int × Int) : codeK (x35 N) (loopAt 4 (loopsOf b35)) (St.of [(5, (.data (.int .i64) x.1)), (4, (.ref 0 [] 0)), (3, (.data (.int .i64) x.2))] [.row (.int .i64) o0 0]) (kLoop (x35 N) 4 ⟨[5, 4, 3], []⟩ kb k) = f35_L4 N o0 (fun y => kb [(5, (.data (.int .i64) y.1)), (4, (.ref 0 [] 0)), (3, (.data (.int .i64) y.2))] [.row (.int .i64) o0 0])
    (fun y0 => k (.exit 0) (St.of [(3, (.data (.int .i64) y0))] [])) x := by kernel_rfl
theorem l35_4 (N : Nat) : LoopOK (x35 N) (loopAt 4 (loopsOf b35)) :=
  loop_mk (G35_4 N) (by kernel_rfl) (by kernel_rfl) (by kernel_rfl) fun R k d =>
    loop_eq (st := fun (x : Int × Int) => ([(5, (.data (.int .i64) x.1)), (4, (.ref 0 [] 0)), (3, (.data (.int .i64) x.2))], [.row (.int .i64) d.2.1 0])) (s35_4 N k d.2.1) N (d.1.1, d.1.2.2.1)
theorem e35 (N : Nat) (a0 : List Int) : bodyK (x35 N) [(.int .i64)] [.tmp 2] b35 (entry (.pr (.val (.sl false (.int .i64))) .un) (a0, ())) = f35 N a0 := by kernel_rfl
theorem k35 (N : Nat) : CalleeOK Go.Proofs.Try.prog 35 (c35 N) :=
  fn_ok (fn := Go.Proofs.Try.f35) (body := b35) (c := x35 N) Go.Proofs.Try.func35 (by kernel_rfl) (by kernel_rfl) ⟨ttL_ok, mtL_ok, env_cons (forall_mem1 (k31 N)) (env_nil)⟩ mixed (by kernel_rfl) (Nat.le_of_ble_eq_true (by kernel_rfl)) (by kernel_rfl) (by decide)
    (loops_ok (by kernel_rfl : loopsOf b35 = [loopAt 4 (loopsOf b35)]) (.cons (l35_4 N) .nil)) fun d => e35 N d.1
/-! ### 8: keyhole/keyholelaw04.PartitionCounts -/
def f8 (N : Nat) (a0 : List Int) (a1 : Int) : Option (Bool) :=
  (f10 N).bind fun r =>
  cond (!r)
    (some false)
    (cond (decide (64 < (len a0)))
      (some true)
      ((f26 N a0).bind fun r_1 =>
      (f29 N a0).bind fun r_2 =>
      (cond (decide (r_1 = r_2))
          ((f30 N a0).bind fun r_3 =>
          (f31 N a0).bind fun r_4 =>
          (f12 N r_3 r_4).bind fun r_5 =>
          some r_5)
          (some false)).bind fun b =>
      (cond b
          ((f32 N a0 a1).bind fun r_6 =>
          (f33 N a0 a1).bind fun r_7 =>
          (f12 N r_6 r_7).bind fun r_8 =>
          some r_8)
          (some false)).bind fun b_1 =>
      (cond b_1
          ((f27 N a0).bind fun r_9 =>
          (f34 N a0).bind fun r_10 =>
          some (decide (r_9 = r_10)))
          (some false)).bind fun b_2 =>
      (cond b_2
          ((f28 N a0).bind fun r_11 =>
          (f35 N a0).bind fun r_12 =>
          some (decide (r_11 = r_12)))
          (some false)).bind fun b_3 =>
      some b_3))
def c8 (N : Nat) : Callee := .pure (.pr (.val (.sl false (.int .i64))) (.pr (.val (.int .i64)) .un)) [.bool] fun d => f8 N d.1 d.2.1
def lp8 (N : Nat) : Nat → Option LoopFn := fun r => none
def x8 (N : Nat) : Ctx := { fuel := N, tt := getL ttL, mt := getL mtL, ntmps := 45, env := fun f => (getL [(10, [c10 N]), (26, [c26 N]), (29, [c29 N]), (30, [c30 N]), (31, [c31 N]), (12, [c12 N]), (32, [c32 N]), (33, [c33 N]), (27, [c27 N]), (34, [c34 N]), (28, [c28 N]), (35, [c35 N])] f).getD [], cut := getL [], exits := fun r => getL ((getL [] r).getD []), res := ⟨[4], []⟩, own := fun _ => none, lp := lp8 N }
noncomputable def b8 : Code := ((Go.Proofs.Try.f8).body).getD .skip
theorem e8 (N : Nat) (a0 : List Int) (a1 : Int) : bodyK (x8 N) [.bool] [.tmp 4] b8 (entry (.pr (.val (.sl false (.int .i64))) (.pr (.val (.int .i64)) .un)) (a0, (a1, ()))) = f8 N a0 a1 := by kernel_rfl
theorem k8 (N : Nat) : CalleeOK Go.Proofs.Try.prog 8 (c8 N) :=
  fn_ok (fn := Go.Proofs.Try.f8) (body := b8) (c := x8 N) Go.Proofs.Try.func8 (by kernel_rfl) (by kernel_rfl) ⟨ttL_ok, mtL_ok, env_cons (forall_mem1 (k10 N)) (env_cons (forall_mem1 (k26 N)) (env_cons (forall_mem1 (k29 N)) (env_cons (forall_mem1 (k30 N)) (env_cons (forall_mem1 (k31 N)) (env_cons (forall_mem1 (k12 N)) (env_cons (forall_mem1 (k32 N)) (env_cons (forall_mem1 (k33 N)) (env_cons (forall_mem1 (k27 N)) (env_cons (forall_mem1 (k34 N)) (env_cons (forall_mem1 (k28 N)) (env_cons (forall_mem1 (k35 N)) (env_nil))))))))))))⟩ mixed (by kernel_rfl) (Nat.le_of_ble_eq_true (by kernel_rfl)) (by kernel_rfl) (by decide)
    (loops_ok (by kernel_rfl : loopsOf b8 = []) .nil) fun d => e8 N d.1 d.2.1

end Go.Kz
