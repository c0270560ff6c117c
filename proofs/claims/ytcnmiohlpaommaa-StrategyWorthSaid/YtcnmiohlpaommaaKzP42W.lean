/-
  The functions of the program as plain functions on lists and numbers, and the proofs that the program computes them. Printed by a program.
-/
import Derived.Test.YtcnmiohlpaommaaKzP42
set_option linter.unusedSimpArgs false
set_option maxRecDepth 100000
set_option linter.unusedVariables false
namespace Go.Kz
open Go.Proofs

/-! ### 29: keyhole/keyholelaw42.CheckGain -/
def f29_L9 {R : Type} (N : Nat) (t27 : List Int) (t1_1 : Int) (t17_1 : List (List Int)) (t18_1 : Int) (t19_1 : Int) (t28 : Int) (kb : Int → Option R) (kret : Bool → Option R) (kx2 : Unit → Option R) : Int → Option R :=
  fun t29 =>
    cond (decide (t29 < t28))
      ((idx t27 t29).bind fun x_1 =>
      (cond (decide (x_1 < 0))
          (some true)
          (some (decide (1024 < x_1)))).bind fun b_1 =>
      cond b_1
        (kret false)
        (kb (wi64 (t29 + 1))))
      (kx2 ())
def f29_L4 {R : Type} (N : Nat) (t1 : Int) (t17 : List (List Int)) (t18 : Int) (kb : Int → Option R) (kret : Bool → Option R) (kx0 : Unit → Option R) : Int → Option R :=
  fun t19 =>
    cond (decide (t19 < t18))
      ((idx t17 t19).bind fun x =>
      cond (!(decide ((len x) = t1)))
        (kret false)
        (iter (fun w => f29_L9 N x t1 t17 t18 t19 (len x) w
          (fun t4 =>
            kret t4)
          (fun (_ : Unit) =>
            kb (wi64 (t19 + 1)))) N 0))
      (kx0 ())
def f29 (N : Nat) (a0 : List (List Int)) (a1 : Int) : Option (Bool) :=
  (cond (decide ((len a0) < 1))
      (some true)
      (some (decide (64 < (len a0))))).bind fun b =>
  cond b
    (some false)
    (iter (fun w => f29_L4 N a1 a0 (len a0) w
      (fun t4_1 =>
        some t4_1)
      (fun (_ : Unit) =>
        some true)) N 0)
def c29 (N : Nat) : Callee := .pure (.pr (.val (.sl false (.sl false (.int .i64)))) (.pr (.val (.int .i64)) .un)) [.bool] fun d => f29 N d.1 d.2.1
def F29_9 : SForm := ⟨[(29, (.val (.int .i64))), (27, (.val (.sl false (.int .i64)))), (1, (.val (.int .i64))), (17, (.val (.sl false (.sl false (.int .i64))))), (18, (.val (.int .i64))), (19, (.val (.int .i64))), (28, (.val (.int .i64)))], []⟩
def G29_9 (N : Nat) : (R : Type) → F29_9.den → (AExit → St → Option R) → Option R := fun R d k => iter (fun kb => f29_L9 N d.1.2.1 d.1.2.2.1 d.1.2.2.2.1 d.1.2.2.2.2.1 d.1.2.2.2.2.2.1 d.1.2.2.2.2.2.2.1 kb
    (fun y0 => k .ret (St.of [(4, (.data .bool y0))] []))
    (fun _ => k (.exit 2) (St.of [(1, (.data (.int .i64) d.1.2.2.1)), (17, (.data (.sl false (.sl false (.int .i64))) d.1.2.2.2.1)), (18, (.data (.int .i64) d.1.2.2.2.2.1)), (19, (.data (.int .i64) d.1.2.2.2.2.2.1))] []))) N d.1.1
def F29_4 : SForm := ⟨[(19, (.val (.int .i64))), (1, (.val (.int .i64))), (17, (.val (.sl false (.sl false (.int .i64))))), (18, (.val (.int .i64)))], []⟩
def G29_4 (N : Nat) : (R : Type) → F29_4.den → (AExit → St → Option R) → Option R := fun R d k => iter (fun kb => f29_L4 N d.1.2.1 d.1.2.2.1 d.1.2.2.2.1 kb
    (fun y0 => k .ret (St.of [(4, (.data .bool y0))] []))
    (fun _ => k (.exit 0) (St.of [] []))) N d.1.1
def lp29 (N : Nat) : Nat → Option LoopFn := fun r => cond (Nat.beq r 9) (some fun R sl os k => F29_9.take sl os fun d => G29_9 N R d k) (cond (Nat.beq r 4) (some fun R sl os k => F29_4.take sl os fun d => G29_4 N R d k) (none))
def x29 (N : Nat) : Ctx := { fuel := N, tt := getL ttL, mt := getL mtL, ntmps := 41, env := fun f => (getL [] f).getD [], cut := getL [(4, ⟨[19, 1, 17, 18], []⟩), (9, ⟨[29, 27, 1, 17, 18, 19, 28], []⟩)], exits := fun r => getL ((getL [(4, [(0, ⟨[], []⟩)]), (9, [(2, ⟨[1, 17, 18, 19], []⟩)])] r).getD []), res := ⟨[4], []⟩, own := fun _ => none, lp := lp29 N, eqs := fun T => memN T eqL }
noncomputable def b29 : Code := ((Go.Proofs.Try.f29).body).getD .skip
theorem s29_9 (N : Nat) {R : Type} (k : AExit → St → Option R) (t27 : List Int) (t1_1 : Int) (t17_1 : List (List Int)) (t18_1 : Int) (t19_1 : Int) (t28 : Int) (kb : List (Nat × AVal) → List Obj → Option R) (x : Int) : codeK (x29 N) (loopAt 9 (loopsOf b29)) (St.of [(29, (.data (.int .i64) x)), (27, (.data (.sl false (.int .i64)) t27)), (1, (.data (.int .i64) t1_1)), (17, (.data (.sl false (.sl false (.int .i64))) t17_1)), (18, (.data (.int .i64) t18_1)), (19, (.data (.int .i64) t19_1)), (28, (.data (.int .i64) t28))] []) (kLoop (x29 N) 9 ⟨[29, 27, 1, 17, 18, 19, 28], []⟩ kb k) = f29_L9 N t27 t1_1 t17_1 t18_1 t19_1 t28 (fun y => kb [(29, (.data (.int .i64) y)), (27, (.data (.sl false (.int .i64)) t27)), (1, (.data (.int .i64) t1_1)), (17, (.data (.sl false (.sl false (.int .i64))) t17_1)), (18, (.data (.int .i64) t18_1)), (19, (.data (.int .i64) t19_1)), (28, (.data (.int .i64) t28))] [])
    (fun y0 => k .ret (St.of [(4, (.data .bool y0))] []))
    (fun _ => k (.exit 2) (St.of [(1, (.data (.int .i64) t1_1)), (17, (.data (.sl false (.sl false (.int .i64))) t17_1)), (18, (.data (.int .i64) t18_1)), (19, (.data (.int .i64) t19_1))] [])) x := by kernel_rfl
theorem l29_9 (N : Nat) : LoopOK (x29 N) (loopAt 9 (loopsOf b29)) :=
  loop_mk (G29_9 N) (by kernel_rfl) (by kernel_rfl) (by kernel_rfl) fun R k d =>
    loop_eq (st := fun (x : Int) => ([(29, (.data (.int .i64) x)), (27, (.data (.sl false (.int .i64)) d.1.2.1)), (1, (.data (.int .i64) d.1.2.2.1)), (17, (.data (.sl false (.sl false (.int .i64))) d.1.2.2.2.1)), (18, (.data (.int .i64) d.1.2.2.2.2.1)), (19, (.data (.int .i64) d.1.2.2.2.2.2.1)), (28, (.data (.int .i64) d.1.2.2.2.2.2.2.1))], [])) (s29_9 N k d.1.2.1 d.1.2.2.1 d.1.2.2.2.1 d.1.2.2.2.2.1 d.1.2.2.2.2.2.1 d.1.2.2.2.2.2.2.1) N d.1.1
theorem s29_4 (N : Nat) {R : Type} (k : AExit → St → Option R) (t1 : Int) (t17 : List (List Int)) (t18 : Int) (kb : List (Nat × AVal) → List Obj → Option R) (x : Int) : codeK (x29 N) (loopAt 4 (loopsOf b29)) (St.of [(19, (.data (.int .i64) x)), (1, (.data (.int .i64) t1)), (17, (.data (.sl false (.sl false (.int .i64))) t17)), (18, (.data (.int .i64) t18))] []) (kLoop (x29 N) 4 ⟨[19, 1, 17, 18], []⟩ kb k) = f29_L4 N t1 t17 t18 (fun y => kb [(19, (.data (.int .i64) y)), (1, (.data (.int .i64) t1)), (17, (.data (.sl false (.sl false (.int .i64))) t17)), (18, (.data (.int .i64) t18))] [])
    (fun y0 => k .ret (St.of [(4, (.data .bool y0))] []))
    (fun _ => k (.exit 0) (St.of [] [])) x := by kernel_rfl
theorem l29_4 (N : Nat) : LoopOK (x29 N) (loopAt 4 (loopsOf b29)) :=
  loop_mk (G29_4 N) (by kernel_rfl) (by kernel_rfl) (by kernel_rfl) fun R k d =>
    loop_eq (st := fun (x : Int) => ([(19, (.data (.int .i64) x)), (1, (.data (.int .i64) d.1.2.1)), (17, (.data (.sl false (.sl false (.int .i64))) d.1.2.2.1)), (18, (.data (.int .i64) d.1.2.2.2.1))], [])) (s29_4 N k d.1.2.1 d.1.2.2.1 d.1.2.2.2.1) N d.1.1
theorem e29 (N : Nat) (a0 : List (List Int)) (a1 : Int) : bodyK (x29 N) [.bool] [.tmp 4] b29 (entry (.pr (.val (.sl false (.sl false (.int .i64)))) (.pr (.val (.int .i64)) .un)) (a0, (a1, ()))) = f29 N a0 a1 := by kernel_rfl
theorem k29 (N : Nat) : CalleeOK Go.Proofs.Try.prog 29 (c29 N) :=
  fn_ok (fn := Go.Proofs.Try.f29) (body := b29) (c := x29 N) Go.Proofs.Try.func29 (by kernel_rfl) (by kernel_rfl) ⟨ttL_ok, mtL_ok, eqL_ok, env_nil⟩ mixed (by kernel_rfl) (Nat.le_of_ble_eq_true (by kernel_rfl)) (by kernel_rfl) (by decide)
    (loops_ok (by kernel_rfl : loopsOf b29 = [loopAt 4 (loopsOf b29), loopAt 9 (loopsOf b29)]) (.cons (l29_4 N) (.cons (l29_9 N) .nil))) fun d => e29 N d.1 d.2.1
/-! ### 30: keyhole/keyholelaw42.Worth -/
def f30_L11 {R : Type} (N : Nat) (t9 : List Int) (t6_2 : Int) (t25 : List Int) (t1_2 : List Int) (t19_1 : List (List Int)) (t0_2 : List (List Int)) (t5_2 : Int) (t20_1 : Int) (t21_1 : Int) (t7_1 : Int) (t26 : Int) (kb : Int × Int → Option R) (kx4 : Int → Option R) : Int × Int → Option R :=
  fun (t27, t10) =>
    cond (decide (t27 < t26))
      ((idx t25 t27).bind fun x_1 =>
      cond (decide (x_1 = t6_2))
        ((idx t9 t27).bind fun x_2 =>
        kb ((wi64 (t27 + 1)), (wi64 (t10 + x_2))))
        (kb ((wi64 (t27 + 1)), t10)))
      (kx4 t10)
def f30_L7 {R : Type} (N : Nat) (t6_1 : Int) (t1_1 : List Int) (t19 : List (List Int)) (t0_1 : List (List Int)) (t5_1 : Int) (t20 : Int) (kb : Int × Int → Option R) (kx2 : Int → Option R) : Int × Int → Option R :=
  fun (t21, t7) =>
    cond (decide (t21 < t20))
      ((idx t19 t21).bind fun x =>
      iter (fun w => f30_L11 N x t6_1 t1_1 t1_1 t19 t0_1 t5_1 t20 t21 t7 (len t1_1) w
        (fun t10_1 =>
          kb ((wi64 (t21 + 1)), (maxI t7 t10_1)))) N (0, 0))
      (kx2 t7)
def f30_L3 {R : Type} (N : Nat) (t1 : List Int) (t0 : List (List Int)) (kb : Int × Int → Option R) (kx0 : Int → Option R) : Int × Int → Option R :=
  fun (t6, t5) =>
    (f26 N t1).bind fun r =>
    cond (decide (t6 < r))
      (iter (fun w => f30_L7 N t6 t1 t0 t0 t5 (len t0) w
        (fun t7_2 =>
          kb ((wi64 (t6 + 1)), (wi64 (t5 + t7_2))))) N (0, 0))
      (kx0 t5)
def f30 (N : Nat) (a0 : List (List Int)) (a1 : List Int) : Option (Int) :=
  iter (fun w => f30_L3 N a1 a0 w
    (fun t5_3 =>
      some t5_3)) N (0, 0)
def c30 (N : Nat) : Callee := .pure (.pr (.val (.sl false (.sl false (.int .i64)))) (.pr (.val (.sl false (.int .i64))) .un)) [(.int .i64)] fun d => f30 N d.1 d.2.1
def F30_11 : SForm := ⟨[(27, (.val (.int .i64))), (9, (.val (.sl false (.int .i64)))), (10, (.val (.int .i64))), (6, (.val (.int .i64))), (25, (.val (.sl false (.int .i64)))), (1, (.val (.sl false (.int .i64)))), (19, (.val (.sl false (.sl false (.int .i64))))), (0, (.val (.sl false (.sl false (.int .i64))))), (5, (.val (.int .i64))), (20, (.val (.int .i64))), (21, (.val (.int .i64))), (7, (.val (.int .i64))), (26, (.val (.int .i64)))], []⟩
def G30_11 (N : Nat) : (R : Type) → F30_11.den → (AExit → St → Option R) → Option R := fun R d k => iter (fun kb => f30_L11 N d.1.2.1 d.1.2.2.2.1 d.1.2.2.2.2.1 d.1.2.2.2.2.2.1 d.1.2.2.2.2.2.2.1 d.1.2.2.2.2.2.2.2.1 d.1.2.2.2.2.2.2.2.2.1 d.1.2.2.2.2.2.2.2.2.2.1 d.1.2.2.2.2.2.2.2.2.2.2.1 d.1.2.2.2.2.2.2.2.2.2.2.2.1 d.1.2.2.2.2.2.2.2.2.2.2.2.2.1 kb
    (fun y7 => k (.exit 4) (St.of [(6, (.data (.int .i64) d.1.2.2.2.1)), (1, (.data (.sl false (.int .i64)) d.1.2.2.2.2.2.1)), (19, (.data (.sl false (.sl false (.int .i64))) d.1.2.2.2.2.2.2.1)), (0, (.data (.sl false (.sl false (.int .i64))) d.1.2.2.2.2.2.2.2.1)), (5, (.data (.int .i64) d.1.2.2.2.2.2.2.2.2.1)), (20, (.data (.int .i64) d.1.2.2.2.2.2.2.2.2.2.1)), (21, (.data (.int .i64) d.1.2.2.2.2.2.2.2.2.2.2.1)), (10, (.data (.int .i64) y7)), (7, (.data (.int .i64) d.1.2.2.2.2.2.2.2.2.2.2.2.1))] []))) N (d.1.1, d.1.2.2.1)
def F30_7 : SForm := ⟨[(6, (.val (.int .i64))), (21, (.val (.int .i64))), (7, (.val (.int .i64))), (1, (.val (.sl false (.int .i64)))), (19, (.val (.sl false (.sl false (.int .i64))))), (0, (.val (.sl false (.sl false (.int .i64))))), (5, (.val (.int .i64))), (20, (.val (.int .i64)))], []⟩
def G30_7 (N : Nat) : (R : Type) → F30_7.den → (AExit → St → Option R) → Option R := fun R d k => iter (fun kb => f30_L7 N d.1.1 d.1.2.2.2.1 d.1.2.2.2.2.1 d.1.2.2.2.2.2.1 d.1.2.2.2.2.2.2.1 d.1.2.2.2.2.2.2.2.1 kb
    (fun y3 => k (.exit 2) (St.of [(1, (.data (.sl false (.int .i64)) d.1.2.2.2.1)), (0, (.data (.sl false (.sl false (.int .i64))) d.1.2.2.2.2.2.1)), (6, (.data (.int .i64) d.1.1)), (7, (.data (.int .i64) y3)), (5, (.data (.int .i64) d.1.2.2.2.2.2.2.1))] []))) N (d.1.2.1, d.1.2.2.1)
def F30_3 : SForm := ⟨[(6, (.val (.int .i64))), (1, (.val (.sl false (.int .i64)))), (5, (.val (.int .i64))), (0, (.val (.sl false (.sl false (.int .i64)))))], []⟩
def G30_3 (N : Nat) : (R : Type) → F30_3.den → (AExit → St → Option R) → Option R := fun R d k => iter (fun kb => f30_L3 N d.1.2.1 d.1.2.2.2.1 kb
    (fun y0 => k (.exit 0) (St.of [(5, (.data (.int .i64) y0))] []))) N (d.1.1, d.1.2.2.1)
def lp30 (N : Nat) : Nat → Option LoopFn := fun r => cond (Nat.beq r 11) (some fun R sl os k => F30_11.take sl os fun d => G30_11 N R d k) (cond (Nat.beq r 7) (some fun R sl os k => F30_7.take sl os fun d => G30_7 N R d k) (cond (Nat.beq r 3) (some fun R sl os k => F30_3.take sl os fun d => G30_3 N R d k) (none)))
def x30 (N : Nat) : Ctx := { fuel := N, tt := getL ttL, mt := getL mtL, ntmps := 50, env := fun f => (getL [(26, [c26 N])] f).getD [], cut := getL [(3, ⟨[6, 1, 5, 0], []⟩), (7, ⟨[6, 21, 7, 1, 19, 0, 5, 20], []⟩), (11, ⟨[27, 9, 10, 6, 25, 1, 19, 0, 5, 20, 21, 7, 26], []⟩)], exits := fun r => getL ((getL [(3, [(0, ⟨[5], []⟩)]), (7, [(2, ⟨[1, 0, 6, 7, 5], []⟩)]), (11, [(4, ⟨[6, 1, 19, 0, 5, 20, 21, 10, 7], []⟩)])] r).getD []), res := ⟨[4], []⟩, own := fun _ => none, lp := lp30 N, eqs := fun T => memN T eqL }
noncomputable def b30 : Code := ((Go.Proofs.Try.f30).body).getD .skip
theorem s30_11 (N : Nat) {R : Type} (k : AExit → St → Option R) (t9 : List Int) (t6_2 : Int) (t25 : List Int) (t1_2 : List Int) (t19_1 : List (List Int)) (t0_2 : List (List Int)) (t5_2 : Int) (t20_1 : Int) (t21_1 : Int) (t7_1 : Int) (t26 : Int) (kb : List (Nat × AVal) → List Obj → Option R) (x : Int × Int) : codeK (x30 N) (loopAt 11 (loopsOf b30)) (St.of [(27, (.data (.int .i64) x.1)), (9, (.data (.sl false (.int .i64)) t9)), (10, (.data (.int .i64) x.2)), (6, (.data (.int .i64) t6_2)), (25, (.data (.sl false (.int .i64)) t25)), (1, (.data (.sl false (.int .i64)) t1_2)), (19, (.data (.sl false (.sl false (.int .i64))) t19_1)), (0, (.data (.sl false (.sl false (.int .i64))) t0_2)), (5, (.data (.int .i64) t5_2)), (20, (.data (.int .i64) t20_1)), (21, (.data (.int .i64) t21_1)), (7, (.data (.int .i64) t7_1)), (26, (.data (.int .i64) t26))] []) (kLoop (x30 N) 11 ⟨[27, 9, 10, 6, 25, 1, 19, 0, 5, 20, 21, 7, 26], []⟩ kb k) = f30_L11 N t9 t6_2 t25 t1_2 t19_1 t0_2 t5_2 t20_1 t21_1 t7_1 t26 (fun y => kb [(27, (.data (.int .i64) y.1)), (9, (.data (.sl false (.int .i64)) t9)), (10, (.data (.int .i64) y.2)), (6, (.data (.int .i64) t6_2)), (25, (.data (.sl false (.int .i64)) t25)), (1, (.data (.sl false (.int .i64)) t1_2)), (19, (.data (.sl false (.sl false (.int .i64))) t19_1)), (0, (.data (.sl false (.sl false (.int .i64))) t0_2)), (5, (.data (.int .i64) t5_2)), (20, (.data (.int .i64) t20_1)), (21, (.data (.int .i64) t21_1)), (7, (.data (.int .i64) t7_1)), (26, (.data (.int .i64) t26))] [])
    (fun y7 => k (.exit 4) (St.of [(6, (.data (.int .i64) t6_2)), (1, (.data (.sl false (.int .i64)) t1_2)), (19, (.data (.sl false (.sl false (.int .i64))) t19_1)), (0, (.data (.sl false (.sl false (.int .i64))) t0_2)), (5, (.data (.int .i64) t5_2)), (20, (.data (.int .i64) t20_1)), (21, (.data (.int .i64) t21_1)), (10, (.data (.int .i64) y7)), (7, (.data (.int .i64) t7_1))] [])) x := by kernel_rfl
theorem l30_11 (N : Nat) : LoopOK (x30 N) (loopAt 11 (loopsOf b30)) :=
  loop_mk (G30_11 N) (by kernel_rfl) (by kernel_rfl) (by kernel_rfl) fun R k d =>
    loop_eq (st := fun (x : Int × Int) => ([(27, (.data (.int .i64) x.1)), (9, (.data (.sl false (.int .i64)) d.1.2.1)), (10, (.data (.int .i64) x.2)), (6, (.data (.int .i64) d.1.2.2.2.1)), (25, (.data (.sl false (.int .i64)) d.1.2.2.2.2.1)), (1, (.data (.sl false (.int .i64)) d.1.2.2.2.2.2.1)), (19, (.data (.sl false (.sl false (.int .i64))) d.1.2.2.2.2.2.2.1)), (0, (.data (.sl false (.sl false (.int .i64))) d.1.2.2.2.2.2.2.2.1)), (5, (.data (.int .i64) d.1.2.2.2.2.2.2.2.2.1)), (20, (.data (.int .i64) d.1.2.2.2.2.2.2.2.2.2.1)), (21, (.data (.int .i64) d.1.2.2.2.2.2.2.2.2.2.2.1)), (7, (.data (.int .i64) d.1.2.2.2.2.2.2.2.2.2.2.2.1)), (26, (.data (.int .i64) d.1.2.2.2.2.2.2.2.2.2.2.2.2.1))], [])) (s30_11 N k d.1.2.1 d.1.2.2.2.1 d.1.2.2.2.2.1 d.1.2.2.2.2.2.1 d.1.2.2.2.2.2.2.1 d.1.2.2.2.2.2.2.2.1 d.1.2.2.2.2.2.2.2.2.1 d.1.2.2.2.2.2.2.2.2.2.1 d.1.2.2.2.2.2.2.2.2.2.2.1 d.1.2.2.2.2.2.2.2.2.2.2.2.1 d.1.2.2.2.2.2.2.2.2.2.2.2.2.1) N (d.1.1, d.1.2.2.1)
theorem s30_7 (N : Nat) {R : Type} (k : AExit → St → Option R) (t6_1 : Int) (t1_1 : List Int) (t19 : List (List Int)) (t0_1 : List (List Int)) (t5_1 : Int) (t20 : Int) (kb : List (Nat × AVal) → List Obj → Option R) (x : Int × Int) : codeK (x30 N) (loopAt 7 (loopsOf b30)) (St.of [(6, (.data (.int .i64) t6_1)), (21, (.data (.int .i64) x.1)), (7, (.data (.int .i64) x.2)), (1, (.data (.sl false (.int .i64)) t1_1)), (19, (.data (.sl false (.sl false (.int .i64))) t19)), (0, (.data (.sl false (.sl false (.int .i64))) t0_1)), (5, (.data (.int .i64) t5_1)), (20, (.data (.int .i64) t20))] []) (kLoop (x30 N) 7 ⟨[6, 21, 7, 1, 19, 0, 5, 20], []⟩ kb k) = f30_L7 N t6_1 t1_1 t19 t0_1 t5_1 t20 (fun y => kb [(6, (.data (.int .i64) t6_1)), (21, (.data (.int .i64) y.1)), (7, (.data (.int .i64) y.2)), (1, (.data (.sl false (.int .i64)) t1_1)), (19, (.data (.sl false (.sl false (.int .i64))) t19)), (0, (.data (.sl false (.sl false (.int .i64))) t0_1)), (5, (.data (.int .i64) t5_1)), (20, (.data (.int .i64) t20))] [])
    (fun y3 => k (.exit 2) (St.of [(1, (.data (.sl false (.int .i64)) t1_1)), (0, (.data (.sl false (.sl false (.int .i64))) t0_1)), (6, (.data (.int .i64) t6_1)), (7, (.data (.int .i64) y3)), (5, (.data (.int .i64) t5_1))] [])) x := by kernel_rfl
theorem l30_7 (N : Nat) : LoopOK (x30 N) (loopAt 7 (loopsOf b30)) :=
  loop_mk (G30_7 N) (by kernel_rfl) (by kernel_rfl) (by kernel_rfl) fun R k d =>
    loop_eq (st := fun (x : Int × Int) => ([(6, (.data (.int .i64) d.1.1)), (21, (.data (.int .i64) x.1)), (7, (.data (.int .i64) x.2)), (1, (.data (.sl false (.int .i64)) d.1.2.2.2.1)), (19, (.data (.sl false (.sl false (.int .i64))) d.1.2.2.2.2.1)), (0, (.data (.sl false (.sl false (.int .i64))) d.1.2.2.2.2.2.1)), (5, (.data (.int .i64) d.1.2.2.2.2.2.2.1)), (20, (.data (.int .i64) d.1.2.2.2.2.2.2.2.1))], [])) (s30_7 N k d.1.1 d.1.2.2.2.1 d.1.2.2.2.2.1 d.1.2.2.2.2.2.1 d.1.2.2.2.2.2.2.1 d.1.2.2.2.2.2.2.2.1) N (d.1.2.1, d.1.2.2.1)
theorem s30_3 (N : Nat) {R : Type} (k : AExit → St → Option R) (t1 : List Int) (t0 : List (List Int)) (kb : List (Nat × AVal) → List Obj → Option R) (x : Int × Int) : codeK (x30 N) (loopAt 3 (loopsOf b30)) (St.of [(6, (.data (.int .i64) x.1)), (1, (.data (.sl false (.int .i64)) t1)), (5, (.data (.int .i64) x.2)), (0, (.data (.sl false (.sl false (.int .i64))) t0))] []) (kLoop (x30 N) 3 ⟨[6, 1, 5, 0], []⟩ kb k) = f30_L3 N t1 t0 (fun y => kb [(6, (.data (.int .i64) y.1)), (1, (.data (.sl false (.int .i64)) t1)), (5, (.data (.int .i64) y.2)), (0, (.data (.sl false (.sl false (.int .i64))) t0))] [])
    (fun y0 => k (.exit 0) (St.of [(5, (.data (.int .i64) y0))] [])) x := by kernel_rfl
theorem l30_3 (N : Nat) : LoopOK (x30 N) (loopAt 3 (loopsOf b30)) :=
  loop_mk (G30_3 N) (by kernel_rfl) (by kernel_rfl) (by kernel_rfl) fun R k d =>
    loop_eq (st := fun (x : Int × Int) => ([(6, (.data (.int .i64) x.1)), (1, (.data (.sl false (.int .i64)) d.1.2.1)), (5, (.data (.int .i64) x.2)), (0, (.data (.sl false (.sl false (.int .i64))) d.1.2.2.2.1))], [])) (s30_3 N k d.1.2.1 d.1.2.2.2.1) N (d.1.1, d.1.2.2.1)
theorem e30 (N : Nat) (a0 : List (List Int)) (a1 : List Int) : bodyK (x30 N) [(.int .i64)] [.tmp 4] b30 (entry (.pr (.val (.sl false (.sl false (.int .i64)))) (.pr (.val (.sl false (.int .i64))) .un)) (a0, (a1, ()))) = f30 N a0 a1 := by kernel_rfl
theorem k30 (N : Nat) : CalleeOK Go.Proofs.Try.prog 30 (c30 N) :=
  fn_ok (fn := Go.Proofs.Try.f30) (body := b30) (c := x30 N) Go.Proofs.Try.func30 (by kernel_rfl) (by kernel_rfl) ⟨ttL_ok, mtL_ok, eqL_ok, env_cons (forall_mem1 (k26 N)) (env_nil)⟩ mixed (by kernel_rfl) (Nat.le_of_ble_eq_true (by kernel_rfl)) (by kernel_rfl) (by decide)
    (loops_ok (by kernel_rfl : loopsOf b30 = [loopAt 3 (loopsOf b30), loopAt 7 (loopsOf b30), loopAt 11 (loopsOf b30)]) (.cons (l30_3 N) (.cons (l30_7 N) (.cons (l30_11 N) .nil)))) fun d => e30 N d.1 d.2.1
/-! ### 32: keyhole/keyholelaw42.StrategyWorth$1 -/
def f32 (N : Nat) (a0 : Int) (a1 : Int) (a2 : List Int) (a3 : (Int × (List (List Int) × Unit))) (a4 : Int) : Option (Bool) :=
  (idx a2 a0).bind fun x =>
  (idx a2 a1).bind fun x_1 =>
  (cond (decide (x = x_1))
      ((idx a3.2.1 a4).bind fun x_2 =>
      (idx x_2 a0).bind fun x_3 =>
      (idx a3.2.1 a4).bind fun x_4 =>
      (idx x_4 a1).bind fun x_5 =>
      some (decide (x_3 = x_5)))
      (some false)).bind fun b =>
  some b
def c32 (N : Nat) : Callee := .pure (.pr (.val (.int .i64)) (.pr (.val (.int .i64)) (.pr (.val (.ptr (.sl false (.int .i64)))) (.pr (.val (.ptr (.pair (.int .i64) (.pair (.sl false (.sl false (.int .i64))) .unit)))) (.pr (.val (.ptr (.int .i64))) .un))))) [.bool] fun d => f32 N d.1 d.2.1 d.2.2.1 d.2.2.2.1 d.2.2.2.2.1
def lp32 (N : Nat) : Nat → Option LoopFn := fun r => none
def x32 (N : Nat) : Ctx := { fuel := N, tt := getL ttL, mt := getL mtL, ntmps := 36, env := fun f => (getL [] f).getD [], cut := getL [], exits := fun r => getL ((getL [] r).getD []), res := ⟨[7], []⟩, own := fun _ => none, lp := lp32 N, eqs := fun T => memN T eqL }
noncomputable def b32 : Code := ((Go.Proofs.Try.f32).body).getD .skip
theorem e32 (N : Nat) (a0 : Int) (a1 : Int) (a2 : List Int) (a3 : (Int × (List (List Int) × Unit))) (a4 : Int) : bodyK (x32 N) [.bool] [.tmp 7] b32 (entry (.pr (.val (.int .i64)) (.pr (.val (.int .i64)) (.pr (.val (.ptr (.sl false (.int .i64)))) (.pr (.val (.ptr (.pair (.int .i64) (.pair (.sl false (.sl false (.int .i64))) .unit)))) (.pr (.val (.ptr (.int .i64))) .un))))) (a0, (a1, (a2, (a3, (a4, ())))))) = f32 N a0 a1 a2 a3 a4 := by kernel_rfl
theorem k32 (N : Nat) : CalleeOK Go.Proofs.Try.prog 32 (c32 N) :=
  fn_ok (fn := Go.Proofs.Try.f32) (body := b32) (c := x32 N) Go.Proofs.Try.func32 (by kernel_rfl) (by kernel_rfl) ⟨ttL_ok, mtL_ok, eqL_ok, env_nil⟩ mixed (by kernel_rfl) (Nat.le_of_ble_eq_true (by kernel_rfl)) (by kernel_rfl) (by decide)
    (loops_ok (by kernel_rfl : loopsOf b32 = []) .nil) fun d => e32 N d.1 d.2.1 d.2.2.1 d.2.2.2.1 d.2.2.2.2.1
/-! ### 31: keyhole/keyholelaw42.Label -/
def f31v1_L7 {R : Type} (N : Nat) (t7_1 : Int) (t1_1 : (List Int × ((Int × (List (List Int) × Unit)) × (Int × Unit)))) (t0_1 : Int) (t6_1 : Int) (o0_1 : List Int) (kb : Int × Int → Option R) (kx2 : Int → Option R) : Int × Int → Option R :=
  fun (t9, t8) =>
    (cond (decide (t9 < t7_1))
        (some (decide (t8 < 0)))
        (some false)).bind fun b =>
    cond b
      ((f32 N t7_1 t9 t1_1.1 t1_1.2.1 t1_1.2.2.1).bind fun r =>
      cond r
        (chk (inb o0_1 t9) <|
        (idx o0_1 t9).bind fun x =>
        kb ((wi64 (t9 + 1)), x))
        (kb ((wi64 (t9 + 1)), t8)))
      (kx2 t8)
def f31v1_L3 {R : Type} (N : Nat) (t1 : (List Int × ((Int × (List (List Int) × Unit)) × (Int × Unit)))) (t0 : Int) (kb : Int × Int × List Int → Option R) (kx0 : (List Int) → Option R) : Int × Int × List Int → Option R :=
  fun (t7, t6, o0) =>
    cond (decide (t7 < t0))
      (iter (fun w => f31v1_L7 N t7 t1 t0 t6 o0 w
        (fun t8_1 =>
          cond (decide (t8_1 < 0))
            (chk (decide ((o0.length.succ) ≤ room)) <|
            kb ((wi64 (t7 + 1)), (wi64 (t6 + 1)), (o0 ++ (t6 :: ([] : List Int)))))
            (chk (decide ((o0.length.succ) ≤ room)) <|
            kb ((wi64 (t7 + 1)), t6, (o0 ++ (t8_1 :: ([] : List Int))))))) N (0, (-1)))
      (kx0 o0)
def f31v1 (N : Nat) (a0 : Int) (a1 : (List Int × ((Int × (List (List Int) × Unit)) × (Int × Unit)))) : Option (List Int) :=
  iter (fun w => f31v1_L3 N a1 a0 w
    (fun o0_2 =>
      some o0_2)) N (0, 0, ([] : List Int))
def c31v1 (N : Nat) : Callee := .pure (.pr (.val (.int .i64)) (.pr (.val (.fn 32 (.pair (.ptr (.sl false (.int .i64))) (.pair (.ptr (.pair (.int .i64) (.pair (.sl false (.sl false (.int .i64))) .unit))) (.pair (.ptr (.int .i64)) .unit))))) .un)) [(.sl true (.int .i64))] fun d => f31v1 N d.1 d.2.1
def F31v1_7 : SForm := ⟨[(9, (.val (.int .i64))), (5, (.ref 0)), (7, (.val (.int .i64))), (1, (.val (.fn 32 (.pair (.ptr (.sl false (.int .i64))) (.pair (.ptr (.pair (.int .i64) (.pair (.sl false (.sl false (.int .i64))) .unit))) (.pair (.ptr (.int .i64)) .unit)))))), (0, (.val (.int .i64))), (6, (.val (.int .i64))), (8, (.val (.int .i64)))], [.row (.int .i64)]⟩
def G31v1_7 (N : Nat) : (R : Type) → F31v1_7.den → (AExit → St → Option R) → Option R := fun R d k => iter (fun kb => f31v1_L7 N d.1.2.2.1 d.1.2.2.2.1 d.1.2.2.2.2.1 d.1.2.2.2.2.2.1 d.2.1 kb
    (fun y4 => k (.exit 2) (St.of [(1, (.data (.fn 32 (.pair (.ptr (.sl false (.int .i64))) (.pair (.ptr (.pair (.int .i64) (.pair (.sl false (.sl false (.int .i64))) .unit))) (.pair (.ptr (.int .i64)) .unit)))) d.1.2.2.2.1)), (0, (.data (.int .i64) d.1.2.2.2.2.1)), (7, (.data (.int .i64) d.1.2.2.1)), (5, (.ref 0 [] 0)), (6, (.data (.int .i64) d.1.2.2.2.2.2.1)), (8, (.data (.int .i64) y4))] [.row (.int .i64) d.2.1 0]))) N (d.1.1, d.1.2.2.2.2.2.2.1)
def F31v1_3 : SForm := ⟨[(5, (.ref 0)), (7, (.val (.int .i64))), (1, (.val (.fn 32 (.pair (.ptr (.sl false (.int .i64))) (.pair (.ptr (.pair (.int .i64) (.pair (.sl false (.sl false (.int .i64))) .unit))) (.pair (.ptr (.int .i64)) .unit)))))), (6, (.val (.int .i64))), (0, (.val (.int .i64)))], [.row (.int .i64)]⟩
def G31v1_3 (N : Nat) : (R : Type) → F31v1_3.den → (AExit → St → Option R) → Option R := fun R d k => iter (fun kb => f31v1_L3 N d.1.2.2.1 d.1.2.2.2.2.1 kb
    (fun y0 => k (.exit 0) (St.of [(5, (.ref 0 [] 0))] [.row (.int .i64) y0 0]))) N (d.1.2.1, d.1.2.2.2.1, d.2.1)
def lp31v1 (N : Nat) : Nat → Option LoopFn := fun r => cond (Nat.beq r 7) (some fun R sl os k => F31v1_7.take sl os fun d => G31v1_7 N R d k) (cond (Nat.beq r 3) (some fun R sl os k => F31v1_3.take sl os fun d => G31v1_3 N R d k) (none))
def x31v1 (N : Nat) : Ctx := { fuel := N, tt := getL ttL, mt := getL mtL, ntmps := 43, env := fun f => (getL [(32, [c32 N])] f).getD [], cut := getL [(3, ⟨[5, 7, 1, 6, 0], []⟩), (7, ⟨[9, 5, 7, 1, 0, 6, 8], []⟩)], exits := fun r => getL ((getL [(3, [(0, ⟨[5], []⟩)]), (7, [(2, ⟨[1, 0, 7, 5, 6, 8], []⟩)])] r).getD []), res := ⟨[4], []⟩, own := fun _ => none, lp := lp31v1 N, eqs := fun T => memN T eqL }
noncomputable def b31v1 : Code := ((Go.Proofs.Try.f31).body).getD .skip
theorem s31v1_7 (N : Nat) {R : Type} (k : AExit → St → Option R) (t7_1 : Int) (t1_1 : (List Int × ((Int × (List (List Int) × Unit)) × (Int × Unit)))) (t0_1 : Int) (t6_1 : Int) (o0_1 : List Int) (kb : List (Nat × AVal) → List Obj → Option R) (x : Int × Int) : codeK (x31v1 N) (loopAt 7 (loopsOf b31v1)) (St.of [(9, (.data (.int .i64) x.1)), (5, (.ref 0 [] 0)), (7, (.data (.int .i64) t7_1)), (1, (.data (.fn 32 (.pair (.ptr (.sl false (.int .i64))) (.pair (.ptr (.pair (.int .i64) (.pair (.sl false (.sl false (.int .i64))) .unit))) (.pair (.ptr (.int .i64)) .unit)))) t1_1)), (0, (.data (.int .i64) t0_1)), (6, (.data (.int .i64) t6_1)), (8, (.data (.int .i64) x.2))] [.row (.int .i64) o0_1 0]) (kLoop (x31v1 N) 7 ⟨[9, 5, 7, 1, 0, 6, 8], []⟩ kb k) = f31v1_L7 N t7_1 t1_1 t0_1 t6_1 o0_1 (fun y => kb [(9, (.data (.int .i64) y.1)), (5, (.ref 0 [] 0)), (7, (.data (.int .i64) t7_1)), (1, (.data (.fn 32 (.pair (.ptr (.sl false (.int .i64))) (.pair (.ptr (.pair (.int .i64) (.pair (.sl false (.sl false (.int .i64))) .unit))) (.pair (.ptr (.int .i64)) .unit)))) t1_1)), (0, (.data (.int .i64) t0_1)), (6, (.data (.int .i64) t6_1)), (8, (.data (.int .i64) y.2))] [.row (.int .i64) o0_1 0])
    (fun y4 => k (.exit 2) (St.of [(1, (.data (.fn 32 (.pair (.ptr (.sl false (.int .i64))) (.pair (.ptr (.pair (.int .i64) (.pair (.sl false (.sl false (.int .i64))) .unit))) (.pair (.ptr (.int .i64)) .unit)))) t1_1)), (0, (.data (.int .i64) t0_1)), (7, (.data (.int .i64) t7_1)), (5, (.ref 0 [] 0)), (6, (.data (.int .i64) t6_1)), (8, (.data (.int .i64) y4))] [.row (.int .i64) o0_1 0])) x := by kernel_rfl
theorem l31v1_7 (N : Nat) : LoopOK (x31v1 N) (loopAt 7 (loopsOf b31v1)) :=
  loop_mk (G31v1_7 N) (by kernel_rfl) (by kernel_rfl) (by kernel_rfl) fun R k d =>
    loop_eq (st := fun (x : Int × Int) => ([(9, (.data (.int .i64) x.1)), (5, (.ref 0 [] 0)), (7, (.data (.int .i64) d.1.2.2.1)), (1, (.data (.fn 32 (.pair (.ptr (.sl false (.int .i64))) (.pair (.ptr (.pair (.int .i64) (.pair (.sl false (.sl false (.int .i64))) .unit))) (.pair (.ptr (.int .i64)) .unit)))) d.1.2.2.2.1)), (0, (.data (.int .i64) d.1.2.2.2.2.1)), (6, (.data (.int .i64) d.1.2.2.2.2.2.1)), (8, (.data (.int .i64) x.2))], [.row (.int .i64) d.2.1 0])) (s31v1_7 N k d.1.2.2.1 d.1.2.2.2.1 d.1.2.2.2.2.1 d.1.2.2.2.2.2.1 d.2.1) N (d.1.1, d.1.2.2.2.2.2.2.1)
theorem s31v1_3 (N : Nat) {R : Type} (k : AExit → St → Option R) (t1 : (List Int × ((Int × (List (List Int) × Unit)) × (Int × Unit)))) (t0 : Int) (kb : List (Nat × AVal) → List Obj → Option R) (x : Int × Int × List Int) : codeK (x31v1 N) (loopAt 3 (loopsOf b31v1)) (St.of [(5, (.ref 0 [] 0)), (7, (.data (.int .i64) x.1)), (1, (.data (.fn 32 (.pair (.ptr (.sl false (.int .i64))) (.pair (.ptr (.pair (.int .i64) (.pair (.sl false (.sl false (.int .i64))) .unit))) (.pair (.ptr (.int .i64)) .unit)))) t1)), (6, (.data (.int .i64) x.2.1)), (0, (.data (.int .i64) t0))] [.row (.int .i64) x.2.2 0]) (kLoop (x31v1 N) 3 ⟨[5, 7, 1, 6, 0], []⟩ kb k) = f31v1_L3 N t1 t0 (fun y => kb [(5, (.ref 0 [] 0)), (7, (.data (.int .i64) y.1)), (1, (.data (.fn 32 (.pair (.ptr (.sl false (.int .i64))) (.pair (.ptr (.pair (.int .i64) (.pair (.sl false (.sl false (.int .i64))) .unit))) (.pair (.ptr (.int .i64)) .unit)))) t1)), (6, (.data (.int .i64) y.2.1)), (0, (.data (.int .i64) t0))] [.row (.int .i64) y.2.2 0])
    (fun y0 => k (.exit 0) (St.of [(5, (.ref 0 [] 0))] [.row (.int .i64) y0 0])) x := by kernel_rfl
theorem l31v1_3 (N : Nat) : LoopOK (x31v1 N) (loopAt 3 (loopsOf b31v1)) :=
  loop_mk (G31v1_3 N) (by kernel_rfl) (by kernel_rfl) (by kernel_rfl) fun R k d =>
    loop_eq (st := fun (x : Int × Int × List Int) => ([(5, (.ref 0 [] 0)), (7, (.data (.int .i64) x.1)), (1, (.data (.fn 32 (.pair (.ptr (.sl false (.int .i64))) (.pair (.ptr (.pair (.int .i64) (.pair (.sl false (.sl false (.int .i64))) .unit))) (.pair (.ptr (.int .i64)) .unit)))) d.1.2.2.1)), (6, (.data (.int .i64) x.2.1)), (0, (.data (.int .i64) d.1.2.2.2.2.1))], [.row (.int .i64) x.2.2 0])) (s31v1_3 N k d.1.2.2.1 d.1.2.2.2.2.1) N (d.1.2.1, d.1.2.2.2.1, d.2.1)
theorem e31v1 (N : Nat) (a0 : Int) (a1 : (List Int × ((Int × (List (List Int) × Unit)) × (Int × Unit)))) : bodyK (x31v1 N) [(.sl true (.int .i64))] [.tmp 4] b31v1 (entry (.pr (.val (.int .i64)) (.pr (.val (.fn 32 (.pair (.ptr (.sl false (.int .i64))) (.pair (.ptr (.pair (.int .i64) (.pair (.sl false (.sl false (.int .i64))) .unit))) (.pair (.ptr (.int .i64)) .unit))))) .un)) (a0, (a1, ()))) = f31v1 N a0 a1 := by kernel_rfl
theorem k31v1 (N : Nat) : CalleeOK Go.Proofs.Try.prog 31 (c31v1 N) :=
  fn_ok (fn := Go.Proofs.Try.f31) (body := b31v1) (c := x31v1 N) Go.Proofs.Try.func31 (by kernel_rfl) (by kernel_rfl) ⟨ttL_ok, mtL_ok, eqL_ok, env_cons (forall_mem1 (k32 N)) (env_nil)⟩ mixed (by kernel_rfl) (Nat.le_of_ble_eq_true (by kernel_rfl)) (by kernel_rfl) (by decide)
    (loops_ok (by kernel_rfl : loopsOf b31v1 = [loopAt 3 (loopsOf b31v1), loopAt 7 (loopsOf b31v1)]) (.cons (l31v1_3 N) (.cons (l31v1_7 N) .nil))) fun d => e31v1 N d.1 d.2.1
/-! ### 7: keyhole/keyholelaw42.StrategyWorth -/
def f7_L6 {R : Type} (N : Nat) (t30 : List (List Int)) (t1 : List (List Int)) (t31 : Int) (o0 : (Int × (List (List Int) × Unit))) (o1 : List Int) (kb : Int → Option R) (kret : Bool → Option R) (kx0 : Unit → Option R) : Int → Option R :=
  fun t32 =>
    cond (decide (t32 < t31))
      ((idx t30 t32).bind fun x =>
      cond (decide (80 < (len x)))
        (kret true)
        (kb (wi64 (t32 + 1))))
      (kx0 ())
def f7_L17 {R : Type} (N : Nat) (t9 : Int) (t1_1 : List (List Int)) (t86 : Int) (o0_1 : (Int × (List (List Int) × Unit))) (o1_1 : List Int) (kb : Int → Option R) (kret : Bool → Option R) (kx2 : Unit → Option R) : Int → Option R :=
  fun t87 =>
    cond (decide (t87 < t86))
      ((f31v1 N o0_1.1 (o1_1, (o0_1, (t87, ())))).bind fun r_7 =>
      (f28 N o0_1 t1_1 r_7).bind fun r_8 =>
      (cond (!(decide (r_8.2 = 0)))
          (some true)
          (some (decide (r_8.1 < t9)))).bind fun b_7 =>
      cond b_7
        (kret false)
        (kb (wi64 (t87 + 1))))
      (kx2 ())
def f7 (N : Nat) (a0 : (Int × (List (List Int) × Unit))) (a1 : List (List Int)) (a2 : List Int) : Option (Bool) :=
  (f12 N).bind fun r =>
  cond (!r)
    (some false)
    ((f13 N a0 ([] : List (Int × (List Int × Unit))) 62 0).bind fun r_1 =>
    (cond (!r_1)
        (some true)
        (some (decide (70 < (len a1))))).bind fun b =>
    (cond b
        (some true)
        (some (decide (80 < (len a2))))).bind fun b_1 =>
    cond b_1
      (some true)
      (iter (fun w => f7_L6 N a1 a1 (len a1) a0 a2 w
        (fun t6 =>
          some t6)
        (fun (_ : Unit) =>
          (f28 N a0 a1 a2).bind fun r_2 =>
          (f18 N a0).bind fun r_3 =>
          (cond (!(decide (r_3 = 0)))
              (some true)
              ((f29 N a1 a0.1).bind fun r_4 =>
              some (!r_4))).bind fun b_2 =>
          (cond b_2
              (some true)
              (some (!(decide ((len a2) = a0.1))))).bind fun b_3 =>
          (cond b_3
              (some true)
              ((f25 N a2).bind fun r_5 =>
              some (!r_5))).bind fun b_4 =>
          cond b_4
            ((cond (decide (r_2.2 = 1))
                (some (decide (r_2.1 = 0)))
                (some false)).bind fun b_5 =>
            some b_5)
            ((cond (!(decide (r_2.2 = 0)))
                (some true)
                ((f30 N a1 a2).bind fun r_6 =>
                some (!(decide (r_2.1 = r_6))))).bind fun b_6 =>
            cond b_6
              (some false)
              (iter (fun w => f7_L17 N r_2.1 a1 (len a0.2.1) a0 a2 w
                (fun t6_1 =>
                  some t6_1)
                (fun (_ : Unit) =>
                  some true)) N 0)))) N 0))
def c7 (N : Nat) : Callee := .pure (.pr (.val (.pair (.int .i64) (.pair (.sl false (.sl false (.int .i64))) .unit))) (.pr (.val (.sl false (.sl false (.int .i64)))) (.pr (.val (.sl false (.int .i64))) .un))) [.bool] fun d => f7 N d.1 d.2.1 d.2.2.1
def F7_6 : SForm := ⟨[(32, (.val (.int .i64))), (30, (.val (.sl false (.sl false (.int .i64))))), (1, (.val (.sl false (.sl false (.int .i64))))), (3, (.bptr 0 [])), (5, (.bptr 1 [])), (31, (.val (.int .i64)))], [.cell (.val (.pair (.int .i64) (.pair (.sl false (.sl false (.int .i64))) .unit))), .cell (.val (.sl false (.int .i64)))]⟩
def G7_6 (N : Nat) : (R : Type) → F7_6.den → (AExit → St → Option R) → Option R := fun R d k => iter (fun kb => f7_L6 N d.1.2.1 d.1.2.2.1 d.1.2.2.2.2.2.1 d.2.1 d.2.2.1 kb
    (fun y0 => k .ret (St.of [(6, (.data .bool y0))] []))
    (fun _ => k (.exit 0) (St.of [(1, (.data (.sl false (.sl false (.int .i64))) d.1.2.2.1)), (3, (.bptr 0 [])), (5, (.bptr 1 []))] [.cell (.data (.pair (.int .i64) (.pair (.sl false (.sl false (.int .i64))) .unit)) d.2.1), .cell (.data (.sl false (.int .i64)) d.2.2.1)]))) N d.1.1
def F7_17 : SForm := ⟨[(87, (.val (.int .i64))), (9, (.val (.int .i64))), (1, (.val (.sl false (.sl false (.int .i64))))), (3, (.bptr 0 [])), (5, (.bptr 1 [])), (86, (.val (.int .i64)))], [.cell (.val (.pair (.int .i64) (.pair (.sl false (.sl false (.int .i64))) .unit))), .cell (.val (.sl false (.int .i64)))]⟩
def G7_17 (N : Nat) : (R : Type) → F7_17.den → (AExit → St → Option R) → Option R := fun R d k => iter (fun kb => f7_L17 N d.1.2.1 d.1.2.2.1 d.1.2.2.2.2.2.1 d.2.1 d.2.2.1 kb
    (fun y0 => k .ret (St.of [(6, (.data .bool y0))] []))
    (fun _ => k (.exit 2) (St.of [] []))) N d.1.1
def lp7 (N : Nat) : Nat → Option LoopFn := fun r => cond (Nat.beq r 6) (some fun R sl os k => F7_6.take sl os fun d => G7_6 N R d k) (cond (Nat.beq r 17) (some fun R sl os k => F7_17.take sl os fun d => G7_17 N R d k) (none))
def x7 (N : Nat) : Ctx := { fuel := N, tt := getL ttL, mt := getL mtL, ntmps := 109, env := fun f => (getL [(12, [c12 N]), (13, [c13 N]), (28, [c28 N]), (18, [c18 N]), (29, [c29 N]), (25, [c25 N]), (30, [c30 N]), (31, [c31v1 N])] f).getD [], cut := getL [(6, ⟨[32, 30, 1, 3, 5, 31], []⟩), (17, ⟨[87, 9, 1, 3, 5, 86], []⟩)], exits := fun r => getL ((getL [(6, [(0, ⟨[1, 3, 5], []⟩)]), (17, [(2, ⟨[], []⟩)])] r).getD []), res := ⟨[6], []⟩, own := fun _ => none, lp := lp7 N, eqs := fun T => memN T eqL }
noncomputable def b7 : Code := ((Go.Proofs.Try.f7).body).getD .skip
theorem s7_6 (N : Nat) {R : Type} (k : AExit → St → Option R) (t30 : List (List Int)) (t1 : List (List Int)) (t31 : Int) (o0 : (Int × (List (List Int) × Unit))) (o1 : List Int) (kb : List (Nat × AVal) → List Obj → Option R) (x : Int) : codeK (x7 N) (loopAt 6 (loopsOf b7)) (St.of [(32, (.data (.int .i64) x)), (30, (.data (.sl false (.sl false (.int .i64))) t30)), (1, (.data (.sl false (.sl false (.int .i64))) t1)), (3, (.bptr 0 [])), (5, (.bptr 1 [])), (31, (.data (.int .i64) t31))] [.cell (.data (.pair (.int .i64) (.pair (.sl false (.sl false (.int .i64))) .unit)) o0), .cell (.data (.sl false (.int .i64)) o1)]) (kLoop (x7 N) 6 ⟨[32, 30, 1, 3, 5, 31], []⟩ kb k) = f7_L6 N t30 t1 t31 o0 o1 (fun y => kb [(32, (.data (.int .i64) y)), (30, (.data (.sl false (.sl false (.int .i64))) t30)), (1, (.data (.sl false (.sl false (.int .i64))) t1)), (3, (.bptr 0 [])), (5, (.bptr 1 [])), (31, (.data (.int .i64) t31))] [.cell (.data (.pair (.int .i64) (.pair (.sl false (.sl false (.int .i64))) .unit)) o0), .cell (.data (.sl false (.int .i64)) o1)])
    (fun y0 => k .ret (St.of [(6, (.data .bool y0))] []))
    (fun _ => k (.exit 0) (St.of [(1, (.data (.sl false (.sl false (.int .i64))) t1)), (3, (.bptr 0 [])), (5, (.bptr 1 []))] [.cell (.data (.pair (.int .i64) (.pair (.sl false (.sl false (.int .i64))) .unit)) o0), .cell (.data (.sl false (.int .i64)) o1)])) x := by kernel_rfl
theorem l7_6 (N : Nat) : LoopOK (x7 N) (loopAt 6 (loopsOf b7)) :=
  loop_mk (G7_6 N) (by kernel_rfl) (by kernel_rfl) (by kernel_rfl) fun R k d =>
    loop_eq (st := fun (x : Int) => ([(32, (.data (.int .i64) x)), (30, (.data (.sl false (.sl false (.int .i64))) d.1.2.1)), (1, (.data (.sl false (.sl false (.int .i64))) d.1.2.2.1)), (3, (.bptr 0 [])), (5, (.bptr 1 [])), (31, (.data (.int .i64) d.1.2.2.2.2.2.1))], [.cell (.data (.pair (.int .i64) (.pair (.sl false (.sl false (.int .i64))) .unit)) d.2.1), .cell (.data (.sl false (.int .i64)) d.2.2.1)])) (s7_6 N k d.1.2.1 d.1.2.2.1 d.1.2.2.2.2.2.1 d.2.1 d.2.2.1) N d.1.1
theorem s7_17 (N : Nat) {R : Type} (k : AExit → St → Option R) (t9 : Int) (t1_1 : List (List Int)) (t86 : Int) (o0_1 : (Int × (List (List Int) × Unit))) (o1_1 : List Int) (kb : List (Nat × AVal) → List Obj → Option R) (x : Int) : codeK (x7 N) (loopAt 17 (loopsOf b7)) (St.of [(87, (.data (.int .i64) x)), (9, (.data (.int .i64) t9)), (1, (.data (.sl false (.sl false (.int .i64))) t1_1)), (3, (.bptr 0 [])), (5, (.bptr 1 [])), (86, (.data (.int .i64) t86))] [.cell (.data (.pair (.int .i64) (.pair (.sl false (.sl false (.int .i64))) .unit)) o0_1), .cell (.data (.sl false (.int .i64)) o1_1)]) (kLoop (x7 N) 17 ⟨[87, 9, 1, 3, 5, 86], []⟩ kb k) = f7_L17 N t9 t1_1 t86 o0_1 o1_1 (fun y => kb [(87, (.data (.int .i64) y)), (9, (.data (.int .i64) t9)), (1, (.data (.sl false (.sl false (.int .i64))) t1_1)), (3, (.bptr 0 [])), (5, (.bptr 1 [])), (86, (.data (.int .i64) t86))] [.cell (.data (.pair (.int .i64) (.pair (.sl false (.sl false (.int .i64))) .unit)) o0_1), .cell (.data (.sl false (.int .i64)) o1_1)])
    (fun y0 => k .ret (St.of [(6, (.data .bool y0))] []))
    (fun _ => k (.exit 2) (St.of [] [])) x := by kernel_rfl
theorem l7_17 (N : Nat) : LoopOK (x7 N) (loopAt 17 (loopsOf b7)) :=
  loop_mk (G7_17 N) (by kernel_rfl) (by kernel_rfl) (by kernel_rfl) fun R k d =>
    loop_eq (st := fun (x : Int) => ([(87, (.data (.int .i64) x)), (9, (.data (.int .i64) d.1.2.1)), (1, (.data (.sl false (.sl false (.int .i64))) d.1.2.2.1)), (3, (.bptr 0 [])), (5, (.bptr 1 [])), (86, (.data (.int .i64) d.1.2.2.2.2.2.1))], [.cell (.data (.pair (.int .i64) (.pair (.sl false (.sl false (.int .i64))) .unit)) d.2.1), .cell (.data (.sl false (.int .i64)) d.2.2.1)])) (s7_17 N k d.1.2.1 d.1.2.2.1 d.1.2.2.2.2.2.1 d.2.1 d.2.2.1) N d.1.1
theorem e7 (N : Nat) (a0 : (Int × (List (List Int) × Unit))) (a1 : List (List Int)) (a2 : List Int) : bodyK (x7 N) [.bool] [.tmp 6] b7 (entry (.pr (.val (.pair (.int .i64) (.pair (.sl false (.sl false (.int .i64))) .unit))) (.pr (.val (.sl false (.sl false (.int .i64)))) (.pr (.val (.sl false (.int .i64))) .un))) (a0, (a1, (a2, ())))) = f7 N a0 a1 a2 := by kernel_rfl
theorem k7 (N : Nat) : CalleeOK Go.Proofs.Try.prog 7 (c7 N) :=
  fn_ok (fn := Go.Proofs.Try.f7) (body := b7) (c := x7 N) Go.Proofs.Try.func7 (by kernel_rfl) (by kernel_rfl) ⟨ttL_ok, mtL_ok, eqL_ok, env_cons (forall_mem1 (k12 N)) (env_cons (forall_mem1 (k13 N)) (env_cons (forall_mem1 (k28 N)) (env_cons (forall_mem1 (k18 N)) (env_cons (forall_mem1 (k29 N)) (env_cons (forall_mem1 (k25 N)) (env_cons (forall_mem1 (k30 N)) (env_cons (forall_mem1 (k31v1 N)) (env_nil))))))))⟩ mixed (by kernel_rfl) (Nat.le_of_ble_eq_true (by kernel_rfl)) (by kernel_rfl) (by decide)
    (loops_ok (by kernel_rfl : loopsOf b7 = [loopAt 6 (loopsOf b7), loopAt 17 (loopsOf b7)]) (.cons (l7_6 N) (.cons (l7_17 N) .nil))) fun d => e7 N d.1 d.2.1 d.2.2.1

end Go.Kz
