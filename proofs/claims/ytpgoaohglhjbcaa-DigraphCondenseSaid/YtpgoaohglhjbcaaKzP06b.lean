/-
  The functions of the program as plain functions on lists and numbers, and the proofs that the program computes them. Printed by a program.
-/
import Derived.Test.YtpgoaohglhjbcaaKzP06
set_option linter.unusedSimpArgs false
set_option maxRecDepth 100000
set_option linter.unusedVariables false
namespace Go.Kz
open Go.Proofs
noncomputable section

def f16_L15 {R : Type} (N : Nat) (t14_1 : Int) (t2_1 : Int) (o0_1 : List Int) (o1_1 : (Int × (List (List Int) × Unit))) (o2_1 : List Int) (kb : Int × Int → Option R) (kx2 : Int → Option R) : Int × Int → Option R :=
  fun (t16, t15) =>
    cond (decide (t16 < o1_1.1))
      ((cond (decide (t15 < 0))
          ((f45 N o1_1 t14_1 t16).bind fun r_5 =>
          some r_5)
          (some false)).bind fun b_1 =>
      (cond b_1
          (chk (inb o0_1 t16) <|
          (idx o0_1 t16).bind fun x_1 =>
          chk (inb o0_1 t14_1) <|
          (idx o0_1 t14_1).bind fun x_2 =>
          some (decide (x_1 = (wi64 (x_2 - 1)))))
          (some false)).bind fun b_2 =>
      cond b_2
        (kb ((wi64 (t16 + 1)), t16))
        (kb ((wi64 (t16 + 1)), t15)))
      (kx2 t15)
def f16_L12 {R : Type} (N : Nat) (t2 : Int) (o0 : List Int) (o1 : (Int × (List (List Int) × Unit))) (kb : Int × List Int → Option R) (kx0 : (List Int) → Option R) : Int × List Int → Option R :=
  fun (t14, o2) =>
    cond (!(decide (t14 = t2)))
      (iter (fun w => f16_L15 N t14 t2 o0 o1 o2 w
        (fun t15_1 =>
          chk (decide ((Nat.succ (List.length o2)) ≤ room)) <|
          kb (t15_1, (o2 ++ (t15_1 :: ([] : List Int)))))) N (0, (-1)))
      (kx0 o2)
def f16 (N : Nat) (a0 : (Int × (List (List Int) × Unit))) (a1 : Int) (a2 : Int) : Option (List Int × Int) :=
  (f22 N a0).bind fun r =>
  cond (!(decide (r = 0)))
    (some (([] : List Int), r))
    ((f43 N a0 a1).bind fun r_1 =>
    (cond (!r_1)
        (some true)
        ((f43 N a0 a2).bind fun r_2 =>
        some (!r_2))).bind fun b =>
    cond b
      (some (([] : List Int), 3))
      ((f27 N a0).bind fun r_3 =>
      (f44 N (r_3.1.1, r_3.1.2) (a2 :: ([] : List Int))).bind fun r_4 =>
      chk (inb r_4.1 a1) <|
      (idx r_4.1 a1).bind fun x =>
      cond (decide (x < 0))
        (some (([] : List Int), 11))
        (iter (fun w => f16_L12 N a2 r_4.1 a0 w
          (fun o0_2 =>
            some (o0_2, 0))) N (a1, (a1 :: ([] : List Int))))))
def c16 (N : Nat) : Callee := .pure (.pr (.val (.pair (.int .i64) (.pair (.sl false (.arr 2 (.int .i64))) .unit))) (.pr (.val (.int .i64)) (.pr (.val (.int .i64)) .un))) [(.sl true (.int .i64)), (.int .i64)] fun d => f16 N d.1 d.2.1 d.2.2.1
def f3 (N : Nat) (a0 : (Int × (List (List Int) × Unit))) (a1 : Int) (a2 : Int) : Option (Bool) :=
  (f13 N).bind fun r =>
  cond (!r)
    (some false)
    ((f14 N a0).bind fun r_1 =>
    cond (!r_1)
      (some true)
      ((f15 N a0 a1 a2).bind fun r_2 =>
      (f16 N a0 a1 a2).bind fun r_3 =>
      (cond (decide (r_2.2 = r_3.2))
          ((f17 N r_2.1 r_3.1).bind fun r_4 =>
          some r_4)
          (some false)).bind fun b =>
      some b))
def lp3 (N : Nat) : Nat → Option LoopFn := fun r => none
def x3 (N : Nat) : Ctx := { fuel := N, tt := getL ttL, mt := getL mtL, ntmps := 38, env := fun f => (getL [(13, [c13 N]), (14, [c14 N]), (15, [c15 N]), (16, [c16 N]), (17, [c17 N])] f).getD [], cut := getL [], exits := fun r => getL ((getL [] r).getD []), res := ⟨[6], []⟩, own := fun _ => none, lp := lp3 N, eqs := fun T => memN T eqL, ct := fun T => memN T ctL, ms := getMs msL }
noncomputable def b3 : Code := ((Go.Proofs.Try.f3).body).getD .skip
theorem e3 (N : Nat) (a0 : (Int × (List (List Int) × Unit))) (a1 : Int) (a2 : Int) : bodyK (x3 N) [.bool] [.tmp 6] b3 (entry (.pr (.val (.pair (.int .i64) (.pair (.sl false (.arr 2 (.int .i64))) .unit))) (.pr (.val (.int .i64)) (.pr (.val (.int .i64)) .un))) (a0, (a1, (a2, ())))) = f3 N a0 a1 a2 := by kernel_rfl
def f36_L6 {R : Type} (N : Nat) (o0 : List Int) (kb : Int × List Bool → Option R) (kx0 : (List Bool) → Option R) : Int × List Bool → Option R :=
  fun (t9, o1) =>
    cond (decide (t9 < (len o0)))
      (chk (inb o0 t9) <|
      (idx o0 t9).bind fun x =>
      chk (decide ((Nat.succ (List.length o1)) ≤ room)) <|
      kb ((wi64 (t9 + 1)), (o1 ++ ((decide (0 ≤ x)) :: ([] : List Bool)))))
      (kx0 o1)
def f36 (N : Nat) (a0 : (Int × (List (List Int) × Unit))) (a1 : List Int) : Option (List Bool × Int) :=
  (f44 N a0 a1).bind fun r =>
  cond (!(decide (r.2 = 0)))
    (some (([] : List Bool), r.2))
    (iter (fun w => f36_L6 N r.1 w
      (fun o0_1 =>
        some (o0_1, 0))) N (0, ([] : List Bool)))
def c36 (N : Nat) : Callee := .pure (.pr (.val (.pair (.int .i64) (.pair (.sl false (.arr 2 (.int .i64))) .unit))) (.pr (.val (.sl false (.int .i64))) .un)) [(.sl true .bool), (.int .i64)] fun d => f36 N d.1 d.2.1
def F36_6 : SForm := ⟨[(9, (.val (.int .i64))), (6, (.ref 0)), (8, (.ref 1))], [.row (.int .i64), .row .bool]⟩
def G36_6 (N : Nat) : (R : Type) → F36_6.den → (AExit → St → Option R) → Option R := fun R d k => iter (fun kb => f36_L6 N d.2.1 kb
    (fun y0 => k (.exit 0) (St.of [(8, (.ref 0 [] 0))] [.row .bool y0 0]))) N (d.1.1, d.2.2.1)
def lp36 (N : Nat) : Nat → Option LoopFn := fun r => cond (Nat.beq r 6) (some fun R sl os k => F36_6.take sl os fun d => G36_6 N R d k) (none)
def x36 (N : Nat) : Ctx := { fuel := N, tt := getL ttL, mt := getL mtL, ntmps := 35, env := fun f => (getL [(44, [c44 N])] f).getD [], cut := getL [(6, ⟨[9, 6, 8], []⟩)], exits := fun r => getL ((getL [(6, [(0, ⟨[8], []⟩)])] r).getD []), res := ⟨[4, 5], []⟩, own := fun _ => none, lp := lp36 N, eqs := fun T => memN T eqL, ct := fun T => memN T ctL, ms := getMs msL }
noncomputable def b36 : Code := ((Go.Proofs.Try.f36).body).getD .skip
theorem s36_6 (N : Nat) {R : Type} (k : AExit → St → Option R) (o0 : List Int) (kb : List (Nat × AVal) → List Obj → Option R) (x : Int × List Bool) : codeK (x36 N) (loopAt 6 (loopsOf b36)) (St.of [(9, (.data (.int .i64) x.1)), (6, (.ref 0 [] 0)), (8, (.ref 1 [] 0))] [.row (.int .i64) o0 0, .row .bool x.2 0]) (kLoop (x36 N) 6 ⟨[9, 6, 8], []⟩ kb k) = f36_L6 N o0 (fun y => kb [(9, (.data (.int .i64) y.1)), (6, (.ref 0 [] 0)), (8, (.ref 1 [] 0))] [.row (.int .i64) o0 0, .row .bool y.2 0])
    (fun y0 => k (.exit 0) (St.of [(8, (.ref 0 [] 0))] [.row .bool y0 0])) x := by kernel_rfl
theorem l36_6 (N : Nat) : LoopOK (x36 N) (loopAt 6 (loopsOf b36)) :=
  loop_mk (G36_6 N) (by kernel_rfl) (by kernel_rfl) (by kernel_rfl) fun R k d =>
    loop_eq (st := fun (x : Int × List Bool) => ([(9, (.data (.int .i64) x.1)), (6, (.ref 0 [] 0)), (8, (.ref 1 [] 0))], [.row (.int .i64) d.2.1 0, .row .bool x.2 0])) (s36_6 N k d.2.1) N (d.1.1, d.2.2.1)
theorem e36 (N : Nat) (a0 : (Int × (List (List Int) × Unit))) (a1 : List Int) : bodyK (x36 N) [(.sl true .bool), (.int .i64)] [.tmp 4, .tmp 5] b36 (entry (.pr (.val (.pair (.int .i64) (.pair (.sl false (.arr 2 (.int .i64))) .unit))) (.pr (.val (.sl false (.int .i64))) .un)) (a0, (a1, ()))) = f36 N a0 a1 := by kernel_rfl
theorem k36 (N : Nat) : CalleeOK Go.Proofs.Try.prog 36 (c36 N) :=
  fn_ok (fn := Go.Proofs.Try.f36) (body := b36) (c := x36 N) Go.Proofs.Try.func36 (by kernel_rfl) (by kernel_rfl) ⟨ttL_ok, mtL_ok, eqL_ok, ctL_ok, msL_ok, env_cons (forall_mem1 (k44 N)) (env_nil)⟩ mixed (by kernel_rfl) (Nat.le_of_ble_eq_true (by kernel_rfl)) (by kernel_rfl) (by decide)
    (loops_ok (by kernel_rfl : loopsOf b36 = [loopAt 6 (loopsOf b36)]) (.cons (l36_6 N) .nil)) fun d => e36 N d.1 d.2.1
def f32_L6 {R : Type} (N : Nat) (o1 : (Int × (List (List Int) × Unit))) (kb : Int × List (List Bool) → Option R) (kx0 : (List (List Bool)) → Option R) : Int × List (List Bool) → Option R :=
  fun (t6, o0) =>
    cond (decide (t6 < o1.1))
      ((f36 N o1 (t6 :: ([] : List Int))).bind fun r_1 =>
      chk (decide ((Nat.succ (List.length o0)) ≤ room)) <|
      kb ((wi64 (t6 + 1)), (o0 ++ (r_1.1 :: ([] : List (List Bool))))))
      (kx0 o0)
def f32 (N : Nat) (a0 : (Int × (List (List Int) × Unit))) : Option (List (List Bool) × Int) :=
  (f22 N a0).bind fun r =>
  cond (!(decide (r = 0)))
    (some (([] : List (List Bool)), r))
    (iter (fun w => f32_L6 N a0 w
      (fun o0_1 =>
        some (o0_1, 0))) N (0, ([] : List (List Bool))))
def c32 (N : Nat) : Callee := .pure (.pr (.val (.pair (.int .i64) (.pair (.sl false (.arr 2 (.int .i64))) .unit))) .un) [(.sl false (.sl false .bool)), (.int .i64)] fun d => f32 N d.1
def F32_6 : SForm := ⟨[(6, (.val (.int .i64))), (5, (.ref 0)), (1, (.bptr 1 []))], [.row (.sl false .bool), .cell (.val (.pair (.int .i64) (.pair (.sl false (.arr 2 (.int .i64))) .unit)))]⟩
def G32_6 (N : Nat) : (R : Type) → F32_6.den → (AExit → St → Option R) → Option R := fun R d k => iter (fun kb => f32_L6 N d.2.2.1 kb
    (fun y0 => k (.exit 0) (St.of [(5, (.ref 0 [] 0))] [.row (.sl false .bool) y0 0]))) N (d.1.1, d.2.1)
def lp32 (N : Nat) : Nat → Option LoopFn := fun r => cond (Nat.beq r 6) (some fun R sl os k => F32_6.take sl os fun d => G32_6 N R d k) (none)
def x32 (N : Nat) : Ctx := { fuel := N, tt := getL ttL, mt := getL mtL, ntmps := 33, env := fun f => (getL [(22, [c22 N]), (36, [c36 N])] f).getD [], cut := getL [(6, ⟨[6, 5, 1], []⟩)], exits := fun r => getL ((getL [(6, [(0, ⟨[5], []⟩)])] r).getD []), res := ⟨[2, 3], []⟩, own := fun _ => none, lp := lp32 N, eqs := fun T => memN T eqL, ct := fun T => memN T ctL, ms := getMs msL }
noncomputable def b32 : Code := ((Go.Proofs.Try.f32).body).getD .skip
theorem s32_6 (N : Nat) {R : Type} (k : AExit → St → Option R) (o1 : (Int × (List (List Int) × Unit))) (kb : List (Nat × AVal) → List Obj → Option R) (x : Int × List (List Bool)) : codeK (x32 N) (loopAt 6 (loopsOf b32)) (St.of [(6, (.data (.int .i64) x.1)), (5, (.ref 0 [] 0)), (1, (.bptr 1 []))] [.row (.sl false .bool) x.2 0, .cell (.data (.pair (.int .i64) (.pair (.sl false (.arr 2 (.int .i64))) .unit)) o1)]) (kLoop (x32 N) 6 ⟨[6, 5, 1], []⟩ kb k) = f32_L6 N o1 (fun y => kb [(6, (.data (.int .i64) y.1)), (5, (.ref 0 [] 0)), (1, (.bptr 1 []))] [.row (.sl false .bool) y.2 0, .cell (.data (.pair (.int .i64) (.pair (.sl false (.arr 2 (.int .i64))) .unit)) o1)])
    (fun y0 => k (.exit 0) (St.of [(5, (.ref 0 [] 0))] [.row (.sl false .bool) y0 0])) x := by kernel_rfl
theorem l32_6 (N : Nat) : LoopOK (x32 N) (loopAt 6 (loopsOf b32)) :=
  loop_mk (G32_6 N) (by kernel_rfl) (by kernel_rfl) (by kernel_rfl) fun R k d =>
    loop_eq (st := fun (x : Int × List (List Bool)) => ([(6, (.data (.int .i64) x.1)), (5, (.ref 0 [] 0)), (1, (.bptr 1 []))], [.row (.sl false .bool) x.2 0, .cell (.data (.pair (.int .i64) (.pair (.sl false (.arr 2 (.int .i64))) .unit)) d.2.2.1)])) (s32_6 N k d.2.2.1) N (d.1.1, d.2.1)
theorem e32 (N : Nat) (a0 : (Int × (List (List Int) × Unit))) : bodyK (x32 N) [(.sl false (.sl false .bool)), (.int .i64)] [.tmp 2, .tmp 3] b32 (entry (.pr (.val (.pair (.int .i64) (.pair (.sl false (.arr 2 (.int .i64))) .unit))) .un) (a0, ())) = f32 N a0 := by kernel_rfl
theorem k32 (N : Nat) : CalleeOK Go.Proofs.Try.prog 32 (c32 N) :=
  fn_ok (fn := Go.Proofs.Try.f32) (body := b32) (c := x32 N) Go.Proofs.Try.func32 (by kernel_rfl) (by kernel_rfl) ⟨ttL_ok, mtL_ok, eqL_ok, ctL_ok, msL_ok, env_cons (forall_mem1 (k22 N)) (env_cons (forall_mem1 (k36 N)) (env_nil))⟩ mixed (by kernel_rfl) (Nat.le_of_ble_eq_true (by kernel_rfl)) (by kernel_rfl) (by decide)
    (loops_ok (by kernel_rfl : loopsOf b32 = [loopAt 6 (loopsOf b32)]) (.cons (l32_6 N) .nil)) fun d => e32 N d.1
def f21_L11 {R : Type} (N : Nat) (t8_1 : Int) (t4_1 : List (List Bool)) (t7_1 : Int) (o0_1 : List Int) (o1_1 : (Int × (List (List Int) × Unit))) (kb : Int × Int → Option R) (kx2 : Int → Option R) : Int × Int → Option R :=
  fun (t10, t9) =>
    cond (decide (t10 < t8_1))
      ((cond (decide (t9 < 0))
          ((idx t4_1 t8_1).bind fun x =>
          (idx x t10).bind fun x_1 =>
          some x_1)
          (some false)).bind fun b =>
      (cond b
          ((idx t4_1 t10).bind fun x_2 =>
          (idx x_2 t8_1).bind fun x_3 =>
          some x_3)
          (some false)).bind fun b_1 =>
      cond b_1
        (chk (inb o0_1 t10) <|
        (idx o0_1 t10).bind fun x_4 =>
        kb ((wi64 (t10 + 1)), x_4))
        (kb ((wi64 (t10 + 1)), t9)))
      (kx2 t9)
def f21_L7 {R : Type} (N : Nat) (t4 : List (List Bool)) (o1 : (Int × (List (List Int) × Unit))) (kb : Int × Int × List Int → Option R) (kx0 : (List Int) → Option R) : Int × Int × List Int → Option R :=
  fun (t8, t7, o0) =>
    cond (decide (t8 < o1.1))
      (iter (fun w => f21_L11 N t8 t4 t7 o0 o1 w
        (fun t9_1 =>
          cond (decide (t9_1 < 0))
            (chk (decide ((Nat.succ (List.length o0)) ≤ room)) <|
            kb ((wi64 (t8 + 1)), (wi64 (t7 + 1)), (o0 ++ (t7 :: ([] : List Int)))))
            (chk (decide ((Nat.succ (List.length o0)) ≤ room)) <|
            kb ((wi64 (t8 + 1)), t7, (o0 ++ (t9_1 :: ([] : List Int))))))) N (0, (-1)))
      (kx0 o0)
def f21 (N : Nat) (a0 : (Int × (List (List Int) × Unit))) : Option (List Int × Int) :=
  (f32 N a0).bind fun r =>
  cond (!(decide (r.2 = 0)))
    (some (([] : List Int), r.2))
    (iter (fun w => f21_L7 N r.1 a0 w
      (fun o0_2 =>
        some (o0_2, 0))) N (0, 0, ([] : List Int)))
def c21 (N : Nat) : Callee := .pure (.pr (.val (.pair (.int .i64) (.pair (.sl false (.arr 2 (.int .i64))) .unit))) .un) [(.sl true (.int .i64)), (.int .i64)] fun d => f21 N d.1
def F21_11 : SForm := ⟨[(10, (.val (.int .i64))), (6, (.ref 0)), (8, (.val (.int .i64))), (4, (.val (.sl false (.sl false .bool)))), (9, (.val (.int .i64))), (1, (.bptr 1 [])), (7, (.val (.int .i64)))], [.row (.int .i64), .cell (.val (.pair (.int .i64) (.pair (.sl false (.arr 2 (.int .i64))) .unit)))]⟩
def G21_11 (N : Nat) : (R : Type) → F21_11.den → (AExit → St → Option R) → Option R := fun R d k => iter (fun kb => f21_L11 N d.1.2.2.1 d.1.2.2.2.1 d.1.2.2.2.2.2.2.1 d.2.1 d.2.2.1 kb
    (fun y3 => k (.exit 2) (St.of [(4, (.data (.sl false (.sl false .bool)) d.1.2.2.2.1)), (1, (.bptr 0 [])), (8, (.data (.int .i64) d.1.2.2.1)), (6, (.ref 1 [] 0)), (7, (.data (.int .i64) d.1.2.2.2.2.2.2.1)), (9, (.data (.int .i64) y3))] [.cell (.data (.pair (.int .i64) (.pair (.sl false (.arr 2 (.int .i64))) .unit)) d.2.2.1), .row (.int .i64) d.2.1 0]))) N (d.1.1, d.1.2.2.2.2.1)
def F21_7 : SForm := ⟨[(6, (.ref 0)), (8, (.val (.int .i64))), (4, (.val (.sl false (.sl false .bool)))), (7, (.val (.int .i64))), (1, (.bptr 1 []))], [.row (.int .i64), .cell (.val (.pair (.int .i64) (.pair (.sl false (.arr 2 (.int .i64))) .unit)))]⟩
def G21_7 (N : Nat) : (R : Type) → F21_7.den → (AExit → St → Option R) → Option R := fun R d k => iter (fun kb => f21_L7 N d.1.2.2.1 d.2.2.1 kb
    (fun y0 => k (.exit 0) (St.of [(6, (.ref 0 [] 0))] [.row (.int .i64) y0 0]))) N (d.1.2.1, d.1.2.2.2.1, d.2.1)
def lp21 (N : Nat) : Nat → Option LoopFn := fun r => cond (Nat.beq r 11) (some fun R sl os k => F21_11.take sl os fun d => G21_11 N R d k) (cond (Nat.beq r 7) (some fun R sl os k => F21_7.take sl os fun d => G21_7 N R d k) (none))
def x21 (N : Nat) : Ctx := { fuel := N, tt := getL ttL, mt := getL mtL, ntmps := 65, env := fun f => (getL [(32, [c32 N])] f).getD [], cut := getL [(7, ⟨[6, 8, 4, 7, 1], []⟩), (11, ⟨[10, 6, 8, 4, 9, 1, 7], []⟩)], exits := fun r => getL ((getL [(7, [(0, ⟨[6], []⟩)]), (11, [(2, ⟨[4, 1, 8, 6, 7, 9], []⟩)])] r).getD []), res := ⟨[2, 3], []⟩, own := fun _ => none, lp := lp21 N, eqs := fun T => memN T eqL, ct := fun T => memN T ctL, ms := getMs msL }
noncomputable def b21 : Code := ((Go.Proofs.Try.f21).body).getD .skip
theorem s21_11 (N : Nat) {R : Type} (k : AExit → St → Option R) (t8_1 : Int) (t4_1 : List (List Bool)) (t7_1 : Int) (o0_1 : List Int) (o1_1 : (Int × (List (List Int) × Unit))) (kb : List (Nat × AVal) → List Obj → Option R) (x : Int × Int) : codeK (x21 N) (loopAt 11 (loopsOf b21)) (St.of [(10, (.data (.int .i64) x.1)), (6, (.ref 0 [] 0)), (8, (.data (.int .i64) t8_1)), (4, (.data (.sl false (.sl false .bool)) t4_1)), (9, (.data (.int .i64) x.2)), (1, (.bptr 1 [])), (7, (.data (.int .i64) t7_1))] [.row (.int .i64) o0_1 0, .cell (.data (.pair (.int .i64) (.pair (.sl false (.arr 2 (.int .i64))) .unit)) o1_1)]) (kLoop (x21 N) 11 ⟨[10, 6, 8, 4, 9, 1, 7], []⟩ kb k) = f21_L11 N t8_1 t4_1 t7_1 o0_1 o1_1 (fun y => kb [(10, (.data (.int .i64) y.1)), (6, (.ref 0 [] 0)), (8, (.data (.int .i64) t8_1)), (4, (.data (.sl false (.sl false .bool)) t4_1)), (9, (.data (.int .i64) y.2)), (1, (.bptr 1 [])), (7, (.data (.int .i64) t7_1))] [.row (.int .i64) o0_1 0, .cell (.data (.pair (.int .i64) (.pair (.sl false (.arr 2 (.int .i64))) .unit)) o1_1)])
    (fun y3 => k (.exit 2) (St.of [(4, (.data (.sl false (.sl false .bool)) t4_1)), (1, (.bptr 0 [])), (8, (.data (.int .i64) t8_1)), (6, (.ref 1 [] 0)), (7, (.data (.int .i64) t7_1)), (9, (.data (.int .i64) y3))] [.cell (.data (.pair (.int .i64) (.pair (.sl false (.arr 2 (.int .i64))) .unit)) o1_1), .row (.int .i64) o0_1 0])) x := by kernel_rfl
theorem l21_11 (N : Nat) : LoopOK (x21 N) (loopAt 11 (loopsOf b21)) :=
  loop_mk (G21_11 N) (by kernel_rfl) (by kernel_rfl) (by kernel_rfl) fun R k d =>
    loop_eq (st := fun (x : Int × Int) => ([(10, (.data (.int .i64) x.1)), (6, (.ref 0 [] 0)), (8, (.data (.int .i64) d.1.2.2.1)), (4, (.data (.sl false (.sl false .bool)) d.1.2.2.2.1)), (9, (.data (.int .i64) x.2)), (1, (.bptr 1 [])), (7, (.data (.int .i64) d.1.2.2.2.2.2.2.1))], [.row (.int .i64) d.2.1 0, .cell (.data (.pair (.int .i64) (.pair (.sl false (.arr 2 (.int .i64))) .unit)) d.2.2.1)])) (s21_11 N k d.1.2.2.1 d.1.2.2.2.1 d.1.2.2.2.2.2.2.1 d.2.1 d.2.2.1) N (d.1.1, d.1.2.2.2.2.1)
theorem s21_7 (N : Nat) {R : Type} (k : AExit → St → Option R) (t4 : List (List Bool)) (o1 : (Int × (List (List Int) × Unit))) (kb : List (Nat × AVal) → List Obj → Option R) (x : Int × Int × List Int) : codeK (x21 N) (loopAt 7 (loopsOf b21)) (St.of [(6, (.ref 0 [] 0)), (8, (.data (.int .i64) x.1)), (4, (.data (.sl false (.sl false .bool)) t4)), (7, (.data (.int .i64) x.2.1)), (1, (.bptr 1 []))] [.row (.int .i64) x.2.2 0, .cell (.data (.pair (.int .i64) (.pair (.sl false (.arr 2 (.int .i64))) .unit)) o1)]) (kLoop (x21 N) 7 ⟨[6, 8, 4, 7, 1], []⟩ kb k) = f21_L7 N t4 o1 (fun y => kb [(6, (.ref 0 [] 0)), (8, (.data (.int .i64) y.1)), (4, (.data (.sl false (.sl false .bool)) t4)), (7, (.data (.int .i64) y.2.1)), (1, (.bptr 1 []))] [.row (.int .i64) y.2.2 0, .cell (.data (.pair (.int .i64) (.pair (.sl false (.arr 2 (.int .i64))) .unit)) o1)])
    (fun y0 => k (.exit 0) (St.of [(6, (.ref 0 [] 0))] [.row (.int .i64) y0 0])) x := by kernel_rfl
theorem l21_7 (N : Nat) : LoopOK (x21 N) (loopAt 7 (loopsOf b21)) :=
  loop_mk (G21_7 N) (by kernel_rfl) (by kernel_rfl) (by kernel_rfl) fun R k d =>
    loop_eq (st := fun (x : Int × Int × List Int) => ([(6, (.ref 0 [] 0)), (8, (.data (.int .i64) x.1)), (4, (.data (.sl false (.sl false .bool)) d.1.2.2.1)), (7, (.data (.int .i64) x.2.1)), (1, (.bptr 1 []))], [.row (.int .i64) x.2.2 0, .cell (.data (.pair (.int .i64) (.pair (.sl false (.arr 2 (.int .i64))) .unit)) d.2.2.1)])) (s21_7 N k d.1.2.2.1 d.2.2.1) N (d.1.2.1, d.1.2.2.2.1, d.2.1)
theorem e21 (N : Nat) (a0 : (Int × (List (List Int) × Unit))) : bodyK (x21 N) [(.sl true (.int .i64)), (.int .i64)] [.tmp 2, .tmp 3] b21 (entry (.pr (.val (.pair (.int .i64) (.pair (.sl false (.arr 2 (.int .i64))) .unit))) .un) (a0, ())) = f21 N a0 := by kernel_rfl
theorem k21 (N : Nat) : CalleeOK Go.Proofs.Try.prog 21 (c21 N) :=
  fn_ok (fn := Go.Proofs.Try.f21) (body := b21) (c := x21 N) Go.Proofs.Try.func21 (by kernel_rfl) (by kernel_rfl) ⟨ttL_ok, mtL_ok, eqL_ok, ctL_ok, msL_ok, env_cons (forall_mem1 (k32 N)) (env_nil)⟩ mixed (by kernel_rfl) (Nat.le_of_ble_eq_true (by kernel_rfl)) (by kernel_rfl) (by decide)
    (loops_ok (by kernel_rfl : loopsOf b21 = [loopAt 7 (loopsOf b21), loopAt 11 (loopsOf b21)]) (.cons (l21_7 N) (.cons (l21_11 N) .nil))) fun d => e21 N d.1
def f28_L4 {R : Type} (N : Nat) (t22 : Int) (o0 : (Int × (List (List Int) × Unit))) (o1 : (Int × (List (List Int) × Unit))) (kb : Int → Option R) (kret : Bool → Option R) (kx0 : Unit → Option R) : Int → Option R :=
  fun t23 =>
    cond (decide (t23 < t22))
      ((idx o1.2.1 t23).bind fun x =>
      (idx o0.2.1 t23).bind fun x_1 =>
      cond (!(eqD (.arr 2 (.int .i64)) x x_1))
        (kret false)
        (kb (wi64 (t23 + 1))))
      (kx0 ())
def f28 (N : Nat) (a0 : (Int × (List (List Int) × Unit))) (a1 : (Int × (List (List Int) × Unit))) : Option (Bool) :=
  (cond (!(decide (a0.1 = a1.1)))
      (some true)
      (some (!(decide ((len a0.2.1) = (len a1.2.1)))))).bind fun b =>
  cond b
    (some false)
    (iter (fun w => f28_L4 N (len a0.2.1) a1 a0 w
      (fun t4 =>
        some t4)
      (fun (_ : Unit) =>
        some true)) N 0)
def c28 (N : Nat) : Callee := .pure (.pr (.val (.pair (.int .i64) (.pair (.sl false (.arr 2 (.int .i64))) .unit))) (.pr (.val (.pair (.int .i64) (.pair (.sl false (.arr 2 (.int .i64))) .unit))) .un)) [.bool] fun d => f28 N d.1 d.2.1
def F28_4 : SForm := ⟨[(23, (.val (.int .i64))), (3, (.bptr 0 [])), (2, (.bptr 1 [])), (22, (.val (.int .i64)))], [.cell (.val (.pair (.int .i64) (.pair (.sl false (.arr 2 (.int .i64))) .unit))), .cell (.val (.pair (.int .i64) (.pair (.sl false (.arr 2 (.int .i64))) .unit)))]⟩
def G28_4 (N : Nat) : (R : Type) → F28_4.den → (AExit → St → Option R) → Option R := fun R d k => iter (fun kb => f28_L4 N d.1.2.2.2.1 d.2.1 d.2.2.1 kb
    (fun y0 => k .ret (St.of [(4, (.data .bool y0))] []))
    (fun _ => k (.exit 0) (St.of [] []))) N d.1.1
def lp28 (N : Nat) : Nat → Option LoopFn := fun r => cond (Nat.beq r 4) (some fun R sl os k => F28_4.take sl os fun d => G28_4 N R d k) (none)
def x28 (N : Nat) : Ctx := { fuel := N, tt := getL ttL, mt := getL mtL, ntmps := 38, env := fun f => (getL [] f).getD [], cut := getL [(4, ⟨[23, 3, 2, 22], []⟩)], exits := fun r => getL ((getL [(4, [(0, ⟨[], []⟩)])] r).getD []), res := ⟨[4], []⟩, own := fun _ => none, lp := lp28 N, eqs := fun T => memN T eqL, ct := fun T => memN T ctL, ms := getMs msL }
noncomputable def b28 : Code := ((Go.Proofs.Try.f28).body).getD .skip
theorem s28_4 (N : Nat) {R : Type} (k : AExit → St → Option R) (t22 : Int) (o0 : (Int × (List (List Int) × Unit))) (o1 : (Int × (List (List Int) × Unit))) (kb : List (Nat × AVal) → List Obj → Option R) (x : Int) : codeK (x28 N) (loopAt 4 (loopsOf b28)) (St.of [(23, (.data (.int .i64) x)), (3, (.bptr 0 [])), (2, (.bptr 1 [])), (22, (.data (.int .i64) t22))] [.cell (.data (.pair (.int .i64) (.pair (.sl false (.arr 2 (.int .i64))) .unit)) o0), .cell (.data (.pair (.int .i64) (.pair (.sl false (.arr 2 (.int .i64))) .unit)) o1)]) (kLoop (x28 N) 4 ⟨[23, 3, 2, 22], []⟩ kb k) = f28_L4 N t22 o0 o1 (fun y => kb [(23, (.data (.int .i64) y)), (3, (.bptr 0 [])), (2, (.bptr 1 [])), (22, (.data (.int .i64) t22))] [.cell (.data (.pair (.int .i64) (.pair (.sl false (.arr 2 (.int .i64))) .unit)) o0), .cell (.data (.pair (.int .i64) (.pair (.sl false (.arr 2 (.int .i64))) .unit)) o1)])
    (fun y0 => k .ret (St.of [(4, (.data .bool y0))] []))
    (fun _ => k (.exit 0) (St.of [] [])) x := by kernel_rfl
theorem l28_4 (N : Nat) : LoopOK (x28 N) (loopAt 4 (loopsOf b28)) :=
  loop_mk (G28_4 N) (by kernel_rfl) (by kernel_rfl) (by kernel_rfl) fun R k d =>
    loop_eq (st := fun (x : Int) => ([(23, (.data (.int .i64) x)), (3, (.bptr 0 [])), (2, (.bptr 1 [])), (22, (.data (.int .i64) d.1.2.2.2.1))], [.cell (.data (.pair (.int .i64) (.pair (.sl false (.arr 2 (.int .i64))) .unit)) d.2.1), .cell (.data (.pair (.int .i64) (.pair (.sl false (.arr 2 (.int .i64))) .unit)) d.2.2.1)])) (s28_4 N k d.1.2.2.2.1 d.2.1 d.2.2.1) N d.1.1
theorem e28 (N : Nat) (a0 : (Int × (List (List Int) × Unit))) (a1 : (Int × (List (List Int) × Unit))) : bodyK (x28 N) [.bool] [.tmp 4] b28 (entry (.pr (.val (.pair (.int .i64) (.pair (.sl false (.arr 2 (.int .i64))) .unit))) (.pr (.val (.pair (.int .i64) (.pair (.sl false (.arr 2 (.int .i64))) .unit))) .un)) (a0, (a1, ()))) = f28 N a0 a1 := by kernel_rfl
theorem k28 (N : Nat) : CalleeOK Go.Proofs.Try.prog 28 (c28 N) :=
  fn_ok (fn := Go.Proofs.Try.f28) (body := b28) (c := x28 N) Go.Proofs.Try.func28 (by kernel_rfl) (by kernel_rfl) ⟨ttL_ok, mtL_ok, eqL_ok, ctL_ok, msL_ok, env_nil⟩ mixed (by kernel_rfl) (Nat.le_of_ble_eq_true (by kernel_rfl)) (by kernel_rfl) (by decide)
    (loops_ok (by kernel_rfl : loopsOf b28 = [loopAt 4 (loopsOf b28)]) (.cons (l28_4 N) .nil)) fun d => e28 N d.1 d.2.1
def f51_L3 {R : Type} (N : Nat) (t14 : Int) (o1 : List Int) (kb : Int × List Bool → Option R) (kx0 : (List Bool) → Option R) : Int × List Bool → Option R :=
  fun (t15, o0) =>
    cond (decide (t15 < t14))
      (chk (inb o1 t15) <|
      (idx o1 t15).bind fun x =>
      chk (inb o0 t15) <|
      (idx o0 t15).bind fun x_1 =>
      (idx o0 t15).bind fun x_2 =>
      kb ((wi64 (t15 + 1)), (setI o0 t15 (decide (0 ≤ x)))))
      (kx0 o0)
def f51 (N : Nat) (a0 : List (List Int)) (a1 : List Int) : Option (List Bool) :=
  chk (((decide (0 ≤ (len a0))) && (decide ((len a0) ≤ (len a0)))) && (decide ((len a0) ≤ ((room : Nat) : Int)))) <|
  (f40 N a0 a1).bind fun r =>
  iter (fun w => f51_L3 N (len r) r w
    (fun o0_1 =>
      some o0_1)) N (0, (List.replicate (Int.toNat (len a0)) false : List Bool))
def c51 (N : Nat) : Callee := .pure (.pr (.val (.sl false (.sl false (.int .i64)))) (.pr (.val (.sl false (.int .i64))) .un)) [(.sl true .bool)] fun d => f51 N d.1 d.2.1
def F51_3 : SForm := ⟨[(15, (.val (.int .i64))), (5, (.ref 0)), (13, (.ref 1)), (14, (.val (.int .i64)))], [.row .bool, .row (.int .i64)]⟩
def G51_3 (N : Nat) : (R : Type) → F51_3.den → (AExit → St → Option R) → Option R := fun R d k => iter (fun kb => f51_L3 N d.1.2.2.2.1 d.2.2.1 kb
    (fun y0 => k (.exit 0) (St.of [(5, (.ref 0 [] 0))] [.row .bool y0 0]))) N (d.1.1, d.2.1)
def lp51 (N : Nat) : Nat → Option LoopFn := fun r => cond (Nat.beq r 3) (some fun R sl os k => F51_3.take sl os fun d => G51_3 N R d k) (none)
def x51 (N : Nat) : Ctx := { fuel := N, tt := getL ttL, mt := getL mtL, ntmps := 27, env := fun f => (getL [(40, [c40 N])] f).getD [], cut := getL [(3, ⟨[15, 5, 13, 14], []⟩)], exits := fun r => getL ((getL [(3, [(0, ⟨[5], []⟩)])] r).getD []), res := ⟨[4], []⟩, own := fun _ => none, lp := lp51 N, eqs := fun T => memN T eqL, ct := fun T => memN T ctL, ms := getMs msL }
noncomputable def b51 : Code := ((Go.Proofs.Try.f51).body).getD .skip
theorem s51_3 (N : Nat) {R : Type} (k : AExit → St → Option R) (t14 : Int) (o1 : List Int) (kb : List (Nat × AVal) → List Obj → Option R) (x : Int × List Bool) : codeK (x51 N) (loopAt 3 (loopsOf b51)) (St.of [(15, (.data (.int .i64) x.1)), (5, (.ref 0 [] 0)), (13, (.ref 1 [] 0)), (14, (.data (.int .i64) t14))] [.row .bool x.2 0, .row (.int .i64) o1 0]) (kLoop (x51 N) 3 ⟨[15, 5, 13, 14], []⟩ kb k) = f51_L3 N t14 o1 (fun y => kb [(15, (.data (.int .i64) y.1)), (5, (.ref 0 [] 0)), (13, (.ref 1 [] 0)), (14, (.data (.int .i64) t14))] [.row .bool y.2 0, .row (.int .i64) o1 0])
    (fun y0 => k (.exit 0) (St.of [(5, (.ref 0 [] 0))] [.row .bool y0 0])) x := by kernel_rfl
theorem l51_3 (N : Nat) : LoopOK (x51 N) (loopAt 3 (loopsOf b51)) :=
  loop_mk (G51_3 N) (by kernel_rfl) (by kernel_rfl) (by kernel_rfl) fun R k d =>
    loop_eq (st := fun (x : Int × List Bool) => ([(15, (.data (.int .i64) x.1)), (5, (.ref 0 [] 0)), (13, (.ref 1 [] 0)), (14, (.data (.int .i64) d.1.2.2.2.1))], [.row .bool x.2 0, .row (.int .i64) d.2.2.1 0])) (s51_3 N k d.1.2.2.2.1 d.2.2.1) N (d.1.1, d.2.1)
theorem e51 (N : Nat) (a0 : List (List Int)) (a1 : List Int) : bodyK (x51 N) [(.sl true .bool)] [.tmp 4] b51 (entry (.pr (.val (.sl false (.sl false (.int .i64)))) (.pr (.val (.sl false (.int .i64))) .un)) (a0, (a1, ()))) = f51 N a0 a1 := by kernel_rfl
theorem k51 (N : Nat) : CalleeOK Go.Proofs.Try.prog 51 (c51 N) :=
  fn_ok (fn := Go.Proofs.Try.f51) (body := b51) (c := x51 N) Go.Proofs.Try.func51 (by kernel_rfl) (by kernel_rfl) ⟨ttL_ok, mtL_ok, eqL_ok, ctL_ok, msL_ok, env_cons (forall_mem1 (k40 N)) (env_nil)⟩ mixed (by kernel_rfl) (Nat.le_of_ble_eq_true (by kernel_rfl)) (by kernel_rfl) (by decide)
    (loops_ok (by kernel_rfl : loopsOf b51 = [loopAt 3 (loopsOf b51)]) (.cons (l51_3 N) .nil)) fun d => e51 N d.1 d.2.1
def f31_L7 {R : Type} (N : Nat) (t5 : List (List Int)) (t22 : Int) (kb : Int × List (List Bool) → Option R) (kx0 : (List (List Bool)) → Option R) : Int × List (List Bool) → Option R :=
  fun (t23, o0) =>
    cond (decide (t23 < t22))
      ((f51 N t5 (t23 :: ([] : List Int))).bind fun r_2 =>
      chk (inb o0 t23) <|
      (idx o0 t23).bind fun x =>
      kb ((wi64 (t23 + 1)), (setI o0 t23 r_2)))
      (kx0 o0)
def f31 (N : Nat) (a0 : (Int × (List (List Int) × Unit))) : Option (List (List Bool) × Int) :=
  (f34 N a0).bind fun r =>
  cond (!(decide (r = 0)))
    (some (([] : List (List Bool)), r))
    ((f41 N a0.1 a0.2.1).bind fun r_1 =>
    chk (((decide (0 ≤ a0.1)) && (decide (a0.1 ≤ a0.1))) && (decide (a0.1 ≤ ((room : Nat) : Int)))) <|
    iter (fun w => f31_L7 N r_1 (len (List.replicate (Int.toNat a0.1) ([] : List Bool) : List (List Bool))) w
      (fun o0_1 =>
        some (o0_1, 0))) N (0, (List.replicate (Int.toNat a0.1) ([] : List Bool) : List (List Bool))))
def c31 (N : Nat) : Callee := .pure (.pr (.val (.pair (.int .i64) (.pair (.sl false (.arr 2 (.int .i64))) .unit))) .un) [(.sl false (.sl false .bool)), (.int .i64)] fun d => f31 N d.1
def F31_7 : SForm := ⟨[(23, (.val (.int .i64))), (5, (.val (.sl false (.sl false (.int .i64))))), (6, (.nv 0)), (22, (.val (.int .i64)))], [.nest (.sl true .bool)]⟩
def G31_7 (N : Nat) : (R : Type) → F31_7.den → (AExit → St → Option R) → Option R := fun R d k => iter (fun kb => f31_L7 N d.1.2.1 d.1.2.2.2.1 kb
    (fun y0 => k (.exit 0) (St.of [(6, (.nv false 0 [] 0))] [.nest (.sl true .bool) y0 0 0 none]))) N (d.1.1, d.2.1)
def lp31 (N : Nat) : Nat → Option LoopFn := fun r => cond (Nat.beq r 7) (some fun R sl os k => F31_7.take sl os fun d => G31_7 N R d k) (none)
def x31 (N : Nat) : Ctx := { fuel := N, tt := getL ttL, mt := getL mtL, ntmps := 35, env := fun f => (getL [(34, [c34 N]), (41, [c41 N]), (51, [c51 N])] f).getD [], cut := getL [(7, ⟨[23, 5, 6, 22], []⟩)], exits := fun r => getL ((getL [(7, [(0, ⟨[6], []⟩)])] r).getD []), res := ⟨[2, 3], []⟩, own := getL [(20, (.sl true (.sl true .bool)))], lp := lp31 N, eqs := fun T => memN T eqL, ct := fun T => memN T ctL, ms := getMs msL }
noncomputable def b31 : Code := ((Go.Proofs.Try.f31).body).getD .skip
theorem s31_7 (N : Nat) {R : Type} (k : AExit → St → Option R) (t5 : List (List Int)) (t22 : Int) (kb : List (Nat × AVal) → List Obj → Option R) (x : Int × List (List Bool)) : codeK (x31 N) (loopAt 7 (loopsOf b31)) (St.of [(23, (.data (.int .i64) x.1)), (5, (.data (.sl false (.sl false (.int .i64))) t5)), (6, (.nv false 0 [] 0)), (22, (.data (.int .i64) t22))] [.nest (.sl true .bool) x.2 0 0 none]) (kLoop (x31 N) 7 ⟨[23, 5, 6, 22], []⟩ kb k) = f31_L7 N t5 t22 (fun y => kb [(23, (.data (.int .i64) y.1)), (5, (.data (.sl false (.sl false (.int .i64))) t5)), (6, (.nv false 0 [] 0)), (22, (.data (.int .i64) t22))] [.nest (.sl true .bool) y.2 0 0 none])
    (fun y0 => k (.exit 0) (St.of [(6, (.nv false 0 [] 0))] [.nest (.sl true .bool) y0 0 0 none])) x := by kernel_rfl
theorem l31_7 (N : Nat) : LoopOK (x31 N) (loopAt 7 (loopsOf b31)) :=
  loop_mk (G31_7 N) (by kernel_rfl) (by kernel_rfl) (by kernel_rfl) fun R k d =>
    loop_eq (st := fun (x : Int × List (List Bool)) => ([(23, (.data (.int .i64) x.1)), (5, (.data (.sl false (.sl false (.int .i64))) d.1.2.1)), (6, (.nv false 0 [] 0)), (22, (.data (.int .i64) d.1.2.2.2.1))], [.nest (.sl true .bool) x.2 0 0 none])) (s31_7 N k d.1.2.1 d.1.2.2.2.1) N (d.1.1, d.2.1)
theorem e31 (N : Nat) (a0 : (Int × (List (List Int) × Unit))) : bodyK (x31 N) [(.sl false (.sl false .bool)), (.int .i64)] [.tmp 2, .tmp 3] b31 (entry (.pr (.val (.pair (.int .i64) (.pair (.sl false (.arr 2 (.int .i64))) .unit))) .un) (a0, ())) = f31 N a0 := by kernel_rfl
theorem k31 (N : Nat) : CalleeOK Go.Proofs.Try.prog 31 (c31 N) :=
  fn_ok (fn := Go.Proofs.Try.f31) (body := b31) (c := x31 N) Go.Proofs.Try.func31 (by kernel_rfl) (by kernel_rfl) ⟨ttL_ok, mtL_ok, eqL_ok, ctL_ok, msL_ok, env_cons (forall_mem1 (k34 N)) (env_cons (forall_mem1 (k41 N)) (env_cons (forall_mem1 (k51 N)) (env_nil)))⟩ mixed (by kernel_rfl) (Nat.le_of_ble_eq_true (by kernel_rfl)) (by kernel_rfl) (by decide)
    (loops_ok (by kernel_rfl : loopsOf b31 = [loopAt 7 (loopsOf b31)]) (.cons (l31_7 N) .nil)) fun d => e31 N d.1
def f37_L7 {R : Type} (N : Nat) (t23 : Int) (o0 : List Int) (o1 : Int) (o2 : (Int × (List (List Int) × Unit))) (kb : Int × Int → Option R) (kx0 : Int → Option R) : Int × Int → Option R :=
  fun (t24, t6) =>
    cond (decide (t24 < t23))
      (chk (inb o0 t24) <|
      (idx o0 t24).bind fun x =>
      kb ((wi64 (t24 + 1)), (maxI t6 (wi64 (x + 1)))))
      (kx0 t6)
def f37_L13 {R : Type} (N : Nat) (t34 : List (List Int)) (t6_2 : Int) (t35 : Int) (o1_1 : List Int) (o2_1 : Int) (kb : Int × List (List Int) → Option R) (kx2 : (List (List Int)) → Option R) : Int × List (List Int) → Option R :=
  fun (t36, o0_1) =>
    cond (decide (t36 < t35))
      ((idx t34 t36).bind fun x_1 =>
      chk (inb x_1 0) <|
      (idx x_1 0).bind fun x_2 =>
      chk (inb o1_1 x_2) <|
      (idx o1_1 x_2).bind fun x_3 =>
      chk (inb x_1 1) <|
      (idx x_1 1).bind fun x_4 =>
      chk (inb o1_1 x_4) <|
      (idx o1_1 x_4).bind fun x_5 =>
      cond (!(decide (x_3 = x_5)))
        (chk (decide ((Nat.succ (List.length o0_1)) ≤ room)) <|
        kb ((wi64 (t36 + 1)), (o0_1 ++ ((x_3 :: (x_5 :: ([] : List Int))) :: ([] : List (List Int))))))
        (kb ((wi64 (t36 + 1)), o0_1)))
      (kx2 o0_1)
def f37 (N : Nat) (a0 : (Int × (List (List Int) × Unit))) : Option ((Int × (List (List Int) × Unit)) × Int) :=
  (f34 N a0).bind fun r =>
  cond (!(decide (r = 0)))
    (some ((0, (([] : List (List Int)), ())), r))
    ((f49 N a0).bind fun r_1 =>
    iter (fun w => f37_L7 N (len r_1) r_1 0 a0 w
      (fun t6_1 =>
        iter (fun w => f37_L13 N a0.2.1 t6_1 (len a0.2.1) r_1 0 w
          (fun o1_2 =>
            (f50 N t6_1 o1_2).bind fun r_2 =>
            some ((r_2.1, (r_2.2.1, ())), 0))) N (0, ([] : List (List Int))))) N (0, 0))
def c37 (N : Nat) : Callee := .pure (.pr (.val (.pair (.int .i64) (.pair (.sl false (.arr 2 (.int .i64))) .unit))) .un) [(.pair (.int .i64) (.pair (.sl false (.arr 2 (.int .i64))) .unit)), (.int .i64)] fun d => f37 N d.1
def F37_7 : SForm := ⟨[(24, (.val (.int .i64))), (6, (.val (.int .i64))), (22, (.ref 0)), (5, (.ref 0)), (2, (.bptr 1 [])), (1, (.bptr 2 [])), (23, (.val (.int .i64)))], [.row (.int .i64), .cell (.agg (.pr (.val (.int .i64)) (.pr .nilS .un))), .cell (.val (.pair (.int .i64) (.pair (.sl false (.arr 2 (.int .i64))) .unit)))]⟩
def G37_7 (N : Nat) : (R : Type) → F37_7.den → (AExit → St → Option R) → Option R := fun R d k => iter (fun kb => f37_L7 N d.1.2.2.2.2.2.2.1 d.2.1 d.2.2.1.1 d.2.2.2.1 kb
    (fun y0 => k (.exit 0) (St.of [(5, (.ref 0 [] 0)), (2, (.bptr 1 [])), (6, (.data (.int .i64) y0)), (1, (.bptr 2 []))] [.row (.int .i64) d.2.1 0, .cell (.agg (.pr (.data (.int .i64) d.2.2.1.1) (.pr .nilS .un))), .cell (.data (.pair (.int .i64) (.pair (.sl false (.arr 2 (.int .i64))) .unit)) d.2.2.2.1)]))) N (d.1.1, d.1.2.1)
def F37_13 : SForm := ⟨[(36, (.val (.int .i64))), (9, (.ref 0)), (5, (.ref 1)), (34, (.val (.sl false (.arr 2 (.int .i64))))), (2, (.bptr 2 [])), (6, (.val (.int .i64))), (35, (.val (.int .i64)))], [.row (.arr 2 (.int .i64)), .row (.int .i64), .cell (.agg (.pr (.val (.int .i64)) (.pr .nilS .un)))]⟩
def G37_13 (N : Nat) : (R : Type) → F37_13.den → (AExit → St → Option R) → Option R := fun R d k => iter (fun kb => f37_L13 N d.1.2.2.2.1 d.1.2.2.2.2.2.1 d.1.2.2.2.2.2.2.1 d.2.2.1 d.2.2.2.1.1 kb
    (fun y2 => k (.exit 2) (St.of [(2, (.bptr 0 [])), (9, (.ref 1 [] 0)), (6, (.data (.int .i64) d.1.2.2.2.2.2.1))] [.cell (.agg (.pr (.data (.int .i64) d.2.2.2.1.1) (.pr .nilS .un))), .row (.arr 2 (.int .i64)) y2 0]))) N (d.1.1, d.2.1)
def lp37 (N : Nat) : Nat → Option LoopFn := fun r => cond (Nat.beq r 7) (some fun R sl os k => F37_7.take sl os fun d => G37_7 N R d k) (cond (Nat.beq r 13) (some fun R sl os k => F37_13.take sl os fun d => G37_13 N R d k) (none))
def x37 (N : Nat) : Ctx := { fuel := N, tt := getL ttL, mt := getL mtL, ntmps := 63, env := fun f => (getL [(34, [c34 N]), (49, [c49 N]), (50, [c50 N])] f).getD [], cut := getL [(7, ⟨[24, 6, 22, 5, 2, 1, 23], []⟩), (13, ⟨[36, 9, 5, 34, 2, 6, 35], [(9, none, .row (.arr 2 (.int .i64)))]⟩)], exits := fun r => getL ((getL [(7, [(0, ⟨[5, 2, 6, 1], []⟩)]), (13, [(2, ⟨[2, 9, 6], []⟩)])] r).getD []), res := ⟨[2, 3], []⟩, own := fun _ => none, lp := lp37 N, eqs := fun T => memN T eqL, ct := fun T => memN T ctL, ms := getMs msL }
noncomputable def b37 : Code := ((Go.Proofs.Try.f37).body).getD .skip
theorem s37_7 (N : Nat) {R : Type} (k : AExit → St → Option R) (t23 : Int) (o0 : List Int) (o1 : Int) (o2 : (Int × (List (List Int) × Unit))) (kb : List (Nat × AVal) → List Obj → Option R) (x : Int × Int) : codeK (x37 N) (loopAt 7 (loopsOf b37)) (St.of [(24, (.data (.int .i64) x.1)), (6, (.data (.int .i64) x.2)), (22, (.ref 0 [] 0)), (5, (.ref 0 [] 0)), (2, (.bptr 1 [])), (1, (.bptr 2 [])), (23, (.data (.int .i64) t23))] [.row (.int .i64) o0 0, .cell (.agg (.pr (.data (.int .i64) o1) (.pr .nilS .un))), .cell (.data (.pair (.int .i64) (.pair (.sl false (.arr 2 (.int .i64))) .unit)) o2)]) (kLoop (x37 N) 7 ⟨[24, 6, 22, 5, 2, 1, 23], []⟩ kb k) = f37_L7 N t23 o0 o1 o2 (fun y => kb [(24, (.data (.int .i64) y.1)), (6, (.data (.int .i64) y.2)), (22, (.ref 0 [] 0)), (5, (.ref 0 [] 0)), (2, (.bptr 1 [])), (1, (.bptr 2 [])), (23, (.data (.int .i64) t23))] [.row (.int .i64) o0 0, .cell (.agg (.pr (.data (.int .i64) o1) (.pr .nilS .un))), .cell (.data (.pair (.int .i64) (.pair (.sl false (.arr 2 (.int .i64))) .unit)) o2)])
    (fun y0 => k (.exit 0) (St.of [(5, (.ref 0 [] 0)), (2, (.bptr 1 [])), (6, (.data (.int .i64) y0)), (1, (.bptr 2 []))] [.row (.int .i64) o0 0, .cell (.agg (.pr (.data (.int .i64) o1) (.pr .nilS .un))), .cell (.data (.pair (.int .i64) (.pair (.sl false (.arr 2 (.int .i64))) .unit)) o2)])) x := by kernel_rfl
theorem l37_7 (N : Nat) : LoopOK (x37 N) (loopAt 7 (loopsOf b37)) :=
  loop_mk (G37_7 N) (by kernel_rfl) (by kernel_rfl) (by kernel_rfl) fun R k d =>
    loop_eq (st := fun (x : Int × Int) => ([(24, (.data (.int .i64) x.1)), (6, (.data (.int .i64) x.2)), (22, (.ref 0 [] 0)), (5, (.ref 0 [] 0)), (2, (.bptr 1 [])), (1, (.bptr 2 [])), (23, (.data (.int .i64) d.1.2.2.2.2.2.2.1))], [.row (.int .i64) d.2.1 0, .cell (.agg (.pr (.data (.int .i64) d.2.2.1.1) (.pr .nilS .un))), .cell (.data (.pair (.int .i64) (.pair (.sl false (.arr 2 (.int .i64))) .unit)) d.2.2.2.1)])) (s37_7 N k d.1.2.2.2.2.2.2.1 d.2.1 d.2.2.1.1 d.2.2.2.1) N (d.1.1, d.1.2.1)
theorem s37_13 (N : Nat) {R : Type} (k : AExit → St → Option R) (t34 : List (List Int)) (t6_2 : Int) (t35 : Int) (o1_1 : List Int) (o2_1 : Int) (kb : List (Nat × AVal) → List Obj → Option R) (x : Int × List (List Int)) : codeK (x37 N) (loopAt 13 (loopsOf b37)) (St.of [(36, (.data (.int .i64) x.1)), (9, (.ref 0 [] 0)), (5, (.ref 1 [] 0)), (34, (.data (.sl false (.arr 2 (.int .i64))) t34)), (2, (.bptr 2 [])), (6, (.data (.int .i64) t6_2)), (35, (.data (.int .i64) t35))] [.row (.arr 2 (.int .i64)) x.2 0, .row (.int .i64) o1_1 0, .cell (.agg (.pr (.data (.int .i64) o2_1) (.pr .nilS .un)))]) (kLoop (x37 N) 13 ⟨[36, 9, 5, 34, 2, 6, 35], [(9, none, .row (.arr 2 (.int .i64)))]⟩ kb k) = f37_L13 N t34 t6_2 t35 o1_1 o2_1 (fun y => kb [(36, (.data (.int .i64) y.1)), (9, (.ref 0 [] 0)), (5, (.ref 1 [] 0)), (34, (.data (.sl false (.arr 2 (.int .i64))) t34)), (2, (.bptr 2 [])), (6, (.data (.int .i64) t6_2)), (35, (.data (.int .i64) t35))] [.row (.arr 2 (.int .i64)) y.2 0, .row (.int .i64) o1_1 0, .cell (.agg (.pr (.data (.int .i64) o2_1) (.pr .nilS .un)))])
    (fun y2 => k (.exit 2) (St.of [(2, (.bptr 0 [])), (9, (.ref 1 [] 0)), (6, (.data (.int .i64) t6_2))] [.cell (.agg (.pr (.data (.int .i64) o2_1) (.pr .nilS .un))), .row (.arr 2 (.int .i64)) y2 0])) x := by kernel_rfl
theorem l37_13 (N : Nat) : LoopOK (x37 N) (loopAt 13 (loopsOf b37)) :=
  loop_mk (G37_13 N) (by kernel_rfl) (by kernel_rfl) (by kernel_rfl) fun R k d =>
    loop_eq (st := fun (x : Int × List (List Int)) => ([(36, (.data (.int .i64) x.1)), (9, (.ref 0 [] 0)), (5, (.ref 1 [] 0)), (34, (.data (.sl false (.arr 2 (.int .i64))) d.1.2.2.2.1)), (2, (.bptr 2 [])), (6, (.data (.int .i64) d.1.2.2.2.2.2.1)), (35, (.data (.int .i64) d.1.2.2.2.2.2.2.1))], [.row (.arr 2 (.int .i64)) x.2 0, .row (.int .i64) d.2.2.1 0, .cell (.agg (.pr (.data (.int .i64) d.2.2.2.1.1) (.pr .nilS .un)))])) (s37_13 N k d.1.2.2.2.1 d.1.2.2.2.2.2.1 d.1.2.2.2.2.2.2.1 d.2.2.1 d.2.2.2.1.1) N (d.1.1, d.2.1)
theorem e37 (N : Nat) (a0 : (Int × (List (List Int) × Unit))) : bodyK (x37 N) [(.pair (.int .i64) (.pair (.sl false (.arr 2 (.int .i64))) .unit)), (.int .i64)] [.cell 2 24, .tmp 3] b37 (entry (.pr (.val (.pair (.int .i64) (.pair (.sl false (.arr 2 (.int .i64))) .unit))) .un) (a0, ())) = f37 N a0 := by kernel_rfl
theorem k37 (N : Nat) : CalleeOK Go.Proofs.Try.prog 37 (c37 N) :=
  fn_ok (fn := Go.Proofs.Try.f37) (body := b37) (c := x37 N) Go.Proofs.Try.func37 (by kernel_rfl) (by kernel_rfl) ⟨ttL_ok, mtL_ok, eqL_ok, ctL_ok, msL_ok, env_cons (forall_mem1 (k34 N)) (env_cons (forall_mem1 (k49 N)) (env_cons (forall_mem1 (k50 N)) (env_nil)))⟩ mixed (by kernel_rfl) (Nat.le_of_ble_eq_true (by kernel_rfl)) (by kernel_rfl) (by decide)
    (loops_ok (by kernel_rfl : loopsOf b37 = [loopAt 7 (loopsOf b37), loopAt 13 (loopsOf b37)]) (.cons (l37_7 N) (.cons (l37_13 N) .nil))) fun d => e37 N d.1
def f38_L6 {R : Type} (N : Nat) (o1 : List Int) (o2 : (Int × (List (List Int) × Unit))) (o3 : Int) (kb : Int × Int → Option R) (kx0 : Int → Option R) : Int × Int → Option R :=
  fun (t7, o0) =>
    cond (decide (t7 < (len o1)))
      (chk (inb o1 t7) <|
      (idx o1 t7).bind fun x =>
      cond (decide (o0 ≤ x))
        (chk (inb o1 t7) <|
        (idx o1 t7).bind fun x_1 =>
        kb ((wi64 (t7 + 1)), (wi64 (x_1 + 1))))
        (kb ((wi64 (t7 + 1)), o0)))
      (kx0 o0)
def f38_L11 {R : Type} (N : Nat) (o0_2 : Int) (o2_1 : (Int × (List (List Int) × Unit))) (o3_1 : List Int) (o4 : Int) (kb : Int × List (List Int) → Option R) (kx2 : (List (List Int)) → Option R) : Int × List (List Int) → Option R :=
  fun (t8, o1_1) =>
    cond (decide (t8 < (len o2_1.2.1)))
      ((idx o2_1.2.1 t8).bind fun x_2 =>
      (idx x_2 0).bind fun x_3 =>
      chk (inb o3_1 x_3) <|
      (idx o3_1 x_3).bind fun x_4 =>
      (idx o2_1.2.1 t8).bind fun x_5 =>
      (idx x_5 1).bind fun x_6 =>
      chk (inb o3_1 x_6) <|
      (idx o3_1 x_6).bind fun x_7 =>
      cond (!(decide (x_4 = x_7)))
        (chk (decide ((Nat.succ (List.length o1_1)) ≤ room)) <|
        kb ((wi64 (t8 + 1)), (o1_1 ++ ((x_4 :: (x_7 :: ([] : List Int))) :: ([] : List (List Int))))))
        (kb ((wi64 (t8 + 1)), o1_1)))
      (kx2 o1_1)
def f38 (N : Nat) (a0 : (Int × (List (List Int) × Unit))) : Option ((Int × (List (List Int) × Unit)) × Int) :=
  (f21 N a0).bind fun r =>
  cond (!(decide (r.2 = 0)))
    (some ((0, (([] : List (List Int)), ())), r.2))
    (iter (fun w => f38_L6 N r.1 a0 0 w
      (fun o0_1 =>
        iter (fun w => f38_L11 N o0_1 a0 r.1 0 w
          (fun o2_2 =>
            (f25 N (o0_1, (o2_2, ()))).bind fun r_1 =>
            some ((r_1.1.1, (r_1.1.2.1, ())), r_1.2))) N (0, ([] : List (List Int))))) N (0, 0))
def c38 (N : Nat) : Callee := .pure (.pr (.val (.pair (.int .i64) (.pair (.sl false (.arr 2 (.int .i64))) .unit))) .un) [(.pair (.int .i64) (.pair (.sl false (.arr 2 (.int .i64))) .unit)), (.int .i64)] fun d => f38 N d.1
def F38_6 : SForm := ⟨[(7, (.val (.int .i64))), (6, (.bptr 0 [])), (4, (.ref 1)), (1, (.bptr 2 [])), (2, (.bptr 3 []))], [.cell (.agg (.pr (.val (.int .i64)) (.pr .nilS .un))), .row (.int .i64), .cell (.val (.pair (.int .i64) (.pair (.sl false (.arr 2 (.int .i64))) .unit))), .cell (.agg (.pr (.val (.int .i64)) (.pr .nilS .un)))]⟩
def G38_6 (N : Nat) : (R : Type) → F38_6.den → (AExit → St → Option R) → Option R := fun R d k => iter (fun kb => f38_L6 N d.2.2.1 d.2.2.2.1 d.2.2.2.2.1.1 kb
    (fun y0 => k (.exit 0) (St.of [(6, (.bptr 0 [])), (1, (.bptr 1 [])), (4, (.ref 2 [] 0)), (2, (.bptr 3 []))] [.cell (.agg (.pr (.data (.int .i64) y0) (.pr .nilS .un))), .cell (.data (.pair (.int .i64) (.pair (.sl false (.arr 2 (.int .i64))) .unit)) d.2.2.2.1), .row (.int .i64) d.2.2.1 0, .cell (.agg (.pr (.data (.int .i64) d.2.2.2.2.1.1) (.pr .nilS .un)))]))) N (d.1.1, d.2.1.1)
def F38_11 : SForm := ⟨[(8, (.val (.int .i64))), (6, (.bptr 0 [])), (1, (.bptr 2 [])), (4, (.ref 3)), (2, (.bptr 4 []))], [.cell (.agg (.pr (.val (.int .i64)) (.pr (.ref 1) .un))), .row (.arr 2 (.int .i64)), .cell (.val (.pair (.int .i64) (.pair (.sl false (.arr 2 (.int .i64))) .unit))), .row (.int .i64), .cell (.agg (.pr (.val (.int .i64)) (.pr .nilS .un)))]⟩
def G38_11 (N : Nat) : (R : Type) → F38_11.den → (AExit → St → Option R) → Option R := fun R d k => iter (fun kb => f38_L11 N d.2.1.1 d.2.2.2.1 d.2.2.2.2.1 d.2.2.2.2.2.1.1 kb
    (fun y2 => k (.exit 2) (St.of [(2, (.bptr 0 [])), (6, (.bptr 1 []))] [.cell (.agg (.pr (.data (.int .i64) d.2.2.2.2.2.1.1) (.pr .nilS .un))), .cell (.agg (.pr (.data (.int .i64) d.2.1.1) (.pr (.ref 2 [] 0) .un))), .row (.arr 2 (.int .i64)) y2 0]))) N (d.1.1, d.2.2.1)
def lp38 (N : Nat) : Nat → Option LoopFn := fun r => cond (Nat.beq r 6) (some fun R sl os k => F38_6.take sl os fun d => G38_6 N R d k) (cond (Nat.beq r 11) (some fun R sl os k => F38_11.take sl os fun d => G38_11 N R d k) (none))
def x38 (N : Nat) : Ctx := { fuel := N, tt := getL ttL, mt := getL mtL, ntmps := 80, env := fun f => (getL [(21, [c21 N]), (25, [c25 N])] f).getD [], cut := getL [(6, ⟨[7, 6, 4, 1, 2], []⟩), (11, ⟨[8, 6, 1, 4, 2], [(6, some [.snd, .fst], .row (.arr 2 (.int .i64)))]⟩)], exits := fun r => getL ((getL [(6, [(0, ⟨[6, 1, 4, 2], []⟩)]), (11, [(2, ⟨[2, 6], []⟩)])] r).getD []), res := ⟨[2, 3], []⟩, own := fun _ => none, lp := lp38 N, eqs := fun T => memN T eqL, ct := fun T => memN T ctL, ms := getMs msL }
noncomputable def b38 : Code := ((Go.Proofs.Try.f38).body).getD .skip
theorem s38_6 (N : Nat) {R : Type} (k : AExit → St → Option R) (o1 : List Int) (o2 : (Int × (List (List Int) × Unit))) (o3 : Int) (kb : List (Nat × AVal) → List Obj → Option R) (x : Int × Int) : codeK (x38 N) (loopAt 6 (loopsOf b38)) (St.of [(7, (.data (.int .i64) x.1)), (6, (.bptr 0 [])), (4, (.ref 1 [] 0)), (1, (.bptr 2 [])), (2, (.bptr 3 []))] [.cell (.agg (.pr (.data (.int .i64) x.2) (.pr .nilS .un))), .row (.int .i64) o1 0, .cell (.data (.pair (.int .i64) (.pair (.sl false (.arr 2 (.int .i64))) .unit)) o2), .cell (.agg (.pr (.data (.int .i64) o3) (.pr .nilS .un)))]) (kLoop (x38 N) 6 ⟨[7, 6, 4, 1, 2], []⟩ kb k) = f38_L6 N o1 o2 o3 (fun y => kb [(7, (.data (.int .i64) y.1)), (6, (.bptr 0 [])), (4, (.ref 1 [] 0)), (1, (.bptr 2 [])), (2, (.bptr 3 []))] [.cell (.agg (.pr (.data (.int .i64) y.2) (.pr .nilS .un))), .row (.int .i64) o1 0, .cell (.data (.pair (.int .i64) (.pair (.sl false (.arr 2 (.int .i64))) .unit)) o2), .cell (.agg (.pr (.data (.int .i64) o3) (.pr .nilS .un)))])
    (fun y0 => k (.exit 0) (St.of [(6, (.bptr 0 [])), (1, (.bptr 1 [])), (4, (.ref 2 [] 0)), (2, (.bptr 3 []))] [.cell (.agg (.pr (.data (.int .i64) y0) (.pr .nilS .un))), .cell (.data (.pair (.int .i64) (.pair (.sl false (.arr 2 (.int .i64))) .unit)) o2), .row (.int .i64) o1 0, .cell (.agg (.pr (.data (.int .i64) o3) (.pr .nilS .un)))])) x := by kernel_rfl
theorem l38_6 (N : Nat) : LoopOK (x38 N) (loopAt 6 (loopsOf b38)) :=
  loop_mk (G38_6 N) (by kernel_rfl) (by kernel_rfl) (by kernel_rfl) fun R k d =>
    loop_eq (st := fun (x : Int × Int) => ([(7, (.data (.int .i64) x.1)), (6, (.bptr 0 [])), (4, (.ref 1 [] 0)), (1, (.bptr 2 [])), (2, (.bptr 3 []))], [.cell (.agg (.pr (.data (.int .i64) x.2) (.pr .nilS .un))), .row (.int .i64) d.2.2.1 0, .cell (.data (.pair (.int .i64) (.pair (.sl false (.arr 2 (.int .i64))) .unit)) d.2.2.2.1), .cell (.agg (.pr (.data (.int .i64) d.2.2.2.2.1.1) (.pr .nilS .un)))])) (s38_6 N k d.2.2.1 d.2.2.2.1 d.2.2.2.2.1.1) N (d.1.1, d.2.1.1)
theorem s38_11 (N : Nat) {R : Type} (k : AExit → St → Option R) (o0_2 : Int) (o2_1 : (Int × (List (List Int) × Unit))) (o3_1 : List Int) (o4 : Int) (kb : List (Nat × AVal) → List Obj → Option R) (x : Int × List (List Int)) : codeK (x38 N) (loopAt 11 (loopsOf b38)) (St.of [(8, (.data (.int .i64) x.1)), (6, (.bptr 0 [])), (1, (.bptr 2 [])), (4, (.ref 3 [] 0)), (2, (.bptr 4 []))] [.cell (.agg (.pr (.data (.int .i64) o0_2) (.pr (.ref 1 [] 0) .un))), .row (.arr 2 (.int .i64)) x.2 0, .cell (.data (.pair (.int .i64) (.pair (.sl false (.arr 2 (.int .i64))) .unit)) o2_1), .row (.int .i64) o3_1 0, .cell (.agg (.pr (.data (.int .i64) o4) (.pr .nilS .un)))]) (kLoop (x38 N) 11 ⟨[8, 6, 1, 4, 2], [(6, some [.snd, .fst], .row (.arr 2 (.int .i64)))]⟩ kb k) = f38_L11 N o0_2 o2_1 o3_1 o4 (fun y => kb [(8, (.data (.int .i64) y.1)), (6, (.bptr 0 [])), (1, (.bptr 2 [])), (4, (.ref 3 [] 0)), (2, (.bptr 4 []))] [.cell (.agg (.pr (.data (.int .i64) o0_2) (.pr (.ref 1 [] 0) .un))), .row (.arr 2 (.int .i64)) y.2 0, .cell (.data (.pair (.int .i64) (.pair (.sl false (.arr 2 (.int .i64))) .unit)) o2_1), .row (.int .i64) o3_1 0, .cell (.agg (.pr (.data (.int .i64) o4) (.pr .nilS .un)))])
    (fun y2 => k (.exit 2) (St.of [(2, (.bptr 0 [])), (6, (.bptr 1 []))] [.cell (.agg (.pr (.data (.int .i64) o4) (.pr .nilS .un))), .cell (.agg (.pr (.data (.int .i64) o0_2) (.pr (.ref 2 [] 0) .un))), .row (.arr 2 (.int .i64)) y2 0])) x := by kernel_rfl
theorem l38_11 (N : Nat) : LoopOK (x38 N) (loopAt 11 (loopsOf b38)) :=
  loop_mk (G38_11 N) (by kernel_rfl) (by kernel_rfl) (by kernel_rfl) fun R k d =>
    loop_eq (st := fun (x : Int × List (List Int)) => ([(8, (.data (.int .i64) x.1)), (6, (.bptr 0 [])), (1, (.bptr 2 [])), (4, (.ref 3 [] 0)), (2, (.bptr 4 []))], [.cell (.agg (.pr (.data (.int .i64) d.2.1.1) (.pr (.ref 1 [] 0) .un))), .row (.arr 2 (.int .i64)) x.2 0, .cell (.data (.pair (.int .i64) (.pair (.sl false (.arr 2 (.int .i64))) .unit)) d.2.2.2.1), .row (.int .i64) d.2.2.2.2.1 0, .cell (.agg (.pr (.data (.int .i64) d.2.2.2.2.2.1.1) (.pr .nilS .un)))])) (s38_11 N k d.2.1.1 d.2.2.2.1 d.2.2.2.2.1 d.2.2.2.2.2.1.1) N (d.1.1, d.2.2.1)
theorem e38 (N : Nat) (a0 : (Int × (List (List Int) × Unit))) : bodyK (x38 N) [(.pair (.int .i64) (.pair (.sl false (.arr 2 (.int .i64))) .unit)), (.int .i64)] [.cell 2 24, .tmp 3] b38 (entry (.pr (.val (.pair (.int .i64) (.pair (.sl false (.arr 2 (.int .i64))) .unit))) .un) (a0, ())) = f38 N a0 := by kernel_rfl
theorem k38 (N : Nat) : CalleeOK Go.Proofs.Try.prog 38 (c38 N) :=
  fn_ok (fn := Go.Proofs.Try.f38) (body := b38) (c := x38 N) Go.Proofs.Try.func38 (by kernel_rfl) (by kernel_rfl) ⟨ttL_ok, mtL_ok, eqL_ok, ctL_ok, msL_ok, env_cons (forall_mem1 (k21 N)) (env_cons (forall_mem1 (k25 N)) (env_nil))⟩ mixed (by kernel_rfl) (Nat.le_of_ble_eq_true (by kernel_rfl)) (by kernel_rfl) (by decide)
    (loops_ok (by kernel_rfl : loopsOf b38 = [loopAt 6 (loopsOf b38), loopAt 11 (loopsOf b38)]) (.cons (l38_6 N) (.cons (l38_11 N) .nil))) fun d => e38 N d.1
def f12_L23 {R : Type} (N : Nat) (t15 : Int) (t13_1 : List (List Bool)) (t11_1 : List (List Bool)) (t77_1 : Int) (t78_1 : Int) (t93 : Int) (o0_1 : List Int) (o1_1 : (Int × (List (List Int) × Unit))) (kb : Int → Option R) (kret : Bool → Option R) (kx2 : Unit → Option R) : Int → Option R :=
  fun t94 =>
    cond (decide (t94 < t93))
      ((idx t11_1 t15).bind fun x_2 =>
      (idx x_2 t94).bind fun x_3 =>
      chk (inb o0_1 t15) <|
      (idx o0_1 t15).bind fun x_4 =>
      (idx t13_1 x_4).bind fun x_5 =>
      chk (inb o0_1 t94) <|
      (idx o0_1 t94).bind fun x_6 =>
      (idx x_5 x_6).bind fun x_7 =>
      cond (!(decide (x_3 = x_7)))
        (kret false)
        (kb (wi64 (t94 + 1))))
      (kx2 ())
def f12_L18 {R : Type} (N : Nat) (t13 : List (List Bool)) (t11 : List (List Bool)) (t77 : Int) (o0 : List Int) (o1 : (Int × (List (List Int) × Unit))) (kb : Int → Option R) (kret : Bool → Option R) (kx0 : Unit → Option R) : Int → Option R :=
  fun t78 =>
    cond (decide (t78 < t77))
      (chk (inb o0 t78) <|
      (idx o0 t78).bind fun x =>
      (idx t13 x).bind fun x_1 =>
      cond (!(decide ((len x_1) = o1.1)))
        (kret false)
        (iter (fun w => f12_L23 N t78 t13 t11 t77 t78 (len o0) o0 o1 w
          (fun t2 =>
            kret t2)
          (fun (_ : Unit) =>
            kb (wi64 (t78 + 1)))) N 0))
      (kx0 ())
def f12 (N : Nat) (a0 : (Int × (List (List Int) × Unit))) : Option (Bool) :=
  (f13 N).bind fun r =>
  cond (!r)
    (some false)
    ((f14 N a0).bind fun r_1 =>
    cond (!r_1)
      (some true)
      ((f37 N a0).bind fun r_2 =>
      (f38 N a0).bind fun r_3 =>
      (cond (!(decide (r_2.2 = r_3.2)))
          (some true)
          ((f28 N (r_2.1.1, r_2.1.2) (r_3.1.1, r_3.1.2)).bind fun r_4 =>
          some (!r_4))).bind fun b =>
      cond b
        (some false)
        (cond (!(decide (r_2.2 = 0)))
          (some true)
          ((f18 N (r_2.1.1, r_2.1.2)).bind fun r_5 =>
          (f21 N a0).bind fun r_6 =>
          (f32 N a0).bind fun r_7 =>
          (f31 N (r_2.1.1, r_2.1.2)).bind fun r_8 =>
          (cond (!(decide (r_5.2 = 0)))
              (some true)
              (some (!(decide (r_8.2 = 0))))).bind fun b_1 =>
          (cond b_1
              (some true)
              (some (!(decide ((len r_8.1) = r_3.1.1))))).bind fun b_2 =>
          cond b_2
            (some false)
            (iter (fun w => f12_L18 N r_8.1 r_7.1 (len r_6.1) r_6.1 (r_3.1.1, r_3.1.2) w
              (fun t2_1 =>
                some t2_1)
              (fun (_ : Unit) =>
                some true)) N 0)))))
def c12 (N : Nat) : Callee := .pure (.pr (.val (.pair (.int .i64) (.pair (.sl false (.arr 2 (.int .i64))) .unit))) .un) [.bool] fun d => f12 N d.1
def F12_23 : SForm := ⟨[(94, (.val (.int .i64))), (9, (.ref 0)), (15, (.val (.int .i64))), (13, (.val (.sl false (.sl false .bool)))), (11, (.val (.sl false (.sl false .bool)))), (5, (.bptr 1 [])), (77, (.val (.int .i64))), (78, (.val (.int .i64))), (93, (.val (.int .i64)))], [.row (.int .i64), .cell (.val (.pair (.int .i64) (.pair (.sl false (.arr 2 (.int .i64))) .unit)))]⟩
def G12_23 (N : Nat) : (R : Type) → F12_23.den → (AExit → St → Option R) → Option R := fun R d k => iter (fun kb => f12_L23 N d.1.2.2.1 d.1.2.2.2.1 d.1.2.2.2.2.1 d.1.2.2.2.2.2.2.1 d.1.2.2.2.2.2.2.2.1 d.1.2.2.2.2.2.2.2.2.1 d.2.1 d.2.2.1 kb
    (fun y0 => k .ret (St.of [(2, (.data .bool y0))] []))
    (fun _ => k (.exit 2) (St.of [(9, (.ref 0 [] 0)), (13, (.data (.sl false (.sl false .bool)) d.1.2.2.2.1)), (11, (.data (.sl false (.sl false .bool)) d.1.2.2.2.2.1)), (5, (.bptr 1 [])), (77, (.data (.int .i64) d.1.2.2.2.2.2.2.1)), (78, (.data (.int .i64) d.1.2.2.2.2.2.2.2.1))] [.row (.int .i64) d.2.1 0, .cell (.data (.pair (.int .i64) (.pair (.sl false (.arr 2 (.int .i64))) .unit)) d.2.2.1)]))) N d.1.1
def F12_18 : SForm := ⟨[(9, (.ref 0)), (13, (.val (.sl false (.sl false .bool)))), (11, (.val (.sl false (.sl false .bool)))), (78, (.val (.int .i64))), (5, (.bptr 1 [])), (77, (.val (.int .i64)))], [.row (.int .i64), .cell (.val (.pair (.int .i64) (.pair (.sl false (.arr 2 (.int .i64))) .unit)))]⟩
def G12_18 (N : Nat) : (R : Type) → F12_18.den → (AExit → St → Option R) → Option R := fun R d k => iter (fun kb => f12_L18 N d.1.2.1 d.1.2.2.1 d.1.2.2.2.2.2.1 d.2.1 d.2.2.1 kb
    (fun y0 => k .ret (St.of [(2, (.data .bool y0))] []))
    (fun _ => k (.exit 0) (St.of [] []))) N d.1.2.2.2.1
def lp12 (N : Nat) : Nat → Option LoopFn := fun r => cond (Nat.beq r 23) (some fun R sl os k => F12_23.take sl os fun d => G12_23 N R d k) (cond (Nat.beq r 18) (some fun R sl os k => F12_18.take sl os fun d => G12_18 N R d k) (none))
def x12 (N : Nat) : Ctx := { fuel := N, tt := getL ttL, mt := getL mtL, ntmps := 120, env := fun f => (getL [(13, [c13 N]), (14, [c14 N]), (37, [c37 N]), (38, [c38 N]), (28, [c28 N]), (18, [c18 N]), (21, [c21 N]), (32, [c32 N]), (31, [c31 N])] f).getD [], cut := getL [(18, ⟨[9, 13, 11, 78, 5, 77], []⟩), (23, ⟨[94, 9, 15, 13, 11, 5, 77, 78, 93], []⟩)], exits := fun r => getL ((getL [(18, [(0, ⟨[], []⟩)]), (23, [(2, ⟨[9, 13, 11, 5, 77, 78], []⟩)])] r).getD []), res := ⟨[2], []⟩, own := fun _ => none, lp := lp12 N, eqs := fun T => memN T eqL, ct := fun T => memN T ctL, ms := getMs msL }
noncomputable def b12 : Code := ((Go.Proofs.Try.f12).body).getD .skip
theorem s12_23 (N : Nat) {R : Type} (k : AExit → St → Option R) (t15 : Int) (t13_1 : List (List Bool)) (t11_1 : List (List Bool)) (t77_1 : Int) (t78_1 : Int) (t93 : Int) (o0_1 : List Int) (o1_1 : (Int × (List (List Int) × Unit))) (kb : List (Nat × AVal) → List Obj → Option R) (x : Int) : codeK (x12 N) (loopAt 23 (loopsOf b12)) (St.of [(94, (.data (.int .i64) x)), (9, (.ref 0 [] 0)), (15, (.data (.int .i64) t15)), (13, (.data (.sl false (.sl false .bool)) t13_1)), (11, (.data (.sl false (.sl false .bool)) t11_1)), (5, (.bptr 1 [])), (77, (.data (.int .i64) t77_1)), (78, (.data (.int .i64) t78_1)), (93, (.data (.int .i64) t93))] [.row (.int .i64) o0_1 0, .cell (.data (.pair (.int .i64) (.pair (.sl false (.arr 2 (.int .i64))) .unit)) o1_1)]) (kLoop (x12 N) 23 ⟨[94, 9, 15, 13, 11, 5, 77, 78, 93], []⟩ kb k) = f12_L23 N t15 t13_1 t11_1 t77_1 t78_1 t93 o0_1 o1_1 (fun y => kb [(94, (.data (.int .i64) y)), (9, (.ref 0 [] 0)), (15, (.data (.int .i64) t15)), (13, (.data (.sl false (.sl false .bool)) t13_1)), (11, (.data (.sl false (.sl false .bool)) t11_1)), (5, (.bptr 1 [])), (77, (.data (.int .i64) t77_1)), (78, (.data (.int .i64) t78_1)), (93, (.data (.int .i64) t93))] [.row (.int .i64) o0_1 0, .cell (.data (.pair (.int .i64) (.pair (.sl false (.arr 2 (.int .i64))) .unit)) o1_1)])
    (fun y0 => k .ret (St.of [(2, (.data .bool y0))] []))
    (fun _ => k (.exit 2) (St.of [(9, (.ref 0 [] 0)), (13, (.data (.sl false (.sl false .bool)) t13_1)), (11, (.data (.sl false (.sl false .bool)) t11_1)), (5, (.bptr 1 [])), (77, (.data (.int .i64) t77_1)), (78, (.data (.int .i64) t78_1))] [.row (.int .i64) o0_1 0, .cell (.data (.pair (.int .i64) (.pair (.sl false (.arr 2 (.int .i64))) .unit)) o1_1)])) x := by kernel_rfl
theorem l12_23 (N : Nat) : LoopOK (x12 N) (loopAt 23 (loopsOf b12)) :=
  loop_mk (G12_23 N) (by kernel_rfl) (by kernel_rfl) (by kernel_rfl) fun R k d =>
    loop_eq (st := fun (x : Int) => ([(94, (.data (.int .i64) x)), (9, (.ref 0 [] 0)), (15, (.data (.int .i64) d.1.2.2.1)), (13, (.data (.sl false (.sl false .bool)) d.1.2.2.2.1)), (11, (.data (.sl false (.sl false .bool)) d.1.2.2.2.2.1)), (5, (.bptr 1 [])), (77, (.data (.int .i64) d.1.2.2.2.2.2.2.1)), (78, (.data (.int .i64) d.1.2.2.2.2.2.2.2.1)), (93, (.data (.int .i64) d.1.2.2.2.2.2.2.2.2.1))], [.row (.int .i64) d.2.1 0, .cell (.data (.pair (.int .i64) (.pair (.sl false (.arr 2 (.int .i64))) .unit)) d.2.2.1)])) (s12_23 N k d.1.2.2.1 d.1.2.2.2.1 d.1.2.2.2.2.1 d.1.2.2.2.2.2.2.1 d.1.2.2.2.2.2.2.2.1 d.1.2.2.2.2.2.2.2.2.1 d.2.1 d.2.2.1) N d.1.1
theorem s12_18 (N : Nat) {R : Type} (k : AExit → St → Option R) (t13 : List (List Bool)) (t11 : List (List Bool)) (t77 : Int) (o0 : List Int) (o1 : (Int × (List (List Int) × Unit))) (kb : List (Nat × AVal) → List Obj → Option R) (x : Int) : codeK (x12 N) (loopAt 18 (loopsOf b12)) (St.of [(9, (.ref 0 [] 0)), (13, (.data (.sl false (.sl false .bool)) t13)), (11, (.data (.sl false (.sl false .bool)) t11)), (78, (.data (.int .i64) x)), (5, (.bptr 1 [])), (77, (.data (.int .i64) t77))] [.row (.int .i64) o0 0, .cell (.data (.pair (.int .i64) (.pair (.sl false (.arr 2 (.int .i64))) .unit)) o1)]) (kLoop (x12 N) 18 ⟨[9, 13, 11, 78, 5, 77], []⟩ kb k) = f12_L18 N t13 t11 t77 o0 o1 (fun y => kb [(9, (.ref 0 [] 0)), (13, (.data (.sl false (.sl false .bool)) t13)), (11, (.data (.sl false (.sl false .bool)) t11)), (78, (.data (.int .i64) y)), (5, (.bptr 1 [])), (77, (.data (.int .i64) t77))] [.row (.int .i64) o0 0, .cell (.data (.pair (.int .i64) (.pair (.sl false (.arr 2 (.int .i64))) .unit)) o1)])
    (fun y0 => k .ret (St.of [(2, (.data .bool y0))] []))
    (fun _ => k (.exit 0) (St.of [] [])) x := by kernel_rfl
theorem l12_18 (N : Nat) : LoopOK (x12 N) (loopAt 18 (loopsOf b12)) :=
  loop_mk (G12_18 N) (by kernel_rfl) (by kernel_rfl) (by kernel_rfl) fun R k d =>
    loop_eq (st := fun (x : Int) => ([(9, (.ref 0 [] 0)), (13, (.data (.sl false (.sl false .bool)) d.1.2.1)), (11, (.data (.sl false (.sl false .bool)) d.1.2.2.1)), (78, (.data (.int .i64) x)), (5, (.bptr 1 [])), (77, (.data (.int .i64) d.1.2.2.2.2.2.1))], [.row (.int .i64) d.2.1 0, .cell (.data (.pair (.int .i64) (.pair (.sl false (.arr 2 (.int .i64))) .unit)) d.2.2.1)])) (s12_18 N k d.1.2.1 d.1.2.2.1 d.1.2.2.2.2.2.1 d.2.1 d.2.2.1) N d.1.2.2.2.1
theorem e12 (N : Nat) (a0 : (Int × (List (List Int) × Unit))) : bodyK (x12 N) [.bool] [.tmp 2] b12 (entry (.pr (.val (.pair (.int .i64) (.pair (.sl false (.arr 2 (.int .i64))) .unit))) .un) (a0, ())) = f12 N a0 := by kernel_rfl
theorem k12 (N : Nat) : CalleeOK Go.Proofs.Try.prog 12 (c12 N) :=
  fn_ok (fn := Go.Proofs.Try.f12) (body := b12) (c := x12 N) Go.Proofs.Try.func12 (by kernel_rfl) (by kernel_rfl) ⟨ttL_ok, mtL_ok, eqL_ok, ctL_ok, msL_ok, env_cons (forall_mem1 (k13 N)) (env_cons (forall_mem1 (k14 N)) (env_cons (forall_mem1 (k37 N)) (env_cons (forall_mem1 (k38 N)) (env_cons (forall_mem1 (k28 N)) (env_cons (forall_mem1 (k18 N)) (env_cons (forall_mem1 (k21 N)) (env_cons (forall_mem1 (k32 N)) (env_cons (forall_mem1 (k31 N)) (env_nil)))))))))⟩ mixed (by kernel_rfl) (Nat.le_of_ble_eq_true (by kernel_rfl)) (by kernel_rfl) (by decide)
    (loops_ok (by kernel_rfl : loopsOf b12 = [loopAt 18 (loopsOf b12), loopAt 23 (loopsOf b12)]) (.cons (l12_18 N) (.cons (l12_23 N) .nil))) fun d => e12 N d.1

end
end Go.Kz
