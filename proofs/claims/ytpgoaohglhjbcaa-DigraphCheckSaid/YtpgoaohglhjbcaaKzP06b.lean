/-
  The functions of the program as plain functions on lists and numbers, and the proofs that the program computes them. Printed by a program.
-/
import Derived.Test.YtpgoaohglhjbcaaKzP06
set_option linter.unusedSimpArgs false
set_option maxRecDepth 100000
set_option linter.unusedVariables false
namespace Go.Kz
open Go.Proofs
noncomputable section

def f16_L15 {R : Type} (N : Nat) (t14_1 : Int) (t2_1 : Int) (o0_1 : List Int) (o1_1 : (Int × (List (List Int) × Unit))) (o2_1 : List Int) (kb : Int × Int → Option R) (kx2 : Int → Option R) : Int × Int → Option R :=
  fun (t16, t15) =>
    cond (decide (t16 < o1_1.1))
      ((cond (decide (t15 < 0))
          ((f45 N o1_1 t14_1 t16).bind fun r_5 =>
          some r_5)
          (some false)).bind fun b_1 =>
      (cond b_1
          (chk (inb o0_1 t16) <|
          (idx o0_1 t16).bind fun x_1 =>
          chk (inb o0_1 t14_1) <|
          (idx o0_1 t14_1).bind fun x_2 =>
          some (decide (x_1 = (wi64 (x_2 - 1)))))
          (some false)).bind fun b_2 =>
      cond b_2
        (kb ((wi64 (t16 + 1)), t16))
        (kb ((wi64 (t16 + 1)), t15)))
      (kx2 t15)
def f16_L12 {R : Type} (N : Nat) (t2 : Int) (o0 : List Int) (o1 : (Int × (List (List Int) × Unit))) (kb : Int × List Int → Option R) (kx0 : (List Int) → Option R) : Int × List Int → Option R :=
  fun (t14, o2) =>
    cond (!(decide (t14 = t2)))
      (iter (fun w => f16_L15 N t14 t2 o0 o1 o2 w
        (fun t15_1 =>
          chk (decide ((Nat.succ (List.length o2)) ≤ room)) <|
          kb (t15_1, (o2 ++ (t15_1 :: ([] : List Int)))))) N (0, (-1)))
      (kx0 o2)
def f16 (N : Nat) (a0 : (Int × (List (List Int) × Unit))) (a1 : Int) (a2 : Int) : Option (List Int × Int) :=
  (f22 N a0).bind fun r =>
  cond (!(decide (r = 0)))
    (some (([] : List Int), r))
    ((f43 N a0 a1).bind fun r_1 =>
    (cond (!r_1)
        (some true)
        ((f43 N a0 a2).bind fun r_2 =>
        some (!r_2))).bind fun b =>
    cond b
      (some (([] : List Int), 3))
      ((f27 N a0).bind fun r_3 =>
      (f44 N (r_3.1.1, r_3.1.2) (a2 :: ([] : List Int))).bind fun r_4 =>
      chk (inb r_4.1 a1) <|
      (idx r_4.1 a1).bind fun x =>
      cond (decide (x < 0))
        (some (([] : List Int), 11))
        (iter (fun w => f16_L12 N a2 r_4.1 a0 w
          (fun o0_2 =>
            some (o0_2, 0))) N (a1, (a1 :: ([] : List Int))))))
def c16 (N : Nat) : Callee := .pure (.pr (.val (.pair (.int .i64) (.pair (.sl false (.arr 2 (.int .i64))) .unit))) (.pr (.val (.int .i64)) (.pr (.val (.int .i64)) .un))) [(.sl true (.int .i64)), (.int .i64)] fun d => f16 N d.1 d.2.1 d.2.2.1
def F16_15 : SForm := ⟨[(16, (.val (.int .i64))), (14, (.val (.int .i64))), (11, (.ref 0)), (3, (.bptr 1 [])), (15, (.val (.int .i64))), (2, (.val (.int .i64))), (13, (.ref 2))], [.row (.int .i64), .cell (.val (.pair (.int .i64) (.pair (.sl false (.arr 2 (.int .i64))) .unit))), .row (.int .i64)]⟩
def G16_15 (N : Nat) : (R : Type) → F16_15.den → (AExit → St → Option R) → Option R := fun R d k => iter (fun kb => f16_L15 N d.1.2.1 d.1.2.2.2.2.2.1 d.2.1 d.2.2.1 d.2.2.2.1 kb
    (fun y1 => k (.exit 2) (St.of [(11, (.ref 0 [] 0)), (3, (.bptr 1 [])), (2, (.data (.int .i64) d.1.2.2.2.2.2.1)), (13, (.ref 2 [] 0)), (15, (.data (.int .i64) y1))] [.row (.int .i64) d.2.1 0, .cell (.data (.pair (.int .i64) (.pair (.sl false (.arr 2 (.int .i64))) .unit)) d.2.2.1), .row (.int .i64) d.2.2.2.1 0]))) N (d.1.1, d.1.2.2.2.2.1)
def F16_12 : SForm := ⟨[(14, (.val (.int .i64))), (11, (.ref 0)), (3, (.bptr 1 [])), (13, (.ref 2)), (2, (.val (.int .i64)))], [.row (.int .i64), .cell (.val (.pair (.int .i64) (.pair (.sl false (.arr 2 (.int .i64))) .unit))), .row (.int .i64)]⟩
def G16_12 (N : Nat) : (R : Type) → F16_12.den → (AExit → St → Option R) → Option R := fun R d k => iter (fun kb => f16_L12 N d.1.2.2.2.2.1 d.2.1 d.2.2.1 kb
    (fun y0 => k (.exit 0) (St.of [(13, (.ref 0 [] 0))] [.row (.int .i64) y0 0]))) N (d.1.1, d.2.2.2.1)
def lp16 (N : Nat) : Nat → Option LoopFn := fun r => cond (Nat.beq r 15) (some fun R sl os k => F16_15.take sl os fun d => G16_15 N R d k) (cond (Nat.beq r 12) (some fun R sl os k => F16_12.take sl os fun d => G16_12 N R d k) (none))
def x16 (N : Nat) : Ctx := { fuel := N, tt := getL ttL, mt := getL mtL, ntmps := 88, env := fun f => (getL [(22, [c22 N]), (43, [c43 N]), (27, [c27 N]), (44, [c44 N]), (45, [c45 N])] f).getD [], cut := getL [(12, ⟨[14, 11, 3, 13, 2], []⟩), (15, ⟨[16, 14, 11, 3, 15, 2, 13], []⟩)], exits := fun r => getL ((getL [(12, [(0, ⟨[13], []⟩)]), (15, [(2, ⟨[11, 3, 2, 13, 15], []⟩)])] r).getD []), res := ⟨[6, 7], []⟩, own := fun _ => none, lp := lp16 N, eqs := fun T => memN T eqL, ct := fun T => memN T ctL, ms := getMs msL }
noncomputable def b16 : Code := ((Go.Proofs.Try.f16).body).getD .skip
theorem s16_15 (N : Nat) {R : Type} (k : AExit → St → Option R) (t14_1 : Int) (t2_1 : Int) (o0_1 : List Int) (o1_1 : (Int × (List (List Int) × Unit))) (o2_1 : List Int) (kb : List (Nat × AVal) → List Obj → Option R) (x : Int × Int) : codeK (x16 N) (loopAt 15 (loopsOf b16)) (St.of [(16, (.data (.int .i64) x.1)), (14, (.data (.int .i64) t14_1)), (11, (.ref 0 [] 0)), (3, (.bptr 1 [])), (15, (.data (.int .i64) x.2)), (2, (.data (.int .i64) t2_1)), (13, (.ref 2 [] 0))] [.row (.int .i64) o0_1 0, .cell (.data (.pair (.int .i64) (.pair (.sl false (.arr 2 (.int .i64))) .unit)) o1_1), .row (.int .i64) o2_1 0]) (kLoop (x16 N) 15 ⟨[16, 14, 11, 3, 15, 2, 13], []⟩ kb k) = f16_L15 N t14_1 t2_1 o0_1 o1_1 o2_1 (fun y => kb [(16, (.data (.int .i64) y.1)), (14, (.data (.int .i64) t14_1)), (11, (.ref 0 [] 0)), (3, (.bptr 1 [])), (15, (.data (.int .i64) y.2)), (2, (.data (.int .i64) t2_1)), (13, (.ref 2 [] 0))] [.row (.int .i64) o0_1 0, .cell (.data (.pair (.int .i64) (.pair (.sl false (.arr 2 (.int .i64))) .unit)) o1_1), .row (.int .i64) o2_1 0])
    (fun y1 => k (.exit 2) (St.of [(11, (.ref 0 [] 0)), (3, (.bptr 1 [])), (2, (.data (.int .i64) t2_1)), (13, (.ref 2 [] 0)), (15, (.data (.int .i64) y1))] [.row (.int .i64) o0_1 0, .cell (.data (.pair (.int .i64) (.pair (.sl false (.arr 2 (.int .i64))) .unit)) o1_1), .row (.int .i64) o2_1 0])) x := by kernel_rfl
theorem l16_15 (N : Nat) : LoopOK (x16 N) (loopAt 15 (loopsOf b16)) :=
  loop_mk (G16_15 N) (by kernel_rfl) (by kernel_rfl) (by kernel_rfl) fun R k d =>
    loop_eq (st := fun (x : Int × Int) => ([(16, (.data (.int .i64) x.1)), (14, (.data (.int .i64) d.1.2.1)), (11, (.ref 0 [] 0)), (3, (.bptr 1 [])), (15, (.data (.int .i64) x.2)), (2, (.data (.int .i64) d.1.2.2.2.2.2.1)), (13, (.ref 2 [] 0))], [.row (.int .i64) d.2.1 0, .cell (.data (.pair (.int .i64) (.pair (.sl false (.arr 2 (.int .i64))) .unit)) d.2.2.1), .row (.int .i64) d.2.2.2.1 0])) (s16_15 N k d.1.2.1 d.1.2.2.2.2.2.1 d.2.1 d.2.2.1 d.2.2.2.1) N (d.1.1, d.1.2.2.2.2.1)
theorem s16_12 (N : Nat) {R : Type} (k : AExit → St → Option R) (t2 : Int) (o0 : List Int) (o1 : (Int × (List (List Int) × Unit))) (kb : List (Nat × AVal) → List Obj → Option R) (x : Int × List Int) : codeK (x16 N) (loopAt 12 (loopsOf b16)) (St.of [(14, (.data (.int .i64) x.1)), (11, (.ref 0 [] 0)), (3, (.bptr 1 [])), (13, (.ref 2 [] 0)), (2, (.data (.int .i64) t2))] [.row (.int .i64) o0 0, .cell (.data (.pair (.int .i64) (.pair (.sl false (.arr 2 (.int .i64))) .unit)) o1), .row (.int .i64) x.2 0]) (kLoop (x16 N) 12 ⟨[14, 11, 3, 13, 2], []⟩ kb k) = f16_L12 N t2 o0 o1 (fun y => kb [(14, (.data (.int .i64) y.1)), (11, (.ref 0 [] 0)), (3, (.bptr 1 [])), (13, (.ref 2 [] 0)), (2, (.data (.int .i64) t2))] [.row (.int .i64) o0 0, .cell (.data (.pair (.int .i64) (.pair (.sl false (.arr 2 (.int .i64))) .unit)) o1), .row (.int .i64) y.2 0])
    (fun y0 => k (.exit 0) (St.of [(13, (.ref 0 [] 0))] [.row (.int .i64) y0 0])) x := by kernel_rfl
theorem l16_12 (N : Nat) : LoopOK (x16 N) (loopAt 12 (loopsOf b16)) :=
  loop_mk (G16_12 N) (by kernel_rfl) (by kernel_rfl) (by kernel_rfl) fun R k d =>
    loop_eq (st := fun (x : Int × List Int) => ([(14, (.data (.int .i64) x.1)), (11, (.ref 0 [] 0)), (3, (.bptr 1 [])), (13, (.ref 2 [] 0)), (2, (.data (.int .i64) d.1.2.2.2.2.1))], [.row (.int .i64) d.2.1 0, .cell (.data (.pair (.int .i64) (.pair (.sl false (.arr 2 (.int .i64))) .unit)) d.2.2.1), .row (.int .i64) x.2 0])) (s16_12 N k d.1.2.2.2.2.1 d.2.1 d.2.2.1) N (d.1.1, d.2.2.2.1)
theorem e16 (N : Nat) (a0 : (Int × (List (List Int) × Unit))) (a1 : Int) (a2 : Int) : bodyK (x16 N) [(.sl true (.int .i64)), (.int .i64)] [.tmp 6, .tmp 7] b16 (entry (.pr (.val (.pair (.int .i64) (.pair (.sl false (.arr 2 (.int .i64))) .unit))) (.pr (.val (.int .i64)) (.pr (.val (.int .i64)) .un))) (a0, (a1, (a2, ())))) = f16 N a0 a1 a2 := by kernel_rfl
theorem k16 (N : Nat) : CalleeOK Go.Proofs.Try.prog 16 (c16 N) :=
  fn_ok (fn := Go.Proofs.Try.f16) (body := b16) (c := x16 N) Go.Proofs.Try.func16 (by kernel_rfl) (by kernel_rfl) ⟨ttL_ok, mtL_ok, eqL_ok, ctL_ok, msL_ok, env_cons (forall_mem1 (k22 N)) (env_cons (forall_mem1 (k43 N)) (env_cons (forall_mem1 (k27 N)) (env_cons (forall_mem1 (k44 N)) (env_cons (forall_mem1 (k45 N)) (env_nil)))))⟩ mixed (by kernel_rfl) (Nat.le_of_ble_eq_true (by kernel_rfl)) (by kernel_rfl) (by decide)
    (loops_ok (by kernel_rfl : loopsOf b16 = [loopAt 12 (loopsOf b16), loopAt 15 (loopsOf b16)]) (.cons (l16_12 N) (.cons (l16_15 N) .nil))) fun d => e16 N d.1 d.2.1 d.2.2.1
def f3 (N : Nat) (a0 : (Int × (List (List Int) × Unit))) (a1 : Int) (a2 : Int) : Option (Bool) :=
  (f13 N).bind fun r =>
  cond (!r)
    (some false)
    ((f14 N a0).bind fun r_1 =>
    cond (!r_1)
      (some true)
      ((f15 N a0 a1 a2).bind fun r_2 =>
      (f16 N a0 a1 a2).bind fun r_3 =>
      (cond (decide (r_2.2 = r_3.2))
          ((f17 N r_2.1 r_3.1).bind fun r_4 =>
          some r_4)
          (some false)).bind fun b =>
      some b))
def c3 (N : Nat) : Callee := .pure (.pr (.val (.pair (.int .i64) (.pair (.sl false (.arr 2 (.int .i64))) .unit))) (.pr (.val (.int .i64)) (.pr (.val (.int .i64)) .un))) [.bool] fun d => f3 N d.1 d.2.1 d.2.2.1
def lp3 (N : Nat) : Nat → Option LoopFn := fun r => none
def x3 (N : Nat) : Ctx := { fuel := N, tt := getL ttL, mt := getL mtL, ntmps := 38, env := fun f => (getL [(13, [c13 N]), (14, [c14 N]), (15, [c15 N]), (16, [c16 N]), (17, [c17 N])] f).getD [], cut := getL [], exits := fun r => getL ((getL [] r).getD []), res := ⟨[6], []⟩, own := fun _ => none, lp := lp3 N, eqs := fun T => memN T eqL, ct := fun T => memN T ctL, ms := getMs msL }
noncomputable def b3 : Code := ((Go.Proofs.Try.f3).body).getD .skip
theorem e3 (N : Nat) (a0 : (Int × (List (List Int) × Unit))) (a1 : Int) (a2 : Int) : bodyK (x3 N) [.bool] [.tmp 6] b3 (entry (.pr (.val (.pair (.int .i64) (.pair (.sl false (.arr 2 (.int .i64))) .unit))) (.pr (.val (.int .i64)) (.pr (.val (.int .i64)) .un))) (a0, (a1, (a2, ())))) = f3 N a0 a1 a2 := by kernel_rfl
theorem k3 (N : Nat) : CalleeOK Go.Proofs.Try.prog 3 (c3 N) :=
  fn_ok (fn := Go.Proofs.Try.f3) (body := b3) (c := x3 N) Go.Proofs.Try.func3 (by kernel_rfl) (by kernel_rfl) ⟨ttL_ok, mtL_ok, eqL_ok, ctL_ok, msL_ok, env_cons (forall_mem1 (k13 N)) (env_cons (forall_mem1 (k14 N)) (env_cons (forall_mem1 (k15 N)) (env_cons (forall_mem1 (k16 N)) (env_cons (forall_mem1 (k17 N)) (env_nil)))))⟩ mixed (by kernel_rfl) (Nat.le_of_ble_eq_true (by kernel_rfl)) (by kernel_rfl) (by decide)
    (loops_ok (by kernel_rfl : loopsOf b3 = []) .nil) fun d => e3 N d.1 d.2.1 d.2.2.1
def f19_L13 {R : Type} (N : Nat) (t8_1 : Int) (t7_1 : Int) (o0_2 : (Int × (List (List Int) × Unit))) (o1_2 : List Bool) (o2_2 : List Int) (kb : Int × Bool → Option R) (kx4 : Bool → Option R) : Int × Bool → Option R :=
  fun (t10, t9) =>
    cond (decide (t10 < (len o0_2.2.1)))
      ((idx o0_2.2.1 t10).bind fun x_1 =>
      (idx x_1 1).bind fun x_2 =>
      (cond (decide (x_2 = t8_1))
          ((idx o0_2.2.1 t10).bind fun x_3 =>
          (idx x_3 0).bind fun x_4 =>
          chk (inb o1_2 x_4) <|
          (idx o1_2 x_4).bind fun x_5 =>
          some (!x_5))
          (some false)).bind fun b =>
      cond b
        (kb ((wi64 (t10 + 1)), false))
        (kb ((wi64 (t10 + 1)), t9)))
      (kx4 t9)
def f19_L9 {R : Type} (N : Nat) (o0_1 : (Int × (List (List Int) × Unit))) (o1_1 : List Bool) (o2_1 : List Int) (kb : Int × Int → Option R) (kx2 : Int → Option R) : Int × Int → Option R :=
  fun (t8, t7) =>
    cond (decide (t8 < o0_1.1))
      (chk (inb o1_1 t8) <|
      (idx o1_1 t8).bind fun x =>
      iter (fun w => f19_L13 N t8 t7 o0_1 o1_1 o2_1 w
        (fun t9_1 =>
          (cond t9_1
              (some (decide (t7 < 0)))
              (some false)).bind fun b_1 =>
          cond b_1
            (kb ((wi64 (t8 + 1)), t8))
            (kb ((wi64 (t8 + 1)), t7)))) N (0, (!x)))
      (kx2 t7)
def f19_L6 {R : Type} (N : Nat) (o0 : (Int × (List (List Int) × Unit))) (kb : List Bool × List Int → Option R) (kret : Int → Option R) (kx0 : (List Int) → Option R) : List Bool × List Int → Option R :=
  fun (o1, o2) =>
    cond (decide ((len o2) < o0.1))
      (iter (fun w => f19_L9 N o0 o1 o2 w
        (fun t7_2 =>
          cond (decide (t7_2 < 0))
            (kret 10)
            (chk (inb o1 t7_2) <|
            (idx o1 t7_2).bind fun x_6 =>
            (idx o1 t7_2).bind fun x_7 =>
            chk (decide ((Nat.succ (List.length o2)) ≤ room)) <|
            kb ((setI o1 t7_2 true), (o2 ++ (t7_2 :: ([] : List Int))))))) N (0, (-1)))
      (kx0 o2)
def f19 (N : Nat) (a0 : (Int × (List (List Int) × Unit))) : Option (List Int × Int) :=
  (f22 N a0).bind fun r =>
  cond (!(decide (r = 0)))
    (some (([] : List Int), r))
    (chk (((decide (0 ≤ a0.1)) && (decide (a0.1 ≤ a0.1))) && (decide (a0.1 ≤ ((room : Nat) : Int)))) <|
    iter (fun w => f19_L6 N a0 w
      (fun t3 =>
        some (([] : List Int), t3))
      (fun o0_3 =>
        some (o0_3, 0))) N ((List.replicate (Int.toNat a0.1) false : List Bool), ([] : List Int)))
def c19 (N : Nat) : Callee := .pure (.pr (.val (.pair (.int .i64) (.pair (.sl false (.arr 2 (.int .i64))) .unit))) .un) [(.sl true (.int .i64)), (.int .i64)] fun d => f19 N d.1
def F19_13 : SForm := ⟨[(10, (.val (.int .i64))), (1, (.bptr 0 [])), (6, (.ref 1)), (8, (.val (.int .i64))), (5, (.ref 2)), (7, (.val (.int .i64))), (9, (.val .bool))], [.cell (.val (.pair (.int .i64) (.pair (.sl false (.arr 2 (.int .i64))) .unit))), .row .bool, .row (.int .i64)]⟩
def G19_13 (N : Nat) : (R : Type) → F19_13.den → (AExit → St → Option R) → Option R := fun R d k => iter (fun kb => f19_L13 N d.1.2.2.2.1 d.1.2.2.2.2.2.1 d.2.1 d.2.2.1 d.2.2.2.1 kb
    (fun y2 => k (.exit 4) (St.of [(1, (.bptr 0 [])), (6, (.ref 1 [] 0)), (5, (.ref 2 [] 0)), (8, (.data (.int .i64) d.1.2.2.2.1)), (7, (.data (.int .i64) d.1.2.2.2.2.2.1)), (9, (.data .bool y2))] [.cell (.data (.pair (.int .i64) (.pair (.sl false (.arr 2 (.int .i64))) .unit)) d.2.1), .row .bool d.2.2.1 0, .row (.int .i64) d.2.2.2.1 0]))) N (d.1.1, d.1.2.2.2.2.2.2.1)
def F19_9 : SForm := ⟨[(1, (.bptr 0 [])), (6, (.ref 1)), (8, (.val (.int .i64))), (7, (.val (.int .i64))), (5, (.ref 2))], [.cell (.val (.pair (.int .i64) (.pair (.sl false (.arr 2 (.int .i64))) .unit))), .row .bool, .row (.int .i64)]⟩
def G19_9 (N : Nat) : (R : Type) → F19_9.den → (AExit → St → Option R) → Option R := fun R d k => iter (fun kb => f19_L9 N d.2.1 d.2.2.1 d.2.2.2.1 kb
    (fun y0 => k (.exit 2) (St.of [(1, (.bptr 0 [])), (6, (.ref 1 [] 0)), (7, (.data (.int .i64) y0)), (5, (.ref 2 [] 0))] [.cell (.data (.pair (.int .i64) (.pair (.sl false (.arr 2 (.int .i64))) .unit)) d.2.1), .row .bool d.2.2.1 0, .row (.int .i64) d.2.2.2.1 0]))) N (d.1.2.2.1, d.1.2.2.2.1)
def F19_6 : SForm := ⟨[(1, (.bptr 0 [])), (6, (.ref 1)), (5, (.ref 2))], [.cell (.val (.pair (.int .i64) (.pair (.sl false (.arr 2 (.int .i64))) .unit))), .row .bool, .row (.int .i64)]⟩
def G19_6 (N : Nat) : (R : Type) → F19_6.den → (AExit → St → Option R) → Option R := fun R d k => iter (fun kb => f19_L6 N d.2.1 kb
    (fun y0 => k .ret (St.of [(2, .nilS), (3, (.data (.int .i64) y0))] []))
    (fun y0 => k (.exit 0) (St.of [(5, (.ref 0 [] 0))] [.row (.int .i64) y0 0]))) N (d.2.2.1, d.2.2.2.1)
def lp19 (N : Nat) : Nat → Option LoopFn := fun r => cond (Nat.beq r 13) (some fun R sl os k => F19_13.take sl os fun d => G19_13 N R d k) (cond (Nat.beq r 9) (some fun R sl os k => F19_9.take sl os fun d => G19_9 N R d k) (cond (Nat.beq r 6) (some fun R sl os k => F19_6.take sl os fun d => G19_6 N R d k) (none)))
def x19 (N : Nat) : Ctx := { fuel := N, tt := getL ttL, mt := getL mtL, ntmps := 79, env := fun f => (getL [(22, [c22 N])] f).getD [], cut := getL [(6, ⟨[1, 6, 5], []⟩), (9, ⟨[1, 6, 8, 7, 5], []⟩), (13, ⟨[10, 1, 6, 8, 5, 7, 9], []⟩)], exits := fun r => getL ((getL [(6, [(0, ⟨[5], []⟩)]), (9, [(2, ⟨[1, 6, 7, 5], []⟩)]), (13, [(4, ⟨[1, 6, 5, 8, 7, 9], []⟩)])] r).getD []), res := ⟨[2, 3], []⟩, own := fun _ => none, lp := lp19 N, eqs := fun T => memN T eqL, ct := fun T => memN T ctL, ms := getMs msL }
noncomputable def b19 : Code := ((Go.Proofs.Try.f19).body).getD .skip
theorem s19_13 (N : Nat) {R : Type} (k : AExit → St → Option R) (t8_1 : Int) (t7_1 : Int) (o0_2 : (Int × (List (List Int) × Unit))) (o1_2 : List Bool) (o2_2 : List Int) (kb : List (Nat × AVal) → List Obj → Option R) (x : Int × Bool) : codeK (x19 N) (loopAt 13 (loopsOf b19)) (St.of [(10, (.data (.int .i64) x.1)), (1, (.bptr 0 [])), (6, (.ref 1 [] 0)), (8, (.data (.int .i64) t8_1)), (5, (.ref 2 [] 0)), (7, (.data (.int .i64) t7_1)), (9, (.data .bool x.2))] [.cell (.data (.pair (.int .i64) (.pair (.sl false (.arr 2 (.int .i64))) .unit)) o0_2), .row .bool o1_2 0, .row (.int .i64) o2_2 0]) (kLoop (x19 N) 13 ⟨[10, 1, 6, 8, 5, 7, 9], []⟩ kb k) = f19_L13 N t8_1 t7_1 o0_2 o1_2 o2_2 (fun y => kb [(10, (.data (.int .i64) y.1)), (1, (.bptr 0 [])), (6, (.ref 1 [] 0)), (8, (.data (.int .i64) t8_1)), (5, (.ref 2 [] 0)), (7, (.data (.int .i64) t7_1)), (9, (.data .bool y.2))] [.cell (.data (.pair (.int .i64) (.pair (.sl false (.arr 2 (.int .i64))) .unit)) o0_2), .row .bool o1_2 0, .row (.int .i64) o2_2 0])
    (fun y2 => k (.exit 4) (St.of [(1, (.bptr 0 [])), (6, (.ref 1 [] 0)), (5, (.ref 2 [] 0)), (8, (.data (.int .i64) t8_1)), (7, (.data (.int .i64) t7_1)), (9, (.data .bool y2))] [.cell (.data (.pair (.int .i64) (.pair (.sl false (.arr 2 (.int .i64))) .unit)) o0_2), .row .bool o1_2 0, .row (.int .i64) o2_2 0])) x := by kernel_rfl
theorem l19_13 (N : Nat) : LoopOK (x19 N) (loopAt 13 (loopsOf b19)) :=
  loop_mk (G19_13 N) (by kernel_rfl) (by kernel_rfl) (by kernel_rfl) fun R k d =>
    loop_eq (st := fun (x : Int × Bool) => ([(10, (.data (.int .i64) x.1)), (1, (.bptr 0 [])), (6, (.ref 1 [] 0)), (8, (.data (.int .i64) d.1.2.2.2.1)), (5, (.ref 2 [] 0)), (7, (.data (.int .i64) d.1.2.2.2.2.2.1)), (9, (.data .bool x.2))], [.cell (.data (.pair (.int .i64) (.pair (.sl false (.arr 2 (.int .i64))) .unit)) d.2.1), .row .bool d.2.2.1 0, .row (.int .i64) d.2.2.2.1 0])) (s19_13 N k d.1.2.2.2.1 d.1.2.2.2.2.2.1 d.2.1 d.2.2.1 d.2.2.2.1) N (d.1.1, d.1.2.2.2.2.2.2.1)
theorem s19_9 (N : Nat) {R : Type} (k : AExit → St → Option R) (o0_1 : (Int × (List (List Int) × Unit))) (o1_1 : List Bool) (o2_1 : List Int) (kb : List (Nat × AVal) → List Obj → Option R) (x : Int × Int) : codeK (x19 N) (loopAt 9 (loopsOf b19)) (St.of [(1, (.bptr 0 [])), (6, (.ref 1 [] 0)), (8, (.data (.int .i64) x.1)), (7, (.data (.int .i64) x.2)), (5, (.ref 2 [] 0))] [.cell (.data (.pair (.int .i64) (.pair (.sl false (.arr 2 (.int .i64))) .unit)) o0_1), .row .bool o1_1 0, .row (.int .i64) o2_1 0]) (kLoop (x19 N) 9 ⟨[1, 6, 8, 7, 5], []⟩ kb k) = f19_L9 N o0_1 o1_1 o2_1 (fun y => kb [(1, (.bptr 0 [])), (6, (.ref 1 [] 0)), (8, (.data (.int .i64) y.1)), (7, (.data (.int .i64) y.2)), (5, (.ref 2 [] 0))] [.cell (.data (.pair (.int .i64) (.pair (.sl false (.arr 2 (.int .i64))) .unit)) o0_1), .row .bool o1_1 0, .row (.int .i64) o2_1 0])
    (fun y0 => k (.exit 2) (St.of [(1, (.bptr 0 [])), (6, (.ref 1 [] 0)), (7, (.data (.int .i64) y0)), (5, (.ref 2 [] 0))] [.cell (.data (.pair (.int .i64) (.pair (.sl false (.arr 2 (.int .i64))) .unit)) o0_1), .row .bool o1_1 0, .row (.int .i64) o2_1 0])) x := by kernel_rfl
theorem l19_9 (N : Nat) : LoopOK (x19 N) (loopAt 9 (loopsOf b19)) :=
  loop_mk (G19_9 N) (by kernel_rfl) (by kernel_rfl) (by kernel_rfl) fun R k d =>
    loop_eq (st := fun (x : Int × Int) => ([(1, (.bptr 0 [])), (6, (.ref 1 [] 0)), (8, (.data (.int .i64) x.1)), (7, (.data (.int .i64) x.2)), (5, (.ref 2 [] 0))], [.cell (.data (.pair (.int .i64) (.pair (.sl false (.arr 2 (.int .i64))) .unit)) d.2.1), .row .bool d.2.2.1 0, .row (.int .i64) d.2.2.2.1 0])) (s19_9 N k d.2.1 d.2.2.1 d.2.2.2.1) N (d.1.2.2.1, d.1.2.2.2.1)
theorem s19_6 (N : Nat) {R : Type} (k : AExit → St → Option R) (o0 : (Int × (List (List Int) × Unit))) (kb : List (Nat × AVal) → List Obj → Option R) (x : List Bool × List Int) : codeK (x19 N) (loopAt 6 (loopsOf b19)) (St.of [(1, (.bptr 0 [])), (6, (.ref 1 [] 0)), (5, (.ref 2 [] 0))] [.cell (.data (.pair (.int .i64) (.pair (.sl false (.arr 2 (.int .i64))) .unit)) o0), .row .bool x.1 0, .row (.int .i64) x.2 0]) (kLoop (x19 N) 6 ⟨[1, 6, 5], []⟩ kb k) = f19_L6 N o0 (fun y => kb [(1, (.bptr 0 [])), (6, (.ref 1 [] 0)), (5, (.ref 2 [] 0))] [.cell (.data (.pair (.int .i64) (.pair (.sl false (.arr 2 (.int .i64))) .unit)) o0), .row .bool y.1 0, .row (.int .i64) y.2 0])
    (fun y0 => k .ret (St.of [(2, .nilS), (3, (.data (.int .i64) y0))] []))
    (fun y0 => k (.exit 0) (St.of [(5, (.ref 0 [] 0))] [.row (.int .i64) y0 0])) x := by kernel_rfl
theorem l19_6 (N : Nat) : LoopOK (x19 N) (loopAt 6 (loopsOf b19)) :=
  loop_mk (G19_6 N) (by kernel_rfl) (by kernel_rfl) (by kernel_rfl) fun R k d =>
    loop_eq (st := fun (x : List Bool × List Int) => ([(1, (.bptr 0 [])), (6, (.ref 1 [] 0)), (5, (.ref 2 [] 0))], [.cell (.data (.pair (.int .i64) (.pair (.sl false (.arr 2 (.int .i64))) .unit)) d.2.1), .row .bool x.1 0, .row (.int .i64) x.2 0])) (s19_6 N k d.2.1) N (d.2.2.1, d.2.2.2.1)
theorem e19 (N : Nat) (a0 : (Int × (List (List Int) × Unit))) : bodyK (x19 N) [(.sl true (.int .i64)), (.int .i64)] [.tmp 2, .tmp 3] b19 (entry (.pr (.val (.pair (.int .i64) (.pair (.sl false (.arr 2 (.int .i64))) .unit))) .un) (a0, ())) = f19 N a0 := by kernel_rfl
theorem k19 (N : Nat) : CalleeOK Go.Proofs.Try.prog 19 (c19 N) :=
  fn_ok (fn := Go.Proofs.Try.f19) (body := b19) (c := x19 N) Go.Proofs.Try.func19 (by kernel_rfl) (by kernel_rfl) ⟨ttL_ok, mtL_ok, eqL_ok, ctL_ok, msL_ok, env_cons (forall_mem1 (k22 N)) (env_nil)⟩ mixed (by kernel_rfl) (Nat.le_of_ble_eq_true (by kernel_rfl)) (by kernel_rfl) (by decide)
    (loops_ok (by kernel_rfl : loopsOf b19 = [loopAt 6 (loopsOf b19), loopAt 9 (loopsOf b19), loopAt 13 (loopsOf b19)]) (.cons (l19_6 N) (.cons (l19_9 N) (.cons (l19_13 N) .nil)))) fun d => e19 N d.1
def f4 (N : Nat) (a0 : (Int × (List (List Int) × Unit))) : Option (Bool) :=
  (f13 N).bind fun r =>
  cond (!r)
    (some false)
    ((f14 N a0).bind fun r_1 =>
    cond (!r_1)
      (some true)
      ((f18 N a0).bind fun r_2 =>
      (f19 N a0).bind fun r_3 =>
      (cond (decide (r_2.2 = r_3.2))
          ((f17 N r_2.1 r_3.1).bind fun r_4 =>
          some r_4)
          (some false)).bind fun b =>
      some b))
def c4 (N : Nat) : Callee := .pure (.pr (.val (.pair (.int .i64) (.pair (.sl false (.arr 2 (.int .i64))) .unit))) .un) [.bool] fun d => f4 N d.1
def lp4 (N : Nat) : Nat → Option LoopFn := fun r => none
def x4 (N : Nat) : Ctx := { fuel := N, tt := getL ttL, mt := getL mtL, ntmps := 30, env := fun f => (getL [(13, [c13 N]), (14, [c14 N]), (18, [c18 N]), (19, [c19 N]), (17, [c17 N])] f).getD [], cut := getL [], exits := fun r => getL ((getL [] r).getD []), res := ⟨[2], []⟩, own := fun _ => none, lp := lp4 N, eqs := fun T => memN T eqL, ct := fun T => memN T ctL, ms := getMs msL }
noncomputable def b4 : Code := ((Go.Proofs.Try.f4).body).getD .skip
theorem e4 (N : Nat) (a0 : (Int × (List (List Int) × Unit))) : bodyK (x4 N) [.bool] [.tmp 2] b4 (entry (.pr (.val (.pair (.int .i64) (.pair (.sl false (.arr 2 (.int .i64))) .unit))) .un) (a0, ())) = f4 N a0 := by kernel_rfl
theorem k4 (N : Nat) : CalleeOK Go.Proofs.Try.prog 4 (c4 N) :=
  fn_ok (fn := Go.Proofs.Try.f4) (body := b4) (c := x4 N) Go.Proofs.Try.func4 (by kernel_rfl) (by kernel_rfl) ⟨ttL_ok, mtL_ok, eqL_ok, ctL_ok, msL_ok, env_cons (forall_mem1 (k13 N)) (env_cons (forall_mem1 (k14 N)) (env_cons (forall_mem1 (k18 N)) (env_cons (forall_mem1 (k19 N)) (env_cons (forall_mem1 (k17 N)) (env_nil)))))⟩ mixed (by kernel_rfl) (Nat.le_of_ble_eq_true (by kernel_rfl)) (by kernel_rfl) (by decide)
    (loops_ok (by kernel_rfl : loopsOf b4 = []) .nil) fun d => e4 N d.1
def f36_L6 {R : Type} (N : Nat) (o0 : List Int) (kb : Int × List Bool → Option R) (kx0 : (List Bool) → Option R) : Int × List Bool → Option R :=
  fun (t9, o1) =>
    cond (decide (t9 < (len o0)))
      (chk (inb o0 t9) <|
      (idx o0 t9).bind fun x =>
      chk (decide ((Nat.succ (List.length o1)) ≤ room)) <|
      kb ((wi64 (t9 + 1)), (o1 ++ ((decide (0 ≤ x)) :: ([] : List Bool)))))
      (kx0 o1)
def f36 (N : Nat) (a0 : (Int × (List (List Int) × Unit))) (a1 : List Int) : Option (List Bool × Int) :=
  (f44 N a0 a1).bind fun r =>
  cond (!(decide (r.2 = 0)))
    (some (([] : List Bool), r.2))
    (iter (fun w => f36_L6 N r.1 w
      (fun o0_1 =>
        some (o0_1, 0))) N (0, ([] : List Bool)))
def c36 (N : Nat) : Callee := .pure (.pr (.val (.pair (.int .i64) (.pair (.sl false (.arr 2 (.int .i64))) .unit))) (.pr (.val (.sl false (.int .i64))) .un)) [(.sl true .bool), (.int .i64)] fun d => f36 N d.1 d.2.1
def F36_6 : SForm := ⟨[(9, (.val (.int .i64))), (6, (.ref 0)), (8, (.ref 1))], [.row (.int .i64), .row .bool]⟩
def G36_6 (N : Nat) : (R : Type) → F36_6.den → (AExit → St → Option R) → Option R := fun R d k => iter (fun kb => f36_L6 N d.2.1 kb
    (fun y0 => k (.exit 0) (St.of [(8, (.ref 0 [] 0))] [.row .bool y0 0]))) N (d.1.1, d.2.2.1)
def lp36 (N : Nat) : Nat → Option LoopFn := fun r => cond (Nat.beq r 6) (some fun R sl os k => F36_6.take sl os fun d => G36_6 N R d k) (none)
def x36 (N : Nat) : Ctx := { fuel := N, tt := getL ttL, mt := getL mtL, ntmps := 35, env := fun f => (getL [(44, [c44 N])] f).getD [], cut := getL [(6, ⟨[9, 6, 8], []⟩)], exits := fun r => getL ((getL [(6, [(0, ⟨[8], []⟩)])] r).getD []), res := ⟨[4, 5], []⟩, own := fun _ => none, lp := lp36 N, eqs := fun T => memN T eqL, ct := fun T => memN T ctL, ms := getMs msL }
noncomputable def b36 : Code := ((Go.Proofs.Try.f36).body).getD .skip
theorem s36_6 (N : Nat) {R : Type} (k : AExit → St → Option R) (o0 : List Int) (kb : List (Nat × AVal) → List Obj → Option R) (x : Int × List Bool) : codeK (x36 N) (loopAt 6 (loopsOf b36)) (St.of [(9, (.data (.int .i64) x.1)), (6, (.ref 0 [] 0)), (8, (.ref 1 [] 0))] [.row (.int .i64) o0 0, .row .bool x.2 0]) (kLoop (x36 N) 6 ⟨[9, 6, 8], []⟩ kb k) = f36_L6 N o0 (fun y => kb [(9, (.data (.int .i64) y.1)), (6, (.ref 0 [] 0)), (8, (.ref 1 [] 0))] [.row (.int .i64) o0 0, .row .bool y.2 0])
    (fun y0 => k (.exit 0) (St.of [(8, (.ref 0 [] 0))] [.row .bool y0 0])) x := by kernel_rfl
theorem l36_6 (N : Nat) : LoopOK (x36 N) (loopAt 6 (loopsOf b36)) :=
  loop_mk (G36_6 N) (by kernel_rfl) (by kernel_rfl) (by kernel_rfl) fun R k d =>
    loop_eq (st := fun (x : Int × List Bool) => ([(9, (.data (.int .i64) x.1)), (6, (.ref 0 [] 0)), (8, (.ref 1 [] 0))], [.row (.int .i64) d.2.1 0, .row .bool x.2 0])) (s36_6 N k d.2.1) N (d.1.1, d.2.2.1)
theorem e36 (N : Nat) (a0 : (Int × (List (List Int) × Unit))) (a1 : List Int) : bodyK (x36 N) [(.sl true .bool), (.int .i64)] [.tmp 4, .tmp 5] b36 (entry (.pr (.val (.pair (.int .i64) (.pair (.sl false (.arr 2 (.int .i64))) .unit))) (.pr (.val (.sl false (.int .i64))) .un)) (a0, (a1, ()))) = f36 N a0 a1 := by kernel_rfl
theorem k36 (N : Nat) : CalleeOK Go.Proofs.Try.prog 36 (c36 N) :=
  fn_ok (fn := Go.Proofs.Try.f36) (body := b36) (c := x36 N) Go.Proofs.Try.func36 (by kernel_rfl) (by kernel_rfl) ⟨ttL_ok, mtL_ok, eqL_ok, ctL_ok, msL_ok, env_cons (forall_mem1 (k44 N)) (env_nil)⟩ mixed (by kernel_rfl) (Nat.le_of_ble_eq_true (by kernel_rfl)) (by kernel_rfl) (by decide)
    (loops_ok (by kernel_rfl : loopsOf b36 = [loopAt 6 (loopsOf b36)]) (.cons (l36_6 N) .nil)) fun d => e36 N d.1 d.2.1
def f32_L6 {R : Type} (N : Nat) (o1 : (Int × (List (List Int) × Unit))) (kb : Int × List (List Bool) → Option R) (kx0 : (List (List Bool)) → Option R) : Int × List (List Bool) → Option R :=
  fun (t6, o0) =>
    cond (decide (t6 < o1.1))
      ((f36 N o1 (t6 :: ([] : List Int))).bind fun r_1 =>
      chk (decide ((Nat.succ (List.length o0)) ≤ room)) <|
      kb ((wi64 (t6 + 1)), (o0 ++ (r_1.1 :: ([] : List (List Bool))))))
      (kx0 o0)
def f32 (N : Nat) (a0 : (Int × (List (List Int) × Unit))) : Option (List (List Bool) × Int) :=
  (f22 N a0).bind fun r =>
  cond (!(decide (r = 0)))
    (some (([] : List (List Bool)), r))
    (iter (fun w => f32_L6 N a0 w
      (fun o0_1 =>
        some (o0_1, 0))) N (0, ([] : List (List Bool))))
def f21_L11 {R : Type} (N : Nat) (t8_1 : Int) (t4_1 : List (List Bool)) (t7_1 : Int) (o0_1 : List Int) (o1_1 : (Int × (List (List Int) × Unit))) (kb : Int × Int → Option R) (kx2 : Int → Option R) : Int × Int → Option R :=
  fun (t10, t9) =>
    cond (decide (t10 < t8_1))
      ((cond (decide (t9 < 0))
          ((idx t4_1 t8_1).bind fun x =>
          (idx x t10).bind fun x_1 =>
          some x_1)
          (some false)).bind fun b =>
      (cond b
          ((idx t4_1 t10).bind fun x_2 =>
          (idx x_2 t8_1).bind fun x_3 =>
          some x_3)
          (some false)).bind fun b_1 =>
      cond b_1
        (chk (inb o0_1 t10) <|
        (idx o0_1 t10).bind fun x_4 =>
        kb ((wi64 (t10 + 1)), x_4))
        (kb ((wi64 (t10 + 1)), t9)))
      (kx2 t9)
def f21_L7 {R : Type} (N : Nat) (t4 : List (List Bool)) (o1 : (Int × (List (List Int) × Unit))) (kb : Int × Int × List Int → Option R) (kx0 : (List Int) → Option R) : Int × Int × List Int → Option R :=
  fun (t8, t7, o0) =>
    cond (decide (t8 < o1.1))
      (iter (fun w => f21_L11 N t8 t4 t7 o0 o1 w
        (fun t9_1 =>
          cond (decide (t9_1 < 0))
            (chk (decide ((Nat.succ (List.length o0)) ≤ room)) <|
            kb ((wi64 (t8 + 1)), (wi64 (t7 + 1)), (o0 ++ (t7 :: ([] : List Int)))))
            (chk (decide ((Nat.succ (List.length o0)) ≤ room)) <|
            kb ((wi64 (t8 + 1)), t7, (o0 ++ (t9_1 :: ([] : List Int))))))) N (0, (-1)))
      (kx0 o0)
def f21 (N : Nat) (a0 : (Int × (List (List Int) × Unit))) : Option (List Int × Int) :=
  (f32 N a0).bind fun r =>
  cond (!(decide (r.2 = 0)))
    (some (([] : List Int), r.2))
    (iter (fun w => f21_L7 N r.1 a0 w
      (fun o0_2 =>
        some (o0_2, 0))) N (0, 0, ([] : List Int)))
def c21 (N : Nat) : Callee := .pure (.pr (.val (.pair (.int .i64) (.pair (.sl false (.arr 2 (.int .i64))) .unit))) .un) [(.sl true (.int .i64)), (.int .i64)] fun d => f21 N d.1
def f5 (N : Nat) (a0 : (Int × (List (List Int) × Unit))) : Option (Bool) :=
  (f13 N).bind fun r =>
  cond (!r)
    (some false)
    ((f14 N a0).bind fun r_1 =>
    cond (!r_1)
      (some true)
      ((f20 N a0).bind fun r_2 =>
      (f21 N a0).bind fun r_3 =>
      (cond (decide (r_2.2 = r_3.2))
          ((f17 N r_2.1 r_3.1).bind fun r_4 =>
          some r_4)
          (some false)).bind fun b =>
      some b))
def lp5 (N : Nat) : Nat → Option LoopFn := fun r => none
def x5 (N : Nat) : Ctx := { fuel := N, tt := getL ttL, mt := getL mtL, ntmps := 30, env := fun f => (getL [(13, [c13 N]), (14, [c14 N]), (20, [c20 N]), (21, [c21 N]), (17, [c17 N])] f).getD [], cut := getL [], exits := fun r => getL ((getL [] r).getD []), res := ⟨[2], []⟩, own := fun _ => none, lp := lp5 N, eqs := fun T => memN T eqL, ct := fun T => memN T ctL, ms := getMs msL }
noncomputable def b5 : Code := ((Go.Proofs.Try.f5).body).getD .skip
theorem e5 (N : Nat) (a0 : (Int × (List (List Int) × Unit))) : bodyK (x5 N) [.bool] [.tmp 2] b5 (entry (.pr (.val (.pair (.int .i64) (.pair (.sl false (.arr 2 (.int .i64))) .unit))) .un) (a0, ())) = f5 N a0 := by kernel_rfl
def f23 (N : Nat) (a0 : (Int × (List (List Int) × Unit))) (a1 : List Int) : Option (List Int × Int) :=
  (f39 N a0 a1).bind fun r =>
  cond (!(decide (r = 0)))
    (some (([] : List Int), r))
    ((f41 N a0.1 a0.2.1).bind fun r_1 =>
    (f40 N r_1 a1).bind fun r_2 =>
    some (r_2, 0))
def c23 (N : Nat) : Callee := .pure (.pr (.val (.pair (.int .i64) (.pair (.sl false (.arr 2 (.int .i64))) .unit))) (.pr (.val (.sl false (.int .i64))) .un)) [(.sl true (.int .i64)), (.int .i64)] fun d => f23 N d.1 d.2.1
def f6_L8 {R : Type} (N : Nat) (t6 : Int) (t41 : List Int) (t42 : Int) (o0 : List Int) (o2 : (Int × (List (List Int) × Unit))) (kb : Int × List Bool → Option R) (kret : Bool → Option R) (kx0 : (List Bool) → Option R) : Int × List Bool → Option R :=
  fun (t43, o1) =>
    cond (decide (t43 < t42))
      ((idx t41 t43).bind fun x =>
      (cond (decide (x < 0))
          (some true)
          (some (decide (o2.1 ≤ x)))).bind fun b_2 =>
      cond b_2
        ((cond (decide (t6 = 3))
            (some (decide ((len o0) = 0)))
            (some false)).bind fun b_3 =>
        kret b_3)
        (chk (inb o1 x) <|
        (idx o1 x).bind fun x_1 =>
        (idx o1 x).bind fun x_2 =>
        kb ((wi64 (t43 + 1)), (setI o1 x true))))
      (kx0 o1)
def f6_L18 {R : Type} (N : Nat) (t79 : List (List Int)) (t80 : Int) (o1_2 : List Int) (o2_1 : List Bool) (kb : Int × List Bool → Option R) (kret : Bool → Option R) (kx2 : (List Bool) → Option R) : Int × List Bool → Option R :=
  fun (t81, o0_1) =>
    cond (decide (t81 < t80))
      ((idx t79 t81).bind fun x_3 =>
      chk (inb x_3 0) <|
      (idx x_3 0).bind fun x_4 =>
      chk (inb o1_2 x_4) <|
      (idx o1_2 x_4).bind fun x_5 =>
      chk (inb x_3 1) <|
      (idx x_3 1).bind fun x_6 =>
      chk (inb o1_2 x_6) <|
      (idx o1_2 x_6).bind fun x_7 =>
      (cond (decide (0 ≤ x_5))
          ((cond (decide (x_7 < 0))
              (some true)
              (some (decide ((wi64 (x_5 + 1)) < x_7)))).bind fun b_5 =>
          some b_5)
          (some false)).bind fun b_6 =>
      cond b_6
        (kret false)
        ((cond (decide (0 ≤ x_5))
            (some (decide (x_7 = (wi64 (x_5 + 1)))))
            (some false)).bind fun b_7 =>
        cond b_7
          (chk (inb x_3 1) <|
          (idx x_3 1).bind fun x_8 =>
          chk (inb o0_1 x_8) <|
          (idx o0_1 x_8).bind fun x_9 =>
          (idx o0_1 x_8).bind fun x_10 =>
          kb ((wi64 (t81 + 1)), (setI o0_1 x_8 true)))
          (kb ((wi64 (t81 + 1)), o0_1))))
      (kx2 o0_1)
def f6_L27 {R : Type} (N : Nat) (t121 : Int) (o0_3 : List Bool) (o1_3 : List Bool) (o2_2 : List Int) (kb : Int → Option R) (kret : Bool → Option R) (kx4 : Unit → Option R) : Int → Option R :=
  fun t122 =>
    cond (decide (t122 < t121))
      (chk (inb o2_2 t122) <|
      (idx o2_2 t122).bind fun x_11 =>
      chk (inb o1_3 t122) <|
      (idx o1_3 t122).bind fun x_12 =>
      (cond (!(decide ((decide (x_11 = 0)) = x_12)))
          (some true)
          ((cond (decide (0 < x_11))
              (chk (inb o0_3 t122) <|
              (idx o0_3 t122).bind fun x_13 =>
              some (!x_13))
              (some false)).bind fun b_8 =>
          some b_8)).bind fun b_9 =>
      cond b_9
        (kret false)
        (kb (wi64 (t122 + 1))))
      (kx4 ())
def f6 (N : Nat) (a0 : (Int × (List (List Int) × Unit))) (a1 : List Int) : Option (Bool) :=
  (f13 N).bind fun r =>
  cond (!r)
    (some false)
    ((f14 N a0).bind fun r_1 =>
    (cond (!r_1)
        (some true)
        (some (decide (10 < (len a1))))).bind fun b =>
    (cond b
        (some true)
        ((f22 N a0).bind fun r_2 =>
        some (!(decide (r_2 = 0))))).bind fun b_1 =>
    cond b_1
      (some true)
      ((f23 N a0 a1).bind fun r_3 =>
      chk (((decide (0 ≤ a0.1)) && (decide (a0.1 ≤ a0.1))) && (decide (a0.1 ≤ ((room : Nat) : Int)))) <|
      iter (fun w => f6_L8 N r_3.2 a1 (len a1) r_3.1 a0 w
        (fun t4 =>
          some t4)
        (fun o1_1 =>
          (cond (!(decide (r_3.2 = 0)))
              (some true)
              (some (!(decide ((len r_3.1) = a0.1))))).bind fun b_4 =>
          cond b_4
            (some false)
            (chk (((decide (0 ≤ a0.1)) && (decide (a0.1 ≤ a0.1))) && (decide (a0.1 ≤ ((room : Nat) : Int)))) <|
            iter (fun w => f6_L18 N a0.2.1 (len a0.2.1) r_3.1 o1_1 w
              (fun t4_1 =>
                some t4_1)
              (fun o0_2 =>
                iter (fun w => f6_L27 N (len r_3.1) o0_2 o1_1 r_3.1 w
                  (fun t4_2 =>
                    some t4_2)
                  (fun (_ : Unit) =>
                    some true)) N 0)) N (0, (List.replicate (Int.toNat a0.1) false : List Bool))))) N (0, (List.replicate (Int.toNat a0.1) false : List Bool))))
def F6_8 : SForm := ⟨[(5, (.ref 0)), (6, (.val (.int .i64))), (43, (.val (.int .i64))), (7, (.ref 1)), (2, (.bptr 2 [])), (41, (.val (.sl false (.int .i64)))), (42, (.val (.int .i64)))], [.row (.int .i64), .row .bool, .cell (.val (.pair (.int .i64) (.pair (.sl false (.arr 2 (.int .i64))) .unit)))]⟩
def G6_8 (N : Nat) : (R : Type) → F6_8.den → (AExit → St → Option R) → Option R := fun R d k => iter (fun kb => f6_L8 N d.1.2.1 d.1.2.2.2.2.2.1 d.1.2.2.2.2.2.2.1 d.2.1 d.2.2.2.1 kb
    (fun y0 => k .ret (St.of [(4, (.data .bool y0))] []))
    (fun y2 => k (.exit 0) (St.of [(5, (.ref 0 [] 0)), (7, (.ref 1 [] 0)), (2, (.bptr 2 [])), (6, (.data (.int .i64) d.1.2.1))] [.row (.int .i64) d.2.1 0, .row .bool y2 0, .cell (.data (.pair (.int .i64) (.pair (.sl false (.arr 2 (.int .i64))) .unit)) d.2.2.2.1)]))) N (d.1.2.2.1, d.2.2.1)
def F6_18 : SForm := ⟨[(81, (.val (.int .i64))), (10, (.ref 0)), (5, (.ref 1)), (79, (.val (.sl false (.arr 2 (.int .i64))))), (7, (.ref 2)), (80, (.val (.int .i64)))], [.row .bool, .row (.int .i64), .row .bool]⟩
def G6_18 (N : Nat) : (R : Type) → F6_18.den → (AExit → St → Option R) → Option R := fun R d k => iter (fun kb => f6_L18 N d.1.2.2.2.1 d.1.2.2.2.2.2.1 d.2.2.1 d.2.2.2.1 kb
    (fun y0 => k .ret (St.of [(4, (.data .bool y0))] []))
    (fun y0 => k (.exit 2) (St.of [(10, (.ref 0 [] 0)), (7, (.ref 1 [] 0)), (5, (.ref 2 [] 0))] [.row .bool y0 0, .row .bool d.2.2.2.1 0, .row (.int .i64) d.2.2.1 0]))) N (d.1.1, d.2.1)
def F6_27 : SForm := ⟨[(122, (.val (.int .i64))), (10, (.ref 0)), (7, (.ref 1)), (120, (.ref 2)), (121, (.val (.int .i64)))], [.row .bool, .row .bool, .row (.int .i64)]⟩
def G6_27 (N : Nat) : (R : Type) → F6_27.den → (AExit → St → Option R) → Option R := fun R d k => iter (fun kb => f6_L27 N d.1.2.2.2.2.1 d.2.1 d.2.2.1 d.2.2.2.1 kb
    (fun y0 => k .ret (St.of [(4, (.data .bool y0))] []))
    (fun _ => k (.exit 4) (St.of [] []))) N d.1.1
def lp6 (N : Nat) : Nat → Option LoopFn := fun r => cond (Nat.beq r 8) (some fun R sl os k => F6_8.take sl os fun d => G6_8 N R d k) (cond (Nat.beq r 18) (some fun R sl os k => F6_18.take sl os fun d => G6_18 N R d k) (cond (Nat.beq r 27) (some fun R sl os k => F6_27.take sl os fun d => G6_27 N R d k) (none)))
def x6 (N : Nat) : Ctx := { fuel := N, tt := getL ttL, mt := getL mtL, ntmps := 146, env := fun f => (getL [(13, [c13 N]), (14, [c14 N]), (22, [c22 N]), (23, [c23 N])] f).getD [], cut := getL [(8, ⟨[5, 6, 43, 7, 2, 41, 42], []⟩), (18, ⟨[81, 10, 5, 79, 7, 80], []⟩), (27, ⟨[122, 10, 7, 120, 121], []⟩)], exits := fun r => getL ((getL [(8, [(0, ⟨[5, 7, 2, 6], []⟩)]), (18, [(2, ⟨[10, 7, 5], []⟩)]), (27, [(4, ⟨[], []⟩)])] r).getD []), res := ⟨[4], []⟩, own := fun _ => none, lp := lp6 N, eqs := fun T => memN T eqL, ct := fun T => memN T ctL, ms := getMs msL }
noncomputable def b6 : Code := ((Go.Proofs.Try.f6).body).getD .skip
theorem e6 (N : Nat) (a0 : (Int × (List (List Int) × Unit))) (a1 : List Int) : bodyK (x6 N) [.bool] [.tmp 4] b6 (entry (.pr (.val (.pair (.int .i64) (.pair (.sl false (.arr 2 (.int .i64))) .unit))) (.pr (.val (.sl false (.int .i64))) .un)) (a0, (a1, ()))) = f6 N a0 a1 := by kernel_rfl
def f24 (N : Nat) (a0 : (Int × (List (List Int) × Unit))) : Option ((Int × (List (List Int) × Unit)) × Int) :=
  (f34 N a0).bind fun r =>
  cond (!(decide (r = 0)))
    (some ((0, (([] : List (List Int)), ())), r))
    ((f50 N a0.1 a0.2.1).bind fun r_1 =>
    some ((r_1.1, (r_1.2.1, ())), 0))
def c24 (N : Nat) : Callee := .pure (.pr (.val (.pair (.int .i64) (.pair (.sl false (.arr 2 (.int .i64))) .unit))) .un) [(.pair (.int .i64) (.pair (.sl false (.arr 2 (.int .i64))) .unit)), (.int .i64)] fun d => f24 N d.1
def lp24 (N : Nat) : Nat → Option LoopFn := fun r => none
def x24 (N : Nat) : Ctx := { fuel := N, tt := getL ttL, mt := getL mtL, ntmps := 16, env := fun f => (getL [(34, [c34 N]), (50, [c50 N])] f).getD [], cut := getL [], exits := fun r => getL ((getL [] r).getD []), res := ⟨[2, 3], []⟩, own := fun _ => none, lp := lp24 N, eqs := fun T => memN T eqL, ct := fun T => memN T ctL, ms := getMs msL }
noncomputable def b24 : Code := ((Go.Proofs.Try.f24).body).getD .skip
theorem e24 (N : Nat) (a0 : (Int × (List (List Int) × Unit))) : bodyK (x24 N) [(.pair (.int .i64) (.pair (.sl false (.arr 2 (.int .i64))) .unit)), (.int .i64)] [.cell 2 24, .tmp 3] b24 (entry (.pr (.val (.pair (.int .i64) (.pair (.sl false (.arr 2 (.int .i64))) .unit))) .un) (a0, ())) = f24 N a0 := by kernel_rfl
theorem k24 (N : Nat) : CalleeOK Go.Proofs.Try.prog 24 (c24 N) :=
  fn_ok (fn := Go.Proofs.Try.f24) (body := b24) (c := x24 N) Go.Proofs.Try.func24 (by kernel_rfl) (by kernel_rfl) ⟨ttL_ok, mtL_ok, eqL_ok, ctL_ok, msL_ok, env_cons (forall_mem1 (k34 N)) (env_cons (forall_mem1 (k50 N)) (env_nil))⟩ mixed (by kernel_rfl) (Nat.le_of_ble_eq_true (by kernel_rfl)) (by kernel_rfl) (by decide)
    (loops_ok (by kernel_rfl : loopsOf b24 = []) .nil) fun d => e24 N d.1
def f26 (N : Nat) (a0 : (Int × (List (List Int) × Unit))) : Option ((Int × (List (List Int) × Unit)) × Int) :=
  (f34 N a0).bind fun r =>
  cond (!(decide (r = 0)))
    (some ((0, (([] : List (List Int)), ())), r))
    ((f42 N a0).bind fun r_1 =>
    (f50 N a0.1 r_1).bind fun r_2 =>
    some ((r_2.1, (r_2.2.1, ())), 0))
def f28_L4 {R : Type} (N : Nat) (t22 : Int) (o0 : (Int × (List (List Int) × Unit))) (o1 : (Int × (List (List Int) × Unit))) (kb : Int → Option R) (kret : Bool → Option R) (kx0 : Unit → Option R) : Int → Option R :=
  fun t23 =>
    cond (decide (t23 < t22))
      ((idx o1.2.1 t23).bind fun x =>
      (idx o0.2.1 t23).bind fun x_1 =>
      cond (!(eqD (.arr 2 (.int .i64)) x x_1))
        (kret false)
        (kb (wi64 (t23 + 1))))
      (kx0 ())
def f28 (N : Nat) (a0 : (Int × (List (List Int) × Unit))) (a1 : (Int × (List (List Int) × Unit))) : Option (Bool) :=
  (cond (!(decide (a0.1 = a1.1)))
      (some true)
      (some (!(decide ((len a0.2.1) = (len a1.2.1)))))).bind fun b =>
  cond b
    (some false)
    (iter (fun w => f28_L4 N (len a0.2.1) a1 a0 w
      (fun t4 =>
        some t4)
      (fun (_ : Unit) =>
        some true)) N 0)
def f29 (N : Nat) (a0 : (Int × (List (List Int) × Unit))) : Option (List (List Int) × Int) :=
  (f34 N a0).bind fun r =>
  cond (!(decide (r = 0)))
    (some (([] : List (List Int)), r))
    ((f41 N a0.1 a0.2.1).bind fun r_1 =>
    some (r_1, 0))
def f30_L10 {R : Type} (N : Nat) (t6_1 : Int) (o1_1 : (Int × (List (List Int) × Unit))) (o2 : List (List Int)) (kb : Int × List Int → Option R) (kx2 : (List Int) → Option R) : Int × List Int → Option R :=
  fun (t8, o0_1) =>
    cond (decide (t8 < o1_1.1))
      ((f45 N o1_1 t6_1 t8).bind fun r_1 =>
      cond r_1
        (chk (decide ((Nat.succ (List.length o0_1)) ≤ room)) <|
        kb ((wi64 (t8 + 1)), (o0_1 ++ (t8 :: ([] : List Int)))))
        (kb ((wi64 (t8 + 1)), o0_1)))
      (kx2 o0_1)
def f30_L6 {R : Type} (N : Nat) (o0 : (Int × (List (List Int) × Unit))) (kb : Int × List (List Int) → Option R) (kx0 : (List (List Int)) → Option R) : Int × List (List Int) → Option R :=
  fun (t6, o1) =>
    cond (decide (t6 < o0.1))
      (iter (fun w => f30_L10 N t6 o0 o1 w
        (fun o1_2 =>
          chk (decide ((Nat.succ (List.length o1)) ≤ room)) <|
          kb ((wi64 (t6 + 1)), (o1 ++ (o1_2 :: ([] : List (List Int))))))) N (0, ([] : List Int)))
      (kx0 o1)
def f30 (N : Nat) (a0 : (Int × (List (List Int) × Unit))) : Option (List (List Int) × Int) :=
  (f22 N a0).bind fun r =>
  cond (!(decide (r = 0)))
    (some (([] : List (List Int)), r))
    (iter (fun w => f30_L6 N a0 w
      (fun o0_2 =>
        some (o0_2, 0))) N (0, ([] : List (List Int))))
def f7_L16 {R : Type} (N : Nat) (t13 : List (List Int)) (t11 : List (List Int)) (t4 : Int) (t84 : Int) (o0 : (Int × (List (List Int) × Unit))) (o1 : (Int × (List (List Int) × Unit))) (kb : Int → Option R) (kret : Bool → Option R) (kx0 : Unit → Option R) : Int → Option R :=
  fun t85 =>
    cond (decide (t85 < t84))
      ((idx t11 t85).bind fun x =>
      (idx t13 t85).bind fun x_1 =>
      (f17 N x x_1).bind fun r_10 =>
      cond (!r_10)
        (kret false)
        (kb (wi64 (t85 + 1))))
      (kx0 ())
def f7 (N : Nat) (a0 : (Int × (List (List Int) × Unit))) : Option (Bool) :=
  (f13 N).bind fun r =>
  cond (!r)
    (some false)
    ((f14 N a0).bind fun r_1 =>
    cond (!r_1)
      (some true)
      ((f24 N a0).bind fun r_2 =>
      (f25 N a0).bind fun r_3 =>
      (f26 N a0).bind fun r_4 =>
      (f27 N a0).bind fun r_5 =>
      (cond (!(decide (r_2.2 = r_3.2)))
          (some true)
          (some (!(decide (r_4.2 = r_5.2))))).bind fun b =>
      (cond b
          (some true)
          ((f28 N (r_2.1.1, r_2.1.2) (r_3.1.1, (r_3.1.2.1, ()))).bind fun r_6 =>
          some (!r_6))).bind fun b_1 =>
      (cond b_1
          (some true)
          ((f28 N (r_4.1.1, r_4.1.2) (r_5.1.1, r_5.1.2)).bind fun r_7 =>
          some (!r_7))).bind fun b_2 =>
      cond b_2
        (some false)
        ((f29 N a0).bind fun r_8 =>
        (f30 N a0).bind fun r_9 =>
        (cond (!(decide (r_8.2 = r_9.2)))
            (some true)
            (some (!(decide ((len r_8.1) = (len r_9.1)))))).bind fun b_3 =>
        cond b_3
          (some false)
          (iter (fun w => f7_L16 N r_9.1 r_8.1 r_2.2 (len r_8.1) (r_2.1.1, r_2.1.2) (r_4.1.1, r_4.1.2) w
            (fun t2 =>
              some t2)
            (fun (_ : Unit) =>
              (f26 N (r_4.1.1, r_4.1.2)).bind fun r_11 =>
              (cond (!(decide (r_2.2 = 0)))
                  (some true)
                  ((cond (decide (r_11.2 = 0))
                      ((f28 N (r_11.1.1, r_11.1.2) (r_2.1.1, r_2.1.2)).bind fun r_12 =>
                      some r_12)
                      (some false)).bind fun b_4 =>
                  some b_4)).bind fun b_5 =>
              some b_5)) N 0))))
def f51_L3 {R : Type} (N : Nat) (t14 : Int) (o1 : List Int) (kb : Int × List Bool → Option R) (kx0 : (List Bool) → Option R) : Int × List Bool → Option R :=
  fun (t15, o0) =>
    cond (decide (t15 < t14))
      (chk (inb o1 t15) <|
      (idx o1 t15).bind fun x =>
      chk (inb o0 t15) <|
      (idx o0 t15).bind fun x_1 =>
      (idx o0 t15).bind fun x_2 =>
      kb ((wi64 (t15 + 1)), (setI o0 t15 (decide (0 ≤ x)))))
      (kx0 o0)
def f51 (N : Nat) (a0 : List (List Int)) (a1 : List Int) : Option (List Bool) :=
  chk (((decide (0 ≤ (len a0))) && (decide ((len a0) ≤ (len a0)))) && (decide ((len a0) ≤ ((room : Nat) : Int)))) <|
  (f40 N a0 a1).bind fun r =>
  iter (fun w => f51_L3 N (len r) r w
    (fun o0_1 =>
      some o0_1)) N (0, (List.replicate (Int.toNat (len a0)) false : List Bool))
def c51 (N : Nat) : Callee := .pure (.pr (.val (.sl false (.sl false (.int .i64)))) (.pr (.val (.sl false (.int .i64))) .un)) [(.sl true .bool)] fun d => f51 N d.1 d.2.1
def F51_3 : SForm := ⟨[(15, (.val (.int .i64))), (5, (.ref 0)), (13, (.ref 1)), (14, (.val (.int .i64)))], [.row .bool, .row (.int .i64)]⟩
def G51_3 (N : Nat) : (R : Type) → F51_3.den → (AExit → St → Option R) → Option R := fun R d k => iter (fun kb => f51_L3 N d.1.2.2.2.1 d.2.2.1 kb
    (fun y0 => k (.exit 0) (St.of [(5, (.ref 0 [] 0))] [.row .bool y0 0]))) N (d.1.1, d.2.1)
def lp51 (N : Nat) : Nat → Option LoopFn := fun r => cond (Nat.beq r 3) (some fun R sl os k => F51_3.take sl os fun d => G51_3 N R d k) (none)
def x51 (N : Nat) : Ctx := { fuel := N, tt := getL ttL, mt := getL mtL, ntmps := 27, env := fun f => (getL [(40, [c40 N])] f).getD [], cut := getL [(3, ⟨[15, 5, 13, 14], []⟩)], exits := fun r => getL ((getL [(3, [(0, ⟨[5], []⟩)])] r).getD []), res := ⟨[4], []⟩, own := fun _ => none, lp := lp51 N, eqs := fun T => memN T eqL, ct := fun T => memN T ctL, ms := getMs msL }
noncomputable def b51 : Code := ((Go.Proofs.Try.f51).body).getD .skip
theorem s51_3 (N : Nat) {R : Type} (k : AExit → St → Option R) (t14 : Int) (o1 : List Int) (kb : List (Nat × AVal) → List Obj → Option R) (x : Int × List Bool) : codeK (x51 N) (loopAt 3 (loopsOf b51)) (St.of [(15, (.data (.int .i64) x.1)), (5, (.ref 0 [] 0)), (13, (.ref 1 [] 0)), (14, (.data (.int .i64) t14))] [.row .bool x.2 0, .row (.int .i64) o1 0]) (kLoop (x51 N) 3 ⟨[15, 5, 13, 14], []⟩ kb k) = f51_L3 N t14 o1 (fun y => kb [(15, (.data (.int .i64) y.1)), (5, (.ref 0 [] 0)), (13, (.ref 1 [] 0)), (14, (.data (.int .i64) t14))] [.row .bool y.2 0, .row (.int .i64) o1 0])
    (fun y0 => k (.exit 0) (St.of [(5, (.ref 0 [] 0))] [.row .bool y0 0])) x := by kernel_rfl
theorem l51_3 (N : Nat) : LoopOK (x51 N) (loopAt 3 (loopsOf b51)) :=
  loop_mk (G51_3 N) (by kernel_rfl) (by kernel_rfl) (by kernel_rfl) fun R k d =>
    loop_eq (st := fun (x : Int × List Bool) => ([(15, (.data (.int .i64) x.1)), (5, (.ref 0 [] 0)), (13, (.ref 1 [] 0)), (14, (.data (.int .i64) d.1.2.2.2.1))], [.row .bool x.2 0, .row (.int .i64) d.2.2.1 0])) (s51_3 N k d.1.2.2.2.1 d.2.2.1) N (d.1.1, d.2.1)
theorem e51 (N : Nat) (a0 : List (List Int)) (a1 : List Int) : bodyK (x51 N) [(.sl true .bool)] [.tmp 4] b51 (entry (.pr (.val (.sl false (.sl false (.int .i64)))) (.pr (.val (.sl false (.int .i64))) .un)) (a0, (a1, ()))) = f51 N a0 a1 := by kernel_rfl
theorem k51 (N : Nat) : CalleeOK Go.Proofs.Try.prog 51 (c51 N) :=
  fn_ok (fn := Go.Proofs.Try.f51) (body := b51) (c := x51 N) Go.Proofs.Try.func51 (by kernel_rfl) (by kernel_rfl) ⟨ttL_ok, mtL_ok, eqL_ok, ctL_ok, msL_ok, env_cons (forall_mem1 (k40 N)) (env_nil)⟩ mixed (by kernel_rfl) (Nat.le_of_ble_eq_true (by kernel_rfl)) (by kernel_rfl) (by decide)
    (loops_ok (by kernel_rfl : loopsOf b51 = [loopAt 3 (loopsOf b51)]) (.cons (l51_3 N) .nil)) fun d => e51 N d.1 d.2.1
def f31_L7 {R : Type} (N : Nat) (t5 : List (List Int)) (t22 : Int) (kb : Int × List (List Bool) → Option R) (kx0 : (List (List Bool)) → Option R) : Int × List (List Bool) → Option R :=
  fun (t23, o0) =>
    cond (decide (t23 < t22))
      ((f51 N t5 (t23 :: ([] : List Int))).bind fun r_2 =>
      chk (inb o0 t23) <|
      (idx o0 t23).bind fun x =>
      kb ((wi64 (t23 + 1)), (setI o0 t23 r_2)))
      (kx0 o0)
def f31 (N : Nat) (a0 : (Int × (List (List Int) × Unit))) : Option (List (List Bool) × Int) :=
  (f34 N a0).bind fun r =>
  cond (!(decide (r = 0)))
    (some (([] : List (List Bool)), r))
    ((f41 N a0.1 a0.2.1).bind fun r_1 =>
    chk (((decide (0 ≤ a0.1)) && (decide (a0.1 ≤ a0.1))) && (decide (a0.1 ≤ ((room : Nat) : Int)))) <|
    iter (fun w => f31_L7 N r_1 (len (List.replicate (Int.toNat a0.1) ([] : List Bool) : List (List Bool))) w
      (fun o0_1 =>
        some (o0_1, 0))) N (0, (List.replicate (Int.toNat a0.1) ([] : List Bool) : List (List Bool))))
def f35 (N : Nat) (a0 : (Int × (List (List Int) × Unit))) (a1 : List Int) : Option (List Bool × Int) :=
  (f39 N a0 a1).bind fun r =>
  cond (!(decide (r = 0)))
    (some (([] : List Bool), r))
    ((f41 N a0.1 a0.2.1).bind fun r_1 =>
    (f51 N r_1 a1).bind fun r_2 =>
    some (r_2, 0))
def c35 (N : Nat) : Callee := .pure (.pr (.val (.pair (.int .i64) (.pair (.sl false (.arr 2 (.int .i64))) .unit))) (.pr (.val (.sl false (.int .i64))) .un)) [(.sl true .bool), (.int .i64)] fun d => f35 N d.1 d.2.1
def lp35 (N : Nat) : Nat → Option LoopFn := fun r => none
def x35 (N : Nat) : Ctx := { fuel := N, tt := getL ttL, mt := getL mtL, ntmps := 20, env := fun f => (getL [(39, [c39 N]), (41, [c41 N]), (51, [c51 N])] f).getD [], cut := getL [], exits := fun r => getL ((getL [] r).getD []), res := ⟨[4, 5], []⟩, own := fun _ => none, lp := lp35 N, eqs := fun T => memN T eqL, ct := fun T => memN T ctL, ms := getMs msL }
noncomputable def b35 : Code := ((Go.Proofs.Try.f35).body).getD .skip
theorem e35 (N : Nat) (a0 : (Int × (List (List Int) × Unit))) (a1 : List Int) : bodyK (x35 N) [(.sl true .bool), (.int .i64)] [.tmp 4, .tmp 5] b35 (entry (.pr (.val (.pair (.int .i64) (.pair (.sl false (.arr 2 (.int .i64))) .unit))) (.pr (.val (.sl false (.int .i64))) .un)) (a0, (a1, ()))) = f35 N a0 a1 := by kernel_rfl
theorem k35 (N : Nat) : CalleeOK Go.Proofs.Try.prog 35 (c35 N) :=
  fn_ok (fn := Go.Proofs.Try.f35) (body := b35) (c := x35 N) Go.Proofs.Try.func35 (by kernel_rfl) (by kernel_rfl) ⟨ttL_ok, mtL_ok, eqL_ok, ctL_ok, msL_ok, env_cons (forall_mem1 (k39 N)) (env_cons (forall_mem1 (k41 N)) (env_cons (forall_mem1 (k51 N)) (env_nil)))⟩ mixed (by kernel_rfl) (Nat.le_of_ble_eq_true (by kernel_rfl)) (by kernel_rfl) (by decide)
    (loops_ok (by kernel_rfl : loopsOf b35 = []) .nil) fun d => e35 N d.1 d.2.1
def f10 (N : Nat) (a0 : (Int × (List (List Int) × Unit))) (a1 : List Int) (a2 : Int) : Option (Bool) :=
  (f13 N).bind fun r =>
  cond (!r)
    (some false)
    ((f14 N a0).bind fun r_1 =>
    (cond (!r_1)
        (some true)
        (some (decide (10 < (len a1))))).bind fun b =>
    cond b
      (some true)
      ((f22 N a0).bind fun r_2 =>
      (f34 N a0).bind fun r_3 =>
      cond (!(decide (r_3 = r_2)))
        (some false)
        ((f24 N a0).bind fun r_4 =>
        (f35 N a0 a1).bind fun r_5 =>
        (f15 N a0 a2 a2).bind fun r_6 =>
        (f20 N a0).bind fun r_7 =>
        (f36 N a0 a1).bind fun r_8 =>
        (f16 N a0 a2 a2).bind fun r_9 =>
        (cond (!(decide (r_2 = 0)))
            ((cond (!(decide ((len r_4.1.2.1) = 0)))
                (some true)
                (some (!(decide (r_4.1.1 = 0))))).bind fun b_1 =>
            (cond b_1
                (some true)
                (some (!(decide ((len r_7.1) = 0))))).bind fun b_2 =>
            some b_2)
            (some false)).bind fun b_3 =>
        cond b_3
          (some false)
          ((cond (decide (r_4.2 = r_2))
              (some (decide (r_5.2 = r_8.2)))
              (some false)).bind fun b_4 =>
          (cond b_4
              (some (decide (r_6.2 = r_9.2)))
              (some false)).bind fun b_5 =>
          (cond b_5
              (some (decide (r_7.2 = r_2)))
              (some false)).bind fun b_6 =>
          some b_6))))
def c10 (N : Nat) : Callee := .pure (.pr (.val (.pair (.int .i64) (.pair (.sl false (.arr 2 (.int .i64))) .unit))) (.pr (.val (.sl false (.int .i64))) (.pr (.val (.int .i64)) .un))) [.bool] fun d => f10 N d.1 d.2.1 d.2.2.1
def lp10 (N : Nat) : Nat → Option LoopFn := fun r => none
def x10 (N : Nat) : Ctx := { fuel := N, tt := getL ttL, mt := getL mtL, ntmps := 108, env := fun f => (getL [(13, [c13 N]), (14, [c14 N]), (22, [c22 N]), (34, [c34 N]), (24, [c24 N]), (35, [c35 N]), (15, [c15 N]), (20, [c20 N]), (36, [c36 N]), (16, [c16 N])] f).getD [], cut := getL [], exits := fun r => getL ((getL [] r).getD []), res := ⟨[6], []⟩, own := fun _ => none, lp := lp10 N, eqs := fun T => memN T eqL, ct := fun T => memN T ctL, ms := getMs msL }
noncomputable def b10 : Code := ((Go.Proofs.Try.f10).body).getD .skip
theorem e10 (N : Nat) (a0 : (Int × (List (List Int) × Unit))) (a1 : List Int) (a2 : Int) : bodyK (x10 N) [.bool] [.tmp 6] b10 (entry (.pr (.val (.pair (.int .i64) (.pair (.sl false (.arr 2 (.int .i64))) .unit))) (.pr (.val (.sl false (.int .i64))) (.pr (.val (.int .i64)) .un))) (a0, (a1, (a2, ())))) = f10 N a0 a1 a2 := by kernel_rfl
theorem k10 (N : Nat) : CalleeOK Go.Proofs.Try.prog 10 (c10 N) :=
  fn_ok (fn := Go.Proofs.Try.f10) (body := b10) (c := x10 N) Go.Proofs.Try.func10 (by kernel_rfl) (by kernel_rfl) ⟨ttL_ok, mtL_ok, eqL_ok, ctL_ok, msL_ok, env_cons (forall_mem1 (k13 N)) (env_cons (forall_mem1 (k14 N)) (env_cons (forall_mem1 (k22 N)) (env_cons (forall_mem1 (k34 N)) (env_cons (forall_mem1 (k24 N)) (env_cons (forall_mem1 (k35 N)) (env_cons (forall_mem1 (k15 N)) (env_cons (forall_mem1 (k20 N)) (env_cons (forall_mem1 (k36 N)) (env_cons (forall_mem1 (k16 N)) (env_nil))))))))))⟩ mixed (by kernel_rfl) (Nat.le_of_ble_eq_true (by kernel_rfl)) (by kernel_rfl) (by decide)
    (loops_ok (by kernel_rfl : loopsOf b10 = []) .nil) fun d => e10 N d.1 d.2.1 d.2.2.1
end
end Go.Kz
