/-
  The functions of the program as plain functions on lists and numbers, and the proofs that the program computes them. Printed by a program.
-/
import Derived.Test.YtakifbcgkbfclaaKzAR
import Derived.Test.YtakifbcgkbfclaaProg
import Derived.Test.YtakifbcgkbfclaaKzAQ
import Derived.Test.YtakifbcgkbfclaaKzL44
set_option linter.unusedSimpArgs false
set_option maxRecDepth 100000
set_option linter.unusedVariables false
namespace Go.Kz
open Go.Proofs
noncomputable section

def ttL : List (Nat × Ty) := [(2, (.int .i64)), (3, (.int .i64)), (4, .bool), (5, (.int .u8)), (6, (.int .u8)), (7, (.pair (.int .i64) (.pair (.int .i64) (.pair .bool (.pair (.int .u8) .unit))))), (8, (.pair (.int .i64) (.pair (.int .i64) (.pair .bool (.pair (.int .u8) .unit))))), (9, .str), (10, .str), (11, .str), (12, (.int .u64)), (13, (.pair .str (.pair (.int .u64) .unit))), (14, (.pair .str (.pair (.int .u64) .unit))), (21, (.int .i32)), (22, (.sl false (.pair (.int .i64) (.pair (.int .i64) .unit)))), (23, (.sl false (.int .i64))), (25, (.int .i64)), (31, (.sl false (.sl false (.int .i64)))), (32, (.sl false (.sl false (.int .i64)))), (33, (.pair (.sl false (.sl false (.int .i64))) (.pair (.int .i64) .unit))), (34, (.pair (.sl false (.sl false (.int .i64))) (.pair (.int .i64) .unit))), (43, (.pair (.int .i64) (.pair (.int .i64) .unit))), (44, (.pair (.int .i64) (.pair (.int .i64) .unit))), (67, (.int .u64)), (70, (.int .i64)), (78, (.int .u32)), (80, (.int .u64)), (81, (.int .u64)), (97, (.int .u8)), (98, (.int .u8)), (101, (.int .i32)), (102, (.int .i32))]
def mtL : List (Nat × Ty × Ty) := []
def eqL : List Nat := [7, 8, 43, 44]

theorem ttL_ok : TtOK Go.Proofs.Try.prog (getL ttL) := ttB_ok (by kernel_rfl)
theorem mtL_ok : MtOK Go.Proofs.Try.prog (getL mtL) := mtB_ok (by kernel_rfl)
theorem eqL_ok : EqsOK Go.Proofs.Try.prog (fun T => memN T eqL) := eqsB_ok (by kernel_rfl)
theorem mixed : Go.Proofs.Try.prog.follows .mixedOrders = true := by kernel_rfl

/-! ### 12: keyhole/bucket.Check -/
def f12_L6 {R : Type} (N : Nat) (t0 : List (Int × (Int × Unit))) (t11 : List (Int × (Int × Unit))) (t12 : Int) (kb : Int → Option R) (kret : Int → Option R) (kx0 : Unit → Option R) : Int → Option R :=
  fun t13 =>
    cond (decide (t13 < t12))
      ((idx t11 t13).bind fun x =>
      (cond (decide (x.1 < 0))
          (some true)
          (some (decide (67108864 < x.1)))).bind fun b =>
      (cond b
          (some true)
          (some (decide (x.2.1 < 1)))).bind fun b_1 =>
      (cond b_1
          (some true)
          (some (decide (65536 < x.2.1)))).bind fun b_2 =>
      cond b_2
        (kret 3)
        ((cond (decide (0 < t13))
            ((idx t0 (wi64 (t13 - 1))).bind fun x_1 =>
            some (decide (x.1 ≤ x_1.1)))
            (some false)).bind fun b_3 =>
        cond b_3
          (kret 10)
          (kb (wi64 (t13 + 1)))))
      (kx0 ())
def f12 (N : Nat) (a0 : List (Int × (Int × Unit))) : Option (Int) :=
  cond (decide ((len a0) = 0))
    (some 1)
    (cond (decide (64 < (len a0)))
      (some 4)
      (iter (fun w => f12_L6 N a0 a0 (len a0) w
        (fun t2 =>
          some t2)
        (fun (_ : Unit) =>
          some 0)) N 0))
def c12 (N : Nat) : Callee := .pure (.pr (.val (.sl false (.pair (.int .i64) (.pair (.int .i64) .unit)))) .un) [(.int .i64)] fun d => f12 N d.1
def F12_6 : SForm := ⟨[(13, (.val (.int .i64))), (0, (.val (.sl false (.pair (.int .i64) (.pair (.int .i64) .unit))))), (11, (.val (.sl false (.pair (.int .i64) (.pair (.int .i64) .unit))))), (12, (.val (.int .i64)))], []⟩
def G12_6 (N : Nat) : (R : Type) → F12_6.den → (AExit → St → Option R) → Option R := fun R d k => iter (fun kb => f12_L6 N d.1.2.1 d.1.2.2.1 d.1.2.2.2.1 kb
    (fun y0 => k .ret (St.of [(2, (.data (.int .i64) y0))] []))
    (fun _ => k (.exit 0) (St.of [] []))) N d.1.1
def lp12 (N : Nat) : Nat → Option LoopFn := fun r => cond (Nat.beq r 6) (some fun R sl os k => F12_6.take sl os fun d => G12_6 N R d k) (none)
def x12 (N : Nat) : Ctx := { fuel := N, tt := getL ttL, mt := getL mtL, ntmps := 50, env := fun f => (getL [] f).getD [], cut := getL [(6, ⟨[13, 0, 11, 12], []⟩)], exits := fun r => getL ((getL [(6, [(0, ⟨[], []⟩)])] r).getD []), res := ⟨[2], []⟩, own := fun _ => none, lp := lp12 N, eqs := fun T => memN T eqL }
noncomputable def b12 : Code := ((Go.Proofs.Try.f12).body).getD .skip
theorem s12_6 (N : Nat) {R : Type} (k : AExit → St → Option R) (t0 : List (Int × (Int × Unit))) (t11 : List (Int × (Int × Unit))) (t12 : Int) (kb : List (Nat × AVal) → List Obj → Option R) (x : Int) : codeK (x12 N) (loopAt 6 (loopsOf b12)) (St.of [(13, (.data (.int .i64) x)), (0, (.data (.sl false (.pair (.int .i64) (.pair (.int .i64) .unit))) t0)), (11, (.data (.sl false (.pair (.int .i64) (.pair (.int .i64) .unit))) t11)), (12, (.data (.int .i64) t12))] []) (kLoop (x12 N) 6 ⟨[13, 0, 11, 12], []⟩ kb k) = f12_L6 N t0 t11 t12 (fun y => kb [(13, (.data (.int .i64) y)), (0, (.data (.sl false (.pair (.int .i64) (.pair (.int .i64) .unit))) t0)), (11, (.data (.sl false (.pair (.int .i64) (.pair (.int .i64) .unit))) t11)), (12, (.data (.int .i64) t12))] [])
    (fun y0 => k .ret (St.of [(2, (.data (.int .i64) y0))] []))
    (fun _ => k (.exit 0) (St.of [] [])) x := by kernel_rfl
theorem l12_6 (N : Nat) : LoopOK (x12 N) (loopAt 6 (loopsOf b12)) :=
  loop_mk (G12_6 N) (by kernel_rfl) (by kernel_rfl) (by kernel_rfl) fun R k d =>
    loop_eq (st := fun (x : Int) => ([(13, (.data (.int .i64) x)), (0, (.data (.sl false (.pair (.int .i64) (.pair (.int .i64) .unit))) d.1.2.1)), (11, (.data (.sl false (.pair (.int .i64) (.pair (.int .i64) .unit))) d.1.2.2.1)), (12, (.data (.int .i64) d.1.2.2.2.1))], [])) (s12_6 N k d.1.2.1 d.1.2.2.1 d.1.2.2.2.1) N d.1.1
theorem e12 (N : Nat) (a0 : List (Int × (Int × Unit))) : bodyK (x12 N) [(.int .i64)] [.tmp 2] b12 (entry (.pr (.val (.sl false (.pair (.int .i64) (.pair (.int .i64) .unit)))) .un) (a0, ())) = f12 N a0 := by kernel_rfl
theorem k12 (N : Nat) : CalleeOK Go.Proofs.Try.prog 12 (c12 N) :=
  fn_ok (fn := Go.Proofs.Try.f12) (body := b12) (c := x12 N) Go.Proofs.Try.func12 (by kernel_rfl) (by kernel_rfl) ⟨ttL_ok, mtL_ok, eqL_ok, env_nil⟩ mixed (by kernel_rfl) (Nat.le_of_ble_eq_true (by kernel_rfl)) (by kernel_rfl) (by decide)
    (loops_ok (by kernel_rfl : loopsOf b12 = [loopAt 6 (loopsOf b12)]) (.cons (l12_6 N) .nil)) fun d => e12 N d.1
/-! ### 39: keyhole/bucket.group -/
def f39_L3 {R : Type} (N : Nat) (t15 : List (Int × (Int × Unit))) (t16 : Int) (o4 : List (Int × (Int × Unit))) (kb : Int × List Int × List Int → Option R) (kx0 : (List Int) → (List Int) → Option R) : Int × List Int × List Int → Option R :=
  fun (t17, o1, o3) =>
    cond (decide (t17 < t16))
      ((idx t15 t17).bind fun x =>
      chk (inb o3 t17) <|
      (idx o3 t17).bind fun x_1 =>
      chk (inb o3 (wi64 (t17 + 1))) <|
      (idx o3 (wi64 (t17 + 1))).bind fun x_2 =>
      (idx o3 (wi64 (t17 + 1))).bind fun x_3 =>
      chk (inb o1 t17) <|
      (idx o1 t17).bind fun x_4 =>
      chk (inb o1 (wi64 (t17 + 1))) <|
      (idx o1 (wi64 (t17 + 1))).bind fun x_5 =>
      (idx o1 (wi64 (t17 + 1))).bind fun x_6 =>
      kb ((wi64 (t17 + 1)), (setI o1 (wi64 (t17 + 1)) (wi64 (x_4 + (wi64 (x.2.1 * x.1))))), (setI o3 (wi64 (t17 + 1)) (wi64 (x_1 + x.2.1)))))
      (kx0 o3 o1)
def f39 (N : Nat) (a0 : List (Int × (Int × Unit))) : Option ((List (Int × (Int × Unit)) × (List Int × (List Int × Unit)))) :=
  chk (((decide (0 ≤ (wi64 ((len a0) + 1)))) && (decide ((wi64 ((len a0) + 1)) ≤ (wi64 ((len a0) + 1))))) && (decide ((wi64 ((len a0) + 1)) ≤ ((room : Nat) : Int)))) <|
  chk (((decide (0 ≤ (wi64 ((len a0) + 1)))) && (decide ((wi64 ((len a0) + 1)) ≤ (wi64 ((len a0) + 1))))) && (decide ((wi64 ((len a0) + 1)) ≤ ((room : Nat) : Int)))) <|
  iter (fun w => f39_L3 N a0 (len a0) a0 w
    (fun o2 o4_1 =>
      some (a0, (o2, (o4_1, ()))))) N (0, (List.replicate (Int.toNat (wi64 ((len a0) + 1))) 0 : List Int), (List.replicate (Int.toNat (wi64 ((len a0) + 1))) 0 : List Int))
def c39 (N : Nat) : Callee := .pure (.pr (.val (.sl false (.pair (.int .i64) (.pair (.int .i64) .unit)))) .un) [(.fn 43 (.pair (.ptr (.sl false (.pair (.int .i64) (.pair (.int .i64) .unit)))) (.pair (.ptr (.sl false (.int .i64))) (.pair (.ptr (.sl false (.int .i64))) .unit))))] fun d => f39 N d.1
def F39_3 : SForm := ⟨[(17, (.val (.int .i64))), (4, (.bptr 0 [])), (3, (.bptr 2 [])), (15, (.val (.sl false (.pair (.int .i64) (.pair (.int .i64) .unit))))), (1, (.bptr 4 [])), (16, (.val (.int .i64)))], [.cell (.ref 1), .row (.int .i64), .cell (.ref 3), .row (.int .i64), .cell (.val (.sl false (.pair (.int .i64) (.pair (.int .i64) .unit))))]⟩
def G39_3 (N : Nat) : (R : Type) → F39_3.den → (AExit → St → Option R) → Option R := fun R d k => iter (fun kb => f39_L3 N d.1.2.2.2.1 d.1.2.2.2.2.2.1 d.2.2.2.2.2.1 kb
    (fun y1 y2 => k (.exit 0) (St.of [(1, (.bptr 0 [])), (3, (.bptr 1 [])), (4, (.bptr 3 []))] [.cell (.data (.sl false (.pair (.int .i64) (.pair (.int .i64) .unit))) d.2.2.2.2.2.1), .cell (.ref 2 [] 0), .row (.int .i64) y1 0, .cell (.ref 4 [] 0), .row (.int .i64) y2 0]))) N (d.1.1, d.2.2.1, d.2.2.2.2.1)
def lp39 (N : Nat) : Nat → Option LoopFn := fun r => cond (Nat.beq r 3) (some fun R sl os k => F39_3.take sl os fun d => G39_3 N R d k) (none)
def x39 (N : Nat) : Ctx := { fuel := N, tt := getL ttL, mt := getL mtL, ntmps := 49, env := fun f => (getL [] f).getD [], cut := getL [(3, ⟨[17, 4, 3, 15, 1, 16], []⟩)], exits := fun r => getL ((getL [(3, [(0, ⟨[1, 3, 4], []⟩)])] r).getD []), res := ⟨[2], []⟩, own := fun _ => none, lp := lp39 N, eqs := fun T => memN T eqL }
noncomputable def b39 : Code := ((Go.Proofs.Try.f39).body).getD .skip
theorem s39_3 (N : Nat) {R : Type} (k : AExit → St → Option R) (t15 : List (Int × (Int × Unit))) (t16 : Int) (o4 : List (Int × (Int × Unit))) (kb : List (Nat × AVal) → List Obj → Option R) (x : Int × List Int × List Int) : codeK (x39 N) (loopAt 3 (loopsOf b39)) (St.of [(17, (.data (.int .i64) x.1)), (4, (.bptr 0 [])), (3, (.bptr 2 [])), (15, (.data (.sl false (.pair (.int .i64) (.pair (.int .i64) .unit))) t15)), (1, (.bptr 4 [])), (16, (.data (.int .i64) t16))] [.cell (.ref 1 [] 0), .row (.int .i64) x.2.1 0, .cell (.ref 3 [] 0), .row (.int .i64) x.2.2 0, .cell (.data (.sl false (.pair (.int .i64) (.pair (.int .i64) .unit))) o4)]) (kLoop (x39 N) 3 ⟨[17, 4, 3, 15, 1, 16], []⟩ kb k) = f39_L3 N t15 t16 o4 (fun y => kb [(17, (.data (.int .i64) y.1)), (4, (.bptr 0 [])), (3, (.bptr 2 [])), (15, (.data (.sl false (.pair (.int .i64) (.pair (.int .i64) .unit))) t15)), (1, (.bptr 4 [])), (16, (.data (.int .i64) t16))] [.cell (.ref 1 [] 0), .row (.int .i64) y.2.1 0, .cell (.ref 3 [] 0), .row (.int .i64) y.2.2 0, .cell (.data (.sl false (.pair (.int .i64) (.pair (.int .i64) .unit))) o4)])
    (fun y1 y2 => k (.exit 0) (St.of [(1, (.bptr 0 [])), (3, (.bptr 1 [])), (4, (.bptr 3 []))] [.cell (.data (.sl false (.pair (.int .i64) (.pair (.int .i64) .unit))) o4), .cell (.ref 2 [] 0), .row (.int .i64) y1 0, .cell (.ref 4 [] 0), .row (.int .i64) y2 0])) x := by kernel_rfl
theorem l39_3 (N : Nat) : LoopOK (x39 N) (loopAt 3 (loopsOf b39)) :=
  loop_mk (G39_3 N) (by kernel_rfl) (by kernel_rfl) (by kernel_rfl) fun R k d =>
    loop_eq (st := fun (x : Int × List Int × List Int) => ([(17, (.data (.int .i64) x.1)), (4, (.bptr 0 [])), (3, (.bptr 2 [])), (15, (.data (.sl false (.pair (.int .i64) (.pair (.int .i64) .unit))) d.1.2.2.2.1)), (1, (.bptr 4 [])), (16, (.data (.int .i64) d.1.2.2.2.2.2.1))], [.cell (.ref 1 [] 0), .row (.int .i64) x.2.1 0, .cell (.ref 3 [] 0), .row (.int .i64) x.2.2 0, .cell (.data (.sl false (.pair (.int .i64) (.pair (.int .i64) .unit))) d.2.2.2.2.2.1)])) (s39_3 N k d.1.2.2.2.1 d.1.2.2.2.2.2.1 d.2.2.2.2.2.1) N (d.1.1, d.2.2.1, d.2.2.2.2.1)
theorem e39 (N : Nat) (a0 : List (Int × (Int × Unit))) : bodyK (x39 N) [(.fn 43 (.pair (.ptr (.sl false (.pair (.int .i64) (.pair (.int .i64) .unit)))) (.pair (.ptr (.sl false (.int .i64))) (.pair (.ptr (.sl false (.int .i64))) .unit))))] [.tmp 2] b39 (entry (.pr (.val (.sl false (.pair (.int .i64) (.pair (.int .i64) .unit)))) .un) (a0, ())) = f39 N a0 := by kernel_rfl
theorem k39 (N : Nat) : CalleeOK Go.Proofs.Try.prog 39 (c39 N) :=
  fn_ok (fn := Go.Proofs.Try.f39) (body := b39) (c := x39 N) Go.Proofs.Try.func39 (by kernel_rfl) (by kernel_rfl) ⟨ttL_ok, mtL_ok, eqL_ok, env_nil⟩ mixed (by kernel_rfl) (Nat.le_of_ble_eq_true (by kernel_rfl)) (by kernel_rfl) (by decide)
    (loops_ok (by kernel_rfl : loopsOf b39 = [loopAt 3 (loopsOf b39)]) (.cons (l39_3 N) .nil)) fun d => e39 N d.1
/-! ### 43: keyhole/bucket.group$1 -/
def f43 (N : Nat) (a0 : Int) (a1 : Int) (a2 : List (Int × (Int × Unit))) (a3 : List Int) (a4 : List Int) : Option (Int) :=
  cond (decide (a0 = a1))
    (some 0)
    ((idx a2 (wi64 (a1 - 1))).bind fun x =>
    (idx a3 a1).bind fun x_1 =>
    (idx a3 a0).bind fun x_2 =>
    (idx a4 a1).bind fun x_3 =>
    (idx a4 a0).bind fun x_4 =>
    some (wi64 ((wi64 (x.1 * (wi64 (x_1 - x_2)))) - (wi64 (x_3 - x_4)))))
def c43 (N : Nat) : Callee := .pure (.pr (.val (.int .i64)) (.pr (.val (.int .i64)) (.pr (.val (.ptr (.sl false (.pair (.int .i64) (.pair (.int .i64) .unit))))) (.pr (.val (.ptr (.sl false (.int .i64)))) (.pr (.val (.ptr (.sl false (.int .i64)))) .un))))) [(.int .i64)] fun d => f43 N d.1 d.2.1 d.2.2.1 d.2.2.2.1 d.2.2.2.2.1
def lp43 (N : Nat) : Nat → Option LoopFn := fun r => none
def x43 (N : Nat) : Ctx := { fuel := N, tt := getL ttL, mt := getL mtL, ntmps := 37, env := fun f => (getL [] f).getD [], cut := getL [], exits := fun r => getL ((getL [] r).getD []), res := ⟨[7], []⟩, own := fun _ => none, lp := lp43 N, eqs := fun T => memN T eqL }
noncomputable def b43 : Code := ((Go.Proofs.Try.f43).body).getD .skip
theorem e43 (N : Nat) (a0 : Int) (a1 : Int) (a2 : List (Int × (Int × Unit))) (a3 : List Int) (a4 : List Int) : bodyK (x43 N) [(.int .i64)] [.tmp 7] b43 (entry (.pr (.val (.int .i64)) (.pr (.val (.int .i64)) (.pr (.val (.ptr (.sl false (.pair (.int .i64) (.pair (.int .i64) .unit))))) (.pr (.val (.ptr (.sl false (.int .i64)))) (.pr (.val (.ptr (.sl false (.int .i64)))) .un))))) (a0, (a1, (a2, (a3, (a4, ())))))) = f43 N a0 a1 a2 a3 a4 := by kernel_rfl
theorem k43 (N : Nat) : CalleeOK Go.Proofs.Try.prog 43 (c43 N) :=
  fn_ok (fn := Go.Proofs.Try.f43) (body := b43) (c := x43 N) Go.Proofs.Try.func43 (by kernel_rfl) (by kernel_rfl) ⟨ttL_ok, mtL_ok, eqL_ok, env_nil⟩ mixed (by kernel_rfl) (Nat.le_of_ble_eq_true (by kernel_rfl)) (by kernel_rfl) (by decide)
    (loops_ok (by kernel_rfl : loopsOf b43 = []) .nil) fun d => e43 N d.1 d.2.1 d.2.2.1 d.2.2.2.1 d.2.2.2.2.1
/-! ### 38: keyhole/bucket.table -/
def f38_L13 {R : Type} (N : Nat) (t9 : Int) (t5_2 : (List (Int × (Int × Unit)) × (List Int × (List Int × Unit)))) (t7_1 : Int) (t0_2 : List (Int × (Int × Unit))) (t17_2 : Int) (t18_2 : Int) (t26_1 : Int) (t27_1 : Int) (t36 : Int) (o0_2 : List (List Int)) (kb : Int × List Int → Option R) (kx4 : (List Int) → Option R) : Int × List Int → Option R :=
  fun (t37, o1_1) =>
    cond (decide (t37 < t36))
      ((cond (decide (1 < t7_1))
          (some true)
          (some (decide (t37 = 0)))).bind fun b =>
      cond b
        (chk (inb o1_1 t9) <|
        (idx o1_1 t9).bind fun x_2 =>
        chk (inb o0_2 (wi64 (t7_1 - 1))) <|
        (idx o0_2 (wi64 (t7_1 - 1))).bind fun x_3 =>
        (idx o0_2 (wi64 (t7_1 - 1))).bind fun x_4 =>
        chk (inb x_4 t37) <|
        (idx o0_2 (wi64 (t7_1 - 1))).bind fun x_5 =>
        (idx x_5 t37).bind fun x_6 =>
        (f43 N t37 t9 t5_2.1 t5_2.2.1 t5_2.2.2.1).bind fun r_1 =>
        chk (inb o1_1 t9) <|
        (idx o1_1 t9).bind fun x_7 =>
        (idx o1_1 t9).bind fun x_8 =>
        kb ((wi64 (t37 + 1)), (setI o1_1 t9 (minI x_2 (wi64 (x_6 + r_1))))))
        (kb ((wi64 (t37 + 1)), o1_1)))
      (kx4 o1_1)
def f38_L8 {R : Type} (N : Nat) (t5_1 : (List (Int × (Int × Unit)) × (List Int × (List Int × Unit)))) (t7 : Int) (t0_1 : List (Int × (Int × Unit))) (t17_1 : Int) (t18_1 : Int) (t26 : Int) (o0_1 : List (List Int)) (kb : Int × List Int → Option R) (kx2 : (List Int) → Option R) : Int × List Int → Option R :=
  fun (t27, o1) =>
    cond (decide (t27 < t26))
      (chk (inb o1 t27) <|
      (idx o1 t27).bind fun x =>
      (idx o1 t27).bind fun x_1 =>
      cond (decide (t7 = 0))
        (kb ((wi64 (t27 + 1)), (setI o1 t27 1152921504606846976)))
        (iter (fun w => f38_L13 N t27 t5_1 t7 t0_1 t17_1 t18_1 t26 t27 (wi64 (t27 + 1)) o0_1 w
          (fun o1_2 =>
            kb ((wi64 (t27 + 1)), o1_2))) N (0, (setI o1 t27 1152921504606846976))))
      (kx2 o1)
def f38_L4 {R : Type} (N : Nat) (t5 : (List (Int × (Int × Unit)) × (List Int × (List Int × Unit)))) (t0 : List (Int × (Int × Unit))) (t17 : Int) (kb : Int × List (List Int) → Option R) (kx0 : (List (List Int)) → Option R) : Int × List (List Int) → Option R :=
  fun (t18, o0) =>
    cond (decide (t18 < t17))
      (chk (((decide (0 ≤ (wi64 ((len t0) + 1)))) && (decide ((wi64 ((len t0) + 1)) ≤ (wi64 ((len t0) + 1))))) && (decide ((wi64 ((len t0) + 1)) ≤ ((room : Nat) : Int)))) <|
      iter (fun w => f38_L8 N t5 t18 t0 t17 t18 (len (List.replicate (Int.toNat (wi64 ((len t0) + 1))) 0 : List Int)) o0 w
        (fun o1_3 =>
          cond (decide (t18 = 0))
            (chk (inb o1_3 0) <|
            (idx o1_3 0).bind fun x_9 =>
            (idx o1_3 0).bind fun x_10 =>
            chk (inb o0 t18) <|
            (idx o0 t18).bind fun x_11 =>
            kb ((wi64 (t18 + 1)), (setI o0 t18 (setI o1_3 0 0))))
            (chk (inb o0 t18) <|
            (idx o0 t18).bind fun x_12 =>
            kb ((wi64 (t18 + 1)), (setI o0 t18 o1_3))))) N (0, (List.replicate (Int.toNat (wi64 ((len t0) + 1))) 0 : List Int)))
      (kx0 o0)
def f38 (N : Nat) (a0 : List (Int × (Int × Unit))) (a1 : Int) : Option (List (List Int)) :=
  (f39 N a0).bind fun r =>
  chk (((decide (0 ≤ (wi64 (a1 + 1)))) && (decide ((wi64 (a1 + 1)) ≤ (wi64 (a1 + 1))))) && (decide ((wi64 (a1 + 1)) ≤ ((room : Nat) : Int)))) <|
  iter (fun w => f38_L4 N r a0 (len (List.replicate (Int.toNat (wi64 (a1 + 1))) ([] : List Int) : List (List Int))) w
    (fun o0_3 =>
      some o0_3)) N (0, (List.replicate (Int.toNat (wi64 (a1 + 1))) ([] : List Int) : List (List Int)))
def c38 (N : Nat) : Callee := .pure (.pr (.val (.sl false (.pair (.int .i64) (.pair (.int .i64) .unit)))) (.pr (.val (.int .i64)) .un)) [(.sl false (.sl false (.int .i64)))] fun d => f38 N d.1 d.2.1
def F38_13 : SForm := ⟨[(37, (.val (.int .i64))), (9, (.val (.int .i64))), (5, (.val (.fn 43 (.pair (.ptr (.sl false (.pair (.int .i64) (.pair (.int .i64) .unit)))) (.pair (.ptr (.sl false (.int .i64))) (.pair (.ptr (.sl false (.int .i64))) .unit)))))), (7, (.val (.int .i64))), (6, (.nv 0)), (8, (.ref 1)), (0, (.val (.sl false (.pair (.int .i64) (.pair (.int .i64) .unit))))), (17, (.val (.int .i64))), (18, (.val (.int .i64))), (26, (.val (.int .i64))), (27, (.val (.int .i64))), (36, (.val (.int .i64)))], [.nest (.sl true (.int .i64)), .row (.int .i64)]⟩
def G38_13 (N : Nat) : (R : Type) → F38_13.den → (AExit → St → Option R) → Option R := fun R d k => iter (fun kb => f38_L13 N d.1.2.1 d.1.2.2.1 d.1.2.2.2.1 d.1.2.2.2.2.2.2.1 d.1.2.2.2.2.2.2.2.1 d.1.2.2.2.2.2.2.2.2.1 d.1.2.2.2.2.2.2.2.2.2.1 d.1.2.2.2.2.2.2.2.2.2.2.1 d.1.2.2.2.2.2.2.2.2.2.2.2.1 d.2.1 kb
    (fun y8 => k (.exit 4) (St.of [(5, (.data (.fn 43 (.pair (.ptr (.sl false (.pair (.int .i64) (.pair (.int .i64) .unit)))) (.pair (.ptr (.sl false (.int .i64))) (.pair (.ptr (.sl false (.int .i64))) .unit)))) d.1.2.2.1)), (7, (.data (.int .i64) d.1.2.2.2.1)), (6, (.nv false 0 [] 0)), (8, (.ref 1 [] 0)), (0, (.data (.sl false (.pair (.int .i64) (.pair (.int .i64) .unit))) d.1.2.2.2.2.2.2.1)), (17, (.data (.int .i64) d.1.2.2.2.2.2.2.2.1)), (18, (.data (.int .i64) d.1.2.2.2.2.2.2.2.2.1)), (26, (.data (.int .i64) d.1.2.2.2.2.2.2.2.2.2.1)), (27, (.data (.int .i64) d.1.2.2.2.2.2.2.2.2.2.2.1))] [.nest (.sl true (.int .i64)) d.2.1 0 0 none, .row (.int .i64) y8 0]))) N (d.1.1, d.2.2.1)
def F38_8 : SForm := ⟨[(27, (.val (.int .i64))), (5, (.val (.fn 43 (.pair (.ptr (.sl false (.pair (.int .i64) (.pair (.int .i64) .unit)))) (.pair (.ptr (.sl false (.int .i64))) (.pair (.ptr (.sl false (.int .i64))) .unit)))))), (7, (.val (.int .i64))), (6, (.nv 0)), (8, (.ref 1)), (0, (.val (.sl false (.pair (.int .i64) (.pair (.int .i64) .unit))))), (17, (.val (.int .i64))), (18, (.val (.int .i64))), (26, (.val (.int .i64)))], [.nest (.sl true (.int .i64)), .row (.int .i64)]⟩
def G38_8 (N : Nat) : (R : Type) → F38_8.den → (AExit → St → Option R) → Option R := fun R d k => iter (fun kb => f38_L8 N d.1.2.1 d.1.2.2.1 d.1.2.2.2.2.2.1 d.1.2.2.2.2.2.2.1 d.1.2.2.2.2.2.2.2.1 d.1.2.2.2.2.2.2.2.2.1 d.2.1 kb
    (fun y6 => k (.exit 2) (St.of [(5, (.data (.fn 43 (.pair (.ptr (.sl false (.pair (.int .i64) (.pair (.int .i64) .unit)))) (.pair (.ptr (.sl false (.int .i64))) (.pair (.ptr (.sl false (.int .i64))) .unit)))) d.1.2.1)), (6, (.nv false 0 [] 0)), (0, (.data (.sl false (.pair (.int .i64) (.pair (.int .i64) .unit))) d.1.2.2.2.2.2.1)), (17, (.data (.int .i64) d.1.2.2.2.2.2.2.1)), (18, (.data (.int .i64) d.1.2.2.2.2.2.2.2.1)), (8, (.ref 1 [] 0)), (7, (.data (.int .i64) d.1.2.2.1))] [.nest (.sl true (.int .i64)) d.2.1 0 0 none, .row (.int .i64) y6 0]))) N (d.1.1, d.2.2.1)
def F38_4 : SForm := ⟨[(5, (.val (.fn 43 (.pair (.ptr (.sl false (.pair (.int .i64) (.pair (.int .i64) .unit)))) (.pair (.ptr (.sl false (.int .i64))) (.pair (.ptr (.sl false (.int .i64))) .unit)))))), (6, (.nv 0)), (18, (.val (.int .i64))), (0, (.val (.sl false (.pair (.int .i64) (.pair (.int .i64) .unit))))), (17, (.val (.int .i64)))], [.nest (.sl true (.int .i64))]⟩
def G38_4 (N : Nat) : (R : Type) → F38_4.den → (AExit → St → Option R) → Option R := fun R d k => iter (fun kb => f38_L4 N d.1.1 d.1.2.2.2.1 d.1.2.2.2.2.1 kb
    (fun y0 => k (.exit 0) (St.of [(6, (.nv false 0 [] 0))] [.nest (.sl true (.int .i64)) y0 0 0 none]))) N (d.1.2.2.1, d.2.1)
def lp38 (N : Nat) : Nat → Option LoopFn := fun r => cond (Nat.beq r 13) (some fun R sl os k => F38_13.take sl os fun d => G38_13 N R d k) (cond (Nat.beq r 8) (some fun R sl os k => F38_8.take sl os fun d => G38_8 N R d k) (cond (Nat.beq r 4) (some fun R sl os k => F38_4.take sl os fun d => G38_4 N R d k) (none)))
def x38 (N : Nat) : Ctx := { fuel := N, tt := getL ttL, mt := getL mtL, ntmps := 79, env := fun f => (getL [(39, [c39 N]), (43, [c43 N])] f).getD [], cut := getL [(4, ⟨[5, 6, 18, 0, 17], []⟩), (8, ⟨[27, 5, 7, 6, 8, 0, 17, 18, 26], []⟩), (13, ⟨[37, 9, 5, 7, 6, 8, 0, 17, 18, 26, 27, 36], []⟩)], exits := fun r => getL ((getL [(4, [(0, ⟨[6], []⟩)]), (8, [(2, ⟨[5, 6, 0, 17, 18, 8, 7], []⟩)]), (13, [(4, ⟨[5, 7, 6, 8, 0, 17, 18, 26, 27], []⟩)])] r).getD []), res := ⟨[4], []⟩, own := getL [(15, (.sl true (.sl true (.int .i64))))], lp := lp38 N, eqs := fun T => memN T eqL }
noncomputable def b38 : Code := ((Go.Proofs.Try.f38).body).getD .skip
theorem s38_13 (N : Nat) {R : Type} (k : AExit → St → Option R) (t9 : Int) (t5_2 : (List (Int × (Int × Unit)) × (List Int × (List Int × Unit)))) (t7_1 : Int) (t0_2 : List (Int × (Int × Unit))) (t17_2 : Int) (t18_2 : Int) (t26_1 : Int) (t27_1 : Int) (t36 : Int) (o0_2 : List (List Int)) (kb : List (Nat × AVal) → List Obj → Option R) (x : Int × List Int) : codeK (x38 N) (loopAt 13 (loopsOf b38)) (St.of [(37, (.data (.int .i64) x.1)), (9, (.data (.int .i64) t9)), (5, (.data (.fn 43 (.pair (.ptr (.sl false (.pair (.int .i64) (.pair (.int .i64) .unit)))) (.pair (.ptr (.sl false (.int .i64))) (.pair (.ptr (.sl false (.int .i64))) .unit)))) t5_2)), (7, (.data (.int .i64) t7_1)), (6, (.nv false 0 [] 0)), (8, (.ref 1 [] 0)), (0, (.data (.sl false (.pair (.int .i64) (.pair (.int .i64) .unit))) t0_2)), (17, (.data (.int .i64) t17_2)), (18, (.data (.int .i64) t18_2)), (26, (.data (.int .i64) t26_1)), (27, (.data (.int .i64) t27_1)), (36, (.data (.int .i64) t36))] [.nest (.sl true (.int .i64)) o0_2 0 0 none, .row (.int .i64) x.2 0]) (kLoop (x38 N) 13 ⟨[37, 9, 5, 7, 6, 8, 0, 17, 18, 26, 27, 36], []⟩ kb k) = f38_L13 N t9 t5_2 t7_1 t0_2 t17_2 t18_2 t26_1 t27_1 t36 o0_2 (fun y => kb [(37, (.data (.int .i64) y.1)), (9, (.data (.int .i64) t9)), (5, (.data (.fn 43 (.pair (.ptr (.sl false (.pair (.int .i64) (.pair (.int .i64) .unit)))) (.pair (.ptr (.sl false (.int .i64))) (.pair (.ptr (.sl false (.int .i64))) .unit)))) t5_2)), (7, (.data (.int .i64) t7_1)), (6, (.nv false 0 [] 0)), (8, (.ref 1 [] 0)), (0, (.data (.sl false (.pair (.int .i64) (.pair (.int .i64) .unit))) t0_2)), (17, (.data (.int .i64) t17_2)), (18, (.data (.int .i64) t18_2)), (26, (.data (.int .i64) t26_1)), (27, (.data (.int .i64) t27_1)), (36, (.data (.int .i64) t36))] [.nest (.sl true (.int .i64)) o0_2 0 0 none, .row (.int .i64) y.2 0])
    (fun y8 => k (.exit 4) (St.of [(5, (.data (.fn 43 (.pair (.ptr (.sl false (.pair (.int .i64) (.pair (.int .i64) .unit)))) (.pair (.ptr (.sl false (.int .i64))) (.pair (.ptr (.sl false (.int .i64))) .unit)))) t5_2)), (7, (.data (.int .i64) t7_1)), (6, (.nv false 0 [] 0)), (8, (.ref 1 [] 0)), (0, (.data (.sl false (.pair (.int .i64) (.pair (.int .i64) .unit))) t0_2)), (17, (.data (.int .i64) t17_2)), (18, (.data (.int .i64) t18_2)), (26, (.data (.int .i64) t26_1)), (27, (.data (.int .i64) t27_1))] [.nest (.sl true (.int .i64)) o0_2 0 0 none, .row (.int .i64) y8 0])) x := by kernel_rfl
theorem l38_13 (N : Nat) : LoopOK (x38 N) (loopAt 13 (loopsOf b38)) :=
  loop_mk (G38_13 N) (by kernel_rfl) (by kernel_rfl) (by kernel_rfl) fun R k d =>
    loop_eq (st := fun (x : Int × List Int) => ([(37, (.data (.int .i64) x.1)), (9, (.data (.int .i64) d.1.2.1)), (5, (.data (.fn 43 (.pair (.ptr (.sl false (.pair (.int .i64) (.pair (.int .i64) .unit)))) (.pair (.ptr (.sl false (.int .i64))) (.pair (.ptr (.sl false (.int .i64))) .unit)))) d.1.2.2.1)), (7, (.data (.int .i64) d.1.2.2.2.1)), (6, (.nv false 0 [] 0)), (8, (.ref 1 [] 0)), (0, (.data (.sl false (.pair (.int .i64) (.pair (.int .i64) .unit))) d.1.2.2.2.2.2.2.1)), (17, (.data (.int .i64) d.1.2.2.2.2.2.2.2.1)), (18, (.data (.int .i64) d.1.2.2.2.2.2.2.2.2.1)), (26, (.data (.int .i64) d.1.2.2.2.2.2.2.2.2.2.1)), (27, (.data (.int .i64) d.1.2.2.2.2.2.2.2.2.2.2.1)), (36, (.data (.int .i64) d.1.2.2.2.2.2.2.2.2.2.2.2.1))], [.nest (.sl true (.int .i64)) d.2.1 0 0 none, .row (.int .i64) x.2 0])) (s38_13 N k d.1.2.1 d.1.2.2.1 d.1.2.2.2.1 d.1.2.2.2.2.2.2.1 d.1.2.2.2.2.2.2.2.1 d.1.2.2.2.2.2.2.2.2.1 d.1.2.2.2.2.2.2.2.2.2.1 d.1.2.2.2.2.2.2.2.2.2.2.1 d.1.2.2.2.2.2.2.2.2.2.2.2.1 d.2.1) N (d.1.1, d.2.2.1)
theorem s38_8 (N : Nat) {R : Type} (k : AExit → St → Option R) (t5_1 : (List (Int × (Int × Unit)) × (List Int × (List Int × Unit)))) (t7 : Int) (t0_1 : List (Int × (Int × Unit))) (t17_1 : Int) (t18_1 : Int) (t26 : Int) (o0_1 : List (List Int)) (kb : List (Nat × AVal) → List Obj → Option R) (x : Int × List Int) : codeK (x38 N) (loopAt 8 (loopsOf b38)) (St.of [(27, (.data (.int .i64) x.1)), (5, (.data (.fn 43 (.pair (.ptr (.sl false (.pair (.int .i64) (.pair (.int .i64) .unit)))) (.pair (.ptr (.sl false (.int .i64))) (.pair (.ptr (.sl false (.int .i64))) .unit)))) t5_1)), (7, (.data (.int .i64) t7)), (6, (.nv false 0 [] 0)), (8, (.ref 1 [] 0)), (0, (.data (.sl false (.pair (.int .i64) (.pair (.int .i64) .unit))) t0_1)), (17, (.data (.int .i64) t17_1)), (18, (.data (.int .i64) t18_1)), (26, (.data (.int .i64) t26))] [.nest (.sl true (.int .i64)) o0_1 0 0 none, .row (.int .i64) x.2 0]) (kLoop (x38 N) 8 ⟨[27, 5, 7, 6, 8, 0, 17, 18, 26], []⟩ kb k) = f38_L8 N t5_1 t7 t0_1 t17_1 t18_1 t26 o0_1 (fun y => kb [(27, (.data (.int .i64) y.1)), (5, (.data (.fn 43 (.pair (.ptr (.sl false (.pair (.int .i64) (.pair (.int .i64) .unit)))) (.pair (.ptr (.sl false (.int .i64))) (.pair (.ptr (.sl false (.int .i64))) .unit)))) t5_1)), (7, (.data (.int .i64) t7)), (6, (.nv false 0 [] 0)), (8, (.ref 1 [] 0)), (0, (.data (.sl false (.pair (.int .i64) (.pair (.int .i64) .unit))) t0_1)), (17, (.data (.int .i64) t17_1)), (18, (.data (.int .i64) t18_1)), (26, (.data (.int .i64) t26))] [.nest (.sl true (.int .i64)) o0_1 0 0 none, .row (.int .i64) y.2 0])
    (fun y6 => k (.exit 2) (St.of [(5, (.data (.fn 43 (.pair (.ptr (.sl false (.pair (.int .i64) (.pair (.int .i64) .unit)))) (.pair (.ptr (.sl false (.int .i64))) (.pair (.ptr (.sl false (.int .i64))) .unit)))) t5_1)), (6, (.nv false 0 [] 0)), (0, (.data (.sl false (.pair (.int .i64) (.pair (.int .i64) .unit))) t0_1)), (17, (.data (.int .i64) t17_1)), (18, (.data (.int .i64) t18_1)), (8, (.ref 1 [] 0)), (7, (.data (.int .i64) t7))] [.nest (.sl true (.int .i64)) o0_1 0 0 none, .row (.int .i64) y6 0])) x := by kernel_rfl
theorem l38_8 (N : Nat) : LoopOK (x38 N) (loopAt 8 (loopsOf b38)) :=
  loop_mk (G38_8 N) (by kernel_rfl) (by kernel_rfl) (by kernel_rfl) fun R k d =>
    loop_eq (st := fun (x : Int × List Int) => ([(27, (.data (.int .i64) x.1)), (5, (.data (.fn 43 (.pair (.ptr (.sl false (.pair (.int .i64) (.pair (.int .i64) .unit)))) (.pair (.ptr (.sl false (.int .i64))) (.pair (.ptr (.sl false (.int .i64))) .unit)))) d.1.2.1)), (7, (.data (.int .i64) d.1.2.2.1)), (6, (.nv false 0 [] 0)), (8, (.ref 1 [] 0)), (0, (.data (.sl false (.pair (.int .i64) (.pair (.int .i64) .unit))) d.1.2.2.2.2.2.1)), (17, (.data (.int .i64) d.1.2.2.2.2.2.2.1)), (18, (.data (.int .i64) d.1.2.2.2.2.2.2.2.1)), (26, (.data (.int .i64) d.1.2.2.2.2.2.2.2.2.1))], [.nest (.sl true (.int .i64)) d.2.1 0 0 none, .row (.int .i64) x.2 0])) (s38_8 N k d.1.2.1 d.1.2.2.1 d.1.2.2.2.2.2.1 d.1.2.2.2.2.2.2.1 d.1.2.2.2.2.2.2.2.1 d.1.2.2.2.2.2.2.2.2.1 d.2.1) N (d.1.1, d.2.2.1)
theorem s38_4 (N : Nat) {R : Type} (k : AExit → St → Option R) (t5 : (List (Int × (Int × Unit)) × (List Int × (List Int × Unit)))) (t0 : List (Int × (Int × Unit))) (t17 : Int) (kb : List (Nat × AVal) → List Obj → Option R) (x : Int × List (List Int)) : codeK (x38 N) (loopAt 4 (loopsOf b38)) (St.of [(5, (.data (.fn 43 (.pair (.ptr (.sl false (.pair (.int .i64) (.pair (.int .i64) .unit)))) (.pair (.ptr (.sl false (.int .i64))) (.pair (.ptr (.sl false (.int .i64))) .unit)))) t5)), (6, (.nv false 0 [] 0)), (18, (.data (.int .i64) x.1)), (0, (.data (.sl false (.pair (.int .i64) (.pair (.int .i64) .unit))) t0)), (17, (.data (.int .i64) t17))] [.nest (.sl true (.int .i64)) x.2 0 0 none]) (kLoop (x38 N) 4 ⟨[5, 6, 18, 0, 17], []⟩ kb k) = f38_L4 N t5 t0 t17 (fun y => kb [(5, (.data (.fn 43 (.pair (.ptr (.sl false (.pair (.int .i64) (.pair (.int .i64) .unit)))) (.pair (.ptr (.sl false (.int .i64))) (.pair (.ptr (.sl false (.int .i64))) .unit)))) t5)), (6, (.nv false 0 [] 0)), (18, (.data (.int .i64) y.1)), (0, (.data (.sl false (.pair (.int .i64) (.pair (.int .i64) .unit))) t0)), (17, (.data (.int .i64) t17))] [.nest (.sl true (.int .i64)) y.2 0 0 none])
    (fun y0 => k (.exit 0) (St.of [(6, (.nv false 0 [] 0))] [.nest (.sl true (.int .i64)) y0 0 0 none])) x := by kernel_rfl
theorem l38_4 (N : Nat) : LoopOK (x38 N) (loopAt 4 (loopsOf b38)) :=
  loop_mk (G38_4 N) (by kernel_rfl) (by kernel_rfl) (by kernel_rfl) fun R k d =>
    loop_eq (st := fun (x : Int × List (List Int)) => ([(5, (.data (.fn 43 (.pair (.ptr (.sl false (.pair (.int .i64) (.pair (.int .i64) .unit)))) (.pair (.ptr (.sl false (.int .i64))) (.pair (.ptr (.sl false (.int .i64))) .unit)))) d.1.1)), (6, (.nv false 0 [] 0)), (18, (.data (.int .i64) x.1)), (0, (.data (.sl false (.pair (.int .i64) (.pair (.int .i64) .unit))) d.1.2.2.2.1)), (17, (.data (.int .i64) d.1.2.2.2.2.1))], [.nest (.sl true (.int .i64)) x.2 0 0 none])) (s38_4 N k d.1.1 d.1.2.2.2.1 d.1.2.2.2.2.1) N (d.1.2.2.1, d.2.1)
theorem e38 (N : Nat) (a0 : List (Int × (Int × Unit))) (a1 : Int) : bodyK (x38 N) [(.sl false (.sl false (.int .i64)))] [.tmp 4] b38 (entry (.pr (.val (.sl false (.pair (.int .i64) (.pair (.int .i64) .unit)))) (.pr (.val (.int .i64)) .un)) (a0, (a1, ()))) = f38 N a0 a1 := by kernel_rfl
theorem k38 (N : Nat) : CalleeOK Go.Proofs.Try.prog 38 (c38 N) :=
  fn_ok (fn := Go.Proofs.Try.f38) (body := b38) (c := x38 N) Go.Proofs.Try.func38 (by kernel_rfl) (by kernel_rfl) ⟨ttL_ok, mtL_ok, eqL_ok, env_cons (forall_mem1 (k39 N)) (env_cons (forall_mem1 (k43 N)) (env_nil))⟩ mixed (by kernel_rfl) (Nat.le_of_ble_eq_true (by kernel_rfl)) (by kernel_rfl) (by decide)
    (loops_ok (by kernel_rfl : loopsOf b38 = [loopAt 4 (loopsOf b38), loopAt 8 (loopsOf b38), loopAt 13 (loopsOf b38)]) (.cons (l38_4 N) (.cons (l38_8 N) (.cons (l38_13 N) .nil)))) fun d => e38 N d.1 d.2.1
/-! ### 26: keyhole/bucket.Best -/
def f26_L10 {R : Type} (N : Nat) (t10 : Int) (t0 : List (Int × (Int × Unit))) (t9 : List (List Int)) (t11 : Int) (kb : Int → Option R) (kx0 : Int → Option R) : Int → Option R :=
  fun t12 =>
    (idx t9 t12).bind fun x_2 =>
    (idx x_2 t10).bind fun x_3 =>
    cond (!(decide (x_3 = t11)))
      (kb (wi64 (t12 + 1)))
      (kx0 t12)
def f26_L25 {R : Type} (N : Nat) (t15_1 : Int) (t16 : Int) (t13_2 : (List (Int × (Int × Unit)) × (List Int × (List Int × Unit)))) (t10_3 : Int) (t0_3 : List (Int × (Int × Unit))) (t9_3 : List (List Int)) (t11_3 : Int) (t12_4 : Int) (t62_2 : Int) (t63_2 : Int) (t76_1 : Int) (t77_1 : Int) (kb : Int × List (List Int) → Option R) (kx6 : (List (List Int)) → Option R) : Int × List (List Int) → Option R :=
  fun (t17, o0_2) =>
    (cond (decide (0 < t15_1))
        (some (decide (t17 ≤ t10_3)))
        (some false)).bind fun b_2 =>
    cond b_2
      (chk (inb o0_2 (wi64 (t15_1 - 1))) <|
      (idx o0_2 (wi64 (t15_1 - 1))).bind fun x_19 =>
      (idx o0_2 (wi64 (t15_1 - 1))).bind fun x_20 =>
      chk (inb x_20 t17) <|
      (idx o0_2 (wi64 (t15_1 - 1))).bind fun x_21 =>
      (idx x_21 t17).bind fun x_22 =>
      cond (decide (x_22 < 1152921504606846976))
        (chk (inb o0_2 t15_1) <|
        (idx o0_2 t15_1).bind fun x_23 =>
        chk (inb o0_2 t15_1) <|
        (idx o0_2 t15_1).bind fun x_24 =>
        (idx o0_2 t15_1).bind fun x_25 =>
        chk (inb x_25 t16) <|
        (idx o0_2 t15_1).bind fun x_26 =>
        (idx x_26 t16).bind fun x_27 =>
        chk (inb o0_2 (wi64 (t15_1 - 1))) <|
        (idx o0_2 (wi64 (t15_1 - 1))).bind fun x_28 =>
        (idx o0_2 (wi64 (t15_1 - 1))).bind fun x_29 =>
        chk (inb x_29 t17) <|
        (idx o0_2 (wi64 (t15_1 - 1))).bind fun x_30 =>
        (idx x_30 t17).bind fun x_31 =>
        (f43 N t16 t17 t13_2.1 t13_2.2.1 t13_2.2.2.1).bind fun r_3 =>
        (idx o0_2 t15_1).bind fun x_32 =>
        chk (inb x_32 t16) <|
        (idx o0_2 t15_1).bind fun x_33 =>
        (idx x_33 t16).bind fun x_34 =>
        (idx x_33 t16).bind fun x_35 =>
        (idx o0_2 t15_1).bind fun x_36 =>
        kb ((wi64 (t17 + 1)), (setI o0_2 t15_1 (setI x_33 t16 (minI x_27 (wi64 (r_3 + x_31)))))))
        (kb ((wi64 (t17 + 1)), o0_2)))
      (kx6 o0_2)
def f26_L19 {R : Type} (N : Nat) (t15 : Int) (t13_1 : (List (Int × (Int × Unit)) × (List Int × (List Int × Unit)))) (t10_2 : Int) (t0_2 : List (Int × (Int × Unit))) (t9_2 : List (List Int)) (t11_2 : Int) (t12_3 : Int) (t62_1 : Int) (t63_1 : Int) (t76 : Int) (kb : Int × List (List Int) → Option R) (kx4 : (List (List Int)) → Option R) : Int × List (List Int) → Option R :=
  fun (t77, o0_1) =>
    cond (decide (t77 < t76))
      (chk (inb o0_1 t15) <|
      (idx o0_1 t15).bind fun x_7 =>
      (idx o0_1 t15).bind fun x_8 =>
      chk (inb x_8 t77) <|
      (idx o0_1 t15).bind fun x_9 =>
      (idx x_9 t77).bind fun x_10 =>
      (idx x_9 t77).bind fun x_11 =>
      (idx o0_1 t15).bind fun x_12 =>
      (cond (decide (t15 = 0))
          (some (decide (t77 = t10_2)))
          (some false)).bind fun b_1 =>
      cond b_1
        (chk (inb (setI o0_1 t15 (setI x_9 t77 1152921504606846976)) t15) <|
        (idx (setI o0_1 t15 (setI x_9 t77 1152921504606846976)) t15).bind fun x_13 =>
        (idx (setI o0_1 t15 (setI x_9 t77 1152921504606846976)) t15).bind fun x_14 =>
        chk (inb x_14 t77) <|
        (idx (setI o0_1 t15 (setI x_9 t77 1152921504606846976)) t15).bind fun x_15 =>
        (idx x_15 t77).bind fun x_16 =>
        (idx x_15 t77).bind fun x_17 =>
        (idx (setI o0_1 t15 (setI x_9 t77 1152921504606846976)) t15).bind fun x_18 =>
        iter (fun w => f26_L25 N t15 t77 t13_1 t10_2 t0_2 t9_2 t11_2 t12_3 t62_1 t63_1 t76 t77 w
          (fun o0_3 =>
            kb ((wi64 (t77 + 1)), o0_3))) N ((wi64 (t77 + 1)), (setI (setI o0_1 t15 (setI x_9 t77 1152921504606846976)) t15 (setI x_15 t77 0))))
        (iter (fun w => f26_L25 N t15 t77 t13_1 t10_2 t0_2 t9_2 t11_2 t12_3 t62_1 t63_1 t76 t77 w
          (fun o0_4 =>
            kb ((wi64 (t77 + 1)), o0_4))) N ((wi64 (t77 + 1)), (setI o0_1 t15 (setI x_9 t77 1152921504606846976)))))
      (kx4 o0_1)
def f26_L15 {R : Type} (N : Nat) (t13 : (List (Int × (Int × Unit)) × (List Int × (List Int × Unit)))) (t10_1 : Int) (t0_1 : List (Int × (Int × Unit))) (t9_1 : List (List Int)) (t11_1 : Int) (t12_2 : Int) (t62 : Int) (kb : Int × List (List Int) → Option R) (kx2 : (List (List Int)) → Option R) : Int × List (List Int) → Option R :=
  fun (t63, o0) =>
    cond (decide (t63 < t62))
      (chk (((decide (0 ≤ (wi64 (t10_1 + 1)))) && (decide ((wi64 (t10_1 + 1)) ≤ (wi64 (t10_1 + 1))))) && (decide ((wi64 (t10_1 + 1)) ≤ ((room : Nat) : Int)))) <|
      chk (inb o0 t63) <|
      (idx o0 t63).bind fun x_4 =>
      chk (inb (setI o0 t63 (List.replicate (Int.toNat (wi64 (t10_1 + 1))) 0 : List Int)) t63) <|
      (idx (setI o0 t63 (List.replicate (Int.toNat (wi64 (t10_1 + 1))) 0 : List Int)) t63).bind fun x_5 =>
      (idx (setI o0 t63 (List.replicate (Int.toNat (wi64 (t10_1 + 1))) 0 : List Int)) t63).bind fun x_6 =>
      iter (fun w => f26_L19 N t63 t13 t10_1 t0_1 t9_1 t11_1 t12_2 t62 t63 (len x_6) w
        (fun o0_5 =>
          kb ((wi64 (t63 + 1)), o0_5))) N (0, (setI o0 t63 (List.replicate (Int.toNat (wi64 (t10_1 + 1))) 0 : List Int))))
      (kx2 o0)
def f26_L37 {R : Type} (N : Nat) (t0_5 : List (Int × (Int × Unit))) (t13_4 : (List (Int × (Int × Unit)) × (List Int × (List Int × Unit)))) (t10_5 : Int) (t9_5 : List (List Int)) (t11_5 : Int) (t20_1 : Int) (t19_1 : Int) (o0_8 : List (List Int)) (o1_1 : List Int) (kb : Int → Option R) (kx10 : Int → (List Int) → Option R) : Int → Option R :=
  fun t21 =>
    cond (decide (t21 ≤ t10_5))
      (chk (inb o0_8 (wi64 (t20_1 - 1))) <|
      (idx o0_8 (wi64 (t20_1 - 1))).bind fun x_37 =>
      (idx o0_8 (wi64 (t20_1 - 1))).bind fun x_38 =>
      chk (inb x_38 t21) <|
      (idx o0_8 (wi64 (t20_1 - 1))).bind fun x_39 =>
      (idx x_39 t21).bind fun x_40 =>
      (cond (decide (x_40 < 1152921504606846976))
          (chk (inb o0_8 (wi64 (t20_1 - 1))) <|
          (idx o0_8 (wi64 (t20_1 - 1))).bind fun x_41 =>
          (idx o0_8 (wi64 (t20_1 - 1))).bind fun x_42 =>
          chk (inb x_42 t21) <|
          (idx o0_8 (wi64 (t20_1 - 1))).bind fun x_43 =>
          (idx x_43 t21).bind fun x_44 =>
          chk (inb o0_8 t20_1) <|
          (idx o0_8 t20_1).bind fun x_45 =>
          (idx o0_8 t20_1).bind fun x_46 =>
          chk (inb x_46 t19_1) <|
          (idx o0_8 t20_1).bind fun x_47 =>
          (idx x_47 t19_1).bind fun x_48 =>
          (f43 N t19_1 t21 t13_4.1 t13_4.2.1 t13_4.2.2.1).bind fun r_4 =>
          some (decide ((wi64 (r_4 + x_44)) = x_48)))
          (some false)).bind fun b_3 =>
      cond b_3
        ((idx t0_5 (wi64 (t21 - 1))).bind fun x_49 =>
        chk (decide ((o1_1.length.succ) ≤ room)) <|
        kx10 t21 (o1_1 ++ (x_49.1 :: ([] : List Int))))
        (kb (wi64 (t21 + 1))))
      (kx10 t19_1 o1_1)
def f26_L34 {R : Type} (N : Nat) (t0_4 : List (Int × (Int × Unit))) (t13_3 : (List (Int × (Int × Unit)) × (List Int × (List Int × Unit)))) (t10_4 : Int) (t9_4 : List (List Int)) (t11_4 : Int) (o1 : List (List Int)) (kb : Int × Int × List Int → Option R) (kx8 : (List Int) → Option R) : Int × Int × List Int → Option R :=
  fun (t20, t19, o0_7) =>
    cond (decide (0 < t20))
      (iter (fun w => f26_L37 N t0_4 t13_3 t10_4 t9_4 t11_4 t20 t19 o1 o0_7 w
        (fun t19_2 o0_9 =>
          kb ((wi64 (t20 - 1)), t19_2, o0_9))) N (wi64 (t19 + 1)))
      (kx8 o0_7)
def f26 (N : Nat) (a0 : List (Int × (Int × Unit))) (a1 : Int) : Option (List Int × Int × List (List Int) × Int) :=
  (f12 N a0).bind fun r =>
  cond (!(decide (r = 0)))
    (some (([] : List Int), (0, (([] : List (List Int)), r))))
    ((cond (decide (a1 < 1))
        (some true)
        (some (decide (32 < a1)))).bind fun b =>
    cond b
      (some (([] : List Int), (0, (([] : List (List Int)), 3))))
      ((f38 N a0 a1).bind fun r_1 =>
      (idx r_1 a1).bind fun x =>
      (idx x (len a0)).bind fun x_1 =>
      iter (fun w => f26_L10 N (len a0) a0 r_1 x_1 w
        (fun t12_1 =>
          (f39 N a0).bind fun r_2 =>
          chk (((decide (0 ≤ (wi64 (t12_1 + 1)))) && (decide ((wi64 (t12_1 + 1)) ≤ (wi64 (t12_1 + 1))))) && (decide ((wi64 (t12_1 + 1)) ≤ ((room : Nat) : Int)))) <|
          iter (fun w => f26_L15 N r_2 (len a0) a0 r_1 x_1 t12_1 (len (List.replicate (Int.toNat (wi64 (t12_1 + 1))) ([] : List Int) : List (List Int))) w
            (fun o0_6 =>
              iter (fun w => f26_L34 N a0 r_2 (len a0) r_1 x_1 o0_6 w
                (fun o0_10 =>
                  chk (((decide (0 ≤ (len o0_10))) && (decide ((len o0_10) ≤ (len o0_10)))) && (decide ((len o0_10) ≤ (len o0_10)))) <|
                  some ((sub o0_10 0 (len o0_10)), (x_1, (r_1, 0))))) N (t12_1, 0, ([] : List Int)))) N (0, (List.replicate (Int.toNat (wi64 (t12_1 + 1))) ([] : List Int) : List (List Int))))) N 1))
def c26 (N : Nat) : Callee := .pure (.pr (.val (.sl false (.pair (.int .i64) (.pair (.int .i64) .unit)))) (.pr (.val (.int .i64)) .un)) [(.sl true (.int .i64)), (.int .i64), (.sl false (.sl false (.int .i64))), (.int .i64)] fun d => f26 N d.1 d.2.1
def F26_10 : SForm := ⟨[(12, (.val (.int .i64))), (10, (.val (.int .i64))), (0, (.val (.sl false (.pair (.int .i64) (.pair (.int .i64) .unit))))), (9, (.val (.sl false (.sl false (.int .i64))))), (11, (.val (.int .i64)))], []⟩
def G26_10 (N : Nat) : (R : Type) → F26_10.den → (AExit → St → Option R) → Option R := fun R d k => iter (fun kb => f26_L10 N d.1.2.1 d.1.2.2.1 d.1.2.2.2.1 d.1.2.2.2.2.1 kb
    (fun y4 => k (.exit 0) (St.of [(10, (.data (.int .i64) d.1.2.1)), (0, (.data (.sl false (.pair (.int .i64) (.pair (.int .i64) .unit))) d.1.2.2.1)), (9, (.data (.sl false (.sl false (.int .i64))) d.1.2.2.2.1)), (11, (.data (.int .i64) d.1.2.2.2.2.1)), (12, (.data (.int .i64) y4))] []))) N d.1.1
def F26_25 : SForm := ⟨[(17, (.val (.int .i64))), (15, (.val (.int .i64))), (14, (.nv 0)), (16, (.val (.int .i64))), (13, (.val (.fn 43 (.pair (.ptr (.sl false (.pair (.int .i64) (.pair (.int .i64) .unit)))) (.pair (.ptr (.sl false (.int .i64))) (.pair (.ptr (.sl false (.int .i64))) .unit)))))), (10, (.val (.int .i64))), (0, (.val (.sl false (.pair (.int .i64) (.pair (.int .i64) .unit))))), (9, (.val (.sl false (.sl false (.int .i64))))), (11, (.val (.int .i64))), (12, (.val (.int .i64))), (62, (.val (.int .i64))), (63, (.val (.int .i64))), (76, (.val (.int .i64))), (77, (.val (.int .i64)))], [.nest (.sl true (.int .i64))]⟩
def G26_25 (N : Nat) : (R : Type) → F26_25.den → (AExit → St → Option R) → Option R := fun R d k => iter (fun kb => f26_L25 N d.1.2.1 d.1.2.2.2.1 d.1.2.2.2.2.1 d.1.2.2.2.2.2.1 d.1.2.2.2.2.2.2.1 d.1.2.2.2.2.2.2.2.1 d.1.2.2.2.2.2.2.2.2.1 d.1.2.2.2.2.2.2.2.2.2.1 d.1.2.2.2.2.2.2.2.2.2.2.1 d.1.2.2.2.2.2.2.2.2.2.2.2.1 d.1.2.2.2.2.2.2.2.2.2.2.2.2.1 d.1.2.2.2.2.2.2.2.2.2.2.2.2.2.1 kb
    (fun y11 => k (.exit 6) (St.of [(15, (.data (.int .i64) d.1.2.1)), (14, (.nv false 0 [] 0)), (13, (.data (.fn 43 (.pair (.ptr (.sl false (.pair (.int .i64) (.pair (.int .i64) .unit)))) (.pair (.ptr (.sl false (.int .i64))) (.pair (.ptr (.sl false (.int .i64))) .unit)))) d.1.2.2.2.2.1)), (10, (.data (.int .i64) d.1.2.2.2.2.2.1)), (0, (.data (.sl false (.pair (.int .i64) (.pair (.int .i64) .unit))) d.1.2.2.2.2.2.2.1)), (9, (.data (.sl false (.sl false (.int .i64))) d.1.2.2.2.2.2.2.2.1)), (11, (.data (.int .i64) d.1.2.2.2.2.2.2.2.2.1)), (12, (.data (.int .i64) d.1.2.2.2.2.2.2.2.2.2.1)), (62, (.data (.int .i64) d.1.2.2.2.2.2.2.2.2.2.2.1)), (63, (.data (.int .i64) d.1.2.2.2.2.2.2.2.2.2.2.2.1)), (76, (.data (.int .i64) d.1.2.2.2.2.2.2.2.2.2.2.2.2.1)), (77, (.data (.int .i64) d.1.2.2.2.2.2.2.2.2.2.2.2.2.2.1))] [.nest (.sl true (.int .i64)) y11 0 0 none]))) N (d.1.1, d.2.1)
def F26_19 : SForm := ⟨[(15, (.val (.int .i64))), (14, (.nv 0)), (13, (.val (.fn 43 (.pair (.ptr (.sl false (.pair (.int .i64) (.pair (.int .i64) .unit)))) (.pair (.ptr (.sl false (.int .i64))) (.pair (.ptr (.sl false (.int .i64))) .unit)))))), (77, (.val (.int .i64))), (10, (.val (.int .i64))), (0, (.val (.sl false (.pair (.int .i64) (.pair (.int .i64) .unit))))), (9, (.val (.sl false (.sl false (.int .i64))))), (11, (.val (.int .i64))), (12, (.val (.int .i64))), (62, (.val (.int .i64))), (63, (.val (.int .i64))), (76, (.val (.int .i64)))], [.nest (.sl true (.int .i64))]⟩
def G26_19 (N : Nat) : (R : Type) → F26_19.den → (AExit → St → Option R) → Option R := fun R d k => iter (fun kb => f26_L19 N d.1.1 d.1.2.2.1 d.1.2.2.2.2.1 d.1.2.2.2.2.2.1 d.1.2.2.2.2.2.2.1 d.1.2.2.2.2.2.2.2.1 d.1.2.2.2.2.2.2.2.2.1 d.1.2.2.2.2.2.2.2.2.2.1 d.1.2.2.2.2.2.2.2.2.2.2.1 d.1.2.2.2.2.2.2.2.2.2.2.2.1 kb
    (fun y8 => k (.exit 4) (St.of [(14, (.nv false 0 [] 0)), (13, (.data (.fn 43 (.pair (.ptr (.sl false (.pair (.int .i64) (.pair (.int .i64) .unit)))) (.pair (.ptr (.sl false (.int .i64))) (.pair (.ptr (.sl false (.int .i64))) .unit)))) d.1.2.2.1)), (10, (.data (.int .i64) d.1.2.2.2.2.1)), (0, (.data (.sl false (.pair (.int .i64) (.pair (.int .i64) .unit))) d.1.2.2.2.2.2.1)), (9, (.data (.sl false (.sl false (.int .i64))) d.1.2.2.2.2.2.2.1)), (11, (.data (.int .i64) d.1.2.2.2.2.2.2.2.1)), (12, (.data (.int .i64) d.1.2.2.2.2.2.2.2.2.1)), (62, (.data (.int .i64) d.1.2.2.2.2.2.2.2.2.2.1)), (63, (.data (.int .i64) d.1.2.2.2.2.2.2.2.2.2.2.1))] [.nest (.sl true (.int .i64)) y8 0 0 none]))) N (d.1.2.2.2.1, d.2.1)
def F26_15 : SForm := ⟨[(14, (.nv 0)), (13, (.val (.fn 43 (.pair (.ptr (.sl false (.pair (.int .i64) (.pair (.int .i64) .unit)))) (.pair (.ptr (.sl false (.int .i64))) (.pair (.ptr (.sl false (.int .i64))) .unit)))))), (10, (.val (.int .i64))), (63, (.val (.int .i64))), (0, (.val (.sl false (.pair (.int .i64) (.pair (.int .i64) .unit))))), (9, (.val (.sl false (.sl false (.int .i64))))), (11, (.val (.int .i64))), (12, (.val (.int .i64))), (62, (.val (.int .i64)))], [.nest (.sl true (.int .i64))]⟩
def G26_15 (N : Nat) : (R : Type) → F26_15.den → (AExit → St → Option R) → Option R := fun R d k => iter (fun kb => f26_L15 N d.1.2.1 d.1.2.2.1 d.1.2.2.2.2.1 d.1.2.2.2.2.2.1 d.1.2.2.2.2.2.2.1 d.1.2.2.2.2.2.2.2.1 d.1.2.2.2.2.2.2.2.2.1 kb
    (fun y6 => k (.exit 2) (St.of [(0, (.data (.sl false (.pair (.int .i64) (.pair (.int .i64) .unit))) d.1.2.2.2.2.1)), (14, (.nv false 0 [] 0)), (13, (.data (.fn 43 (.pair (.ptr (.sl false (.pair (.int .i64) (.pair (.int .i64) .unit)))) (.pair (.ptr (.sl false (.int .i64))) (.pair (.ptr (.sl false (.int .i64))) .unit)))) d.1.2.1)), (10, (.data (.int .i64) d.1.2.2.1)), (9, (.data (.sl false (.sl false (.int .i64))) d.1.2.2.2.2.2.1)), (11, (.data (.int .i64) d.1.2.2.2.2.2.2.1)), (12, (.data (.int .i64) d.1.2.2.2.2.2.2.2.1))] [.nest (.sl true (.int .i64)) y6 0 0 none]))) N (d.1.2.2.2.1, d.2.1)
def F26_37 : SForm := ⟨[(0, (.val (.sl false (.pair (.int .i64) (.pair (.int .i64) .unit))))), (14, (.nv 0)), (13, (.val (.fn 43 (.pair (.ptr (.sl false (.pair (.int .i64) (.pair (.int .i64) .unit)))) (.pair (.ptr (.sl false (.int .i64))) (.pair (.ptr (.sl false (.int .i64))) .unit)))))), (10, (.val (.int .i64))), (9, (.val (.sl false (.sl false (.int .i64))))), (11, (.val (.int .i64))), (20, (.val (.int .i64))), (21, (.val (.int .i64))), (18, (.ref 1)), (19, (.val (.int .i64)))], [.nest (.sl true (.int .i64)), .row (.int .i64)]⟩
def G26_37 (N : Nat) : (R : Type) → F26_37.den → (AExit → St → Option R) → Option R := fun R d k => iter (fun kb => f26_L37 N d.1.1 d.1.2.2.1 d.1.2.2.2.1 d.1.2.2.2.2.1 d.1.2.2.2.2.2.1 d.1.2.2.2.2.2.2.1 d.1.2.2.2.2.2.2.2.2.2.1 d.2.1 d.2.2.1 kb
    (fun y1 y7 => k (.exit 10) (St.of [(0, (.data (.sl false (.pair (.int .i64) (.pair (.int .i64) .unit))) d.1.1)), (18, (.ref 0 [] 0)), (19, (.data (.int .i64) y1)), (14, (.nv false 1 [] 0)), (13, (.data (.fn 43 (.pair (.ptr (.sl false (.pair (.int .i64) (.pair (.int .i64) .unit)))) (.pair (.ptr (.sl false (.int .i64))) (.pair (.ptr (.sl false (.int .i64))) .unit)))) d.1.2.2.1)), (10, (.data (.int .i64) d.1.2.2.2.1)), (9, (.data (.sl false (.sl false (.int .i64))) d.1.2.2.2.2.1)), (11, (.data (.int .i64) d.1.2.2.2.2.2.1)), (20, (.data (.int .i64) d.1.2.2.2.2.2.2.1))] [.row (.int .i64) y7 0, .nest (.sl true (.int .i64)) d.2.1 0 0 none]))) N d.1.2.2.2.2.2.2.2.1
def F26_34 : SForm := ⟨[(20, (.val (.int .i64))), (0, (.val (.sl false (.pair (.int .i64) (.pair (.int .i64) .unit))))), (18, (.ref 0)), (19, (.val (.int .i64))), (14, (.nv 1)), (13, (.val (.fn 43 (.pair (.ptr (.sl false (.pair (.int .i64) (.pair (.int .i64) .unit)))) (.pair (.ptr (.sl false (.int .i64))) (.pair (.ptr (.sl false (.int .i64))) .unit)))))), (10, (.val (.int .i64))), (9, (.val (.sl false (.sl false (.int .i64))))), (11, (.val (.int .i64)))], [.row (.int .i64), .nest (.sl true (.int .i64))]⟩
def G26_34 (N : Nat) : (R : Type) → F26_34.den → (AExit → St → Option R) → Option R := fun R d k => iter (fun kb => f26_L34 N d.1.2.1 d.1.2.2.2.2.2.1 d.1.2.2.2.2.2.2.1 d.1.2.2.2.2.2.2.2.1 d.1.2.2.2.2.2.2.2.2.1 d.2.2.1 kb
    (fun y2 => k (.exit 8) (St.of [(9, (.data (.sl false (.sl false (.int .i64))) d.1.2.2.2.2.2.2.2.1)), (11, (.data (.int .i64) d.1.2.2.2.2.2.2.2.2.1)), (18, (.ref 0 [] 0))] [.row (.int .i64) y2 0]))) N (d.1.1, d.1.2.2.2.1, d.2.1)
def lp26 (N : Nat) : Nat → Option LoopFn := fun r => cond (Nat.beq r 10) (some fun R sl os k => F26_10.take sl os fun d => G26_10 N R d k) (cond (Nat.beq r 25) (some fun R sl os k => F26_25.take sl os fun d => G26_25 N R d k) (cond (Nat.beq r 19) (some fun R sl os k => F26_19.take sl os fun d => G26_19 N R d k) (cond (Nat.beq r 15) (some fun R sl os k => F26_15.take sl os fun d => G26_15 N R d k) (cond (Nat.beq r 37) (some fun R sl os k => F26_37.take sl os fun d => G26_37 N R d k) (cond (Nat.beq r 34) (some fun R sl os k => F26_34.take sl os fun d => G26_34 N R d k) (none))))))
def x26 (N : Nat) : Ctx := { fuel := N, tt := getL ttL, mt := getL mtL, ntmps := 210, env := fun f => (getL [(12, [c12 N]), (38, [c38 N]), (39, [c39 N]), (43, [c43 N])] f).getD [], cut := getL [(10, ⟨[12, 10, 0, 9, 11], []⟩), (15, ⟨[14, 13, 10, 63, 0, 9, 11, 12, 62], []⟩), (19, ⟨[15, 14, 13, 77, 10, 0, 9, 11, 12, 62, 63, 76], []⟩), (25, ⟨[17, 15, 14, 16, 13, 10, 0, 9, 11, 12, 62, 63, 76, 77], []⟩), (34, ⟨[20, 0, 18, 19, 14, 13, 10, 9, 11], [(18, none, .row (.int .i64))]⟩), (37, ⟨[0, 14, 13, 10, 9, 11, 20, 21, 18, 19], []⟩)], exits := fun r => getL ((getL [(10, [(0, ⟨[10, 0, 9, 11, 12], []⟩)]), (15, [(2, ⟨[0, 14, 13, 10, 9, 11, 12], []⟩)]), (19, [(4, ⟨[14, 13, 10, 0, 9, 11, 12, 62, 63], []⟩)]), (25, [(6, ⟨[15, 14, 13, 10, 0, 9, 11, 12, 62, 63, 76, 77], []⟩)]), (34, [(8, ⟨[9, 11, 18], []⟩)]), (37, [(10, ⟨[0, 18, 19, 14, 13, 10, 9, 11, 20], [(18, none, .row (.int .i64))]⟩)])] r).getD []), res := ⟨[4, 5, 6, 7], []⟩, own := getL [(60, (.sl true (.sl true (.int .i64))))], lp := lp26 N, eqs := fun T => memN T eqL }
noncomputable def b26 : Code := ((Go.Proofs.Try.f26).body).getD .skip
theorem s26_10 (N : Nat) {R : Type} (k : AExit → St → Option R) (t10 : Int) (t0 : List (Int × (Int × Unit))) (t9 : List (List Int)) (t11 : Int) (kb : List (Nat × AVal) → List Obj → Option R) (x : Int) : codeK (x26 N) (loopAt 10 (loopsOf b26)) (St.of [(12, (.data (.int .i64) x)), (10, (.data (.int .i64) t10)), (0, (.data (.sl false (.pair (.int .i64) (.pair (.int .i64) .unit))) t0)), (9, (.data (.sl false (.sl false (.int .i64))) t9)), (11, (.data (.int .i64) t11))] []) (kLoop (x26 N) 10 ⟨[12, 10, 0, 9, 11], []⟩ kb k) = f26_L10 N t10 t0 t9 t11 (fun y => kb [(12, (.data (.int .i64) y)), (10, (.data (.int .i64) t10)), (0, (.data (.sl false (.pair (.int .i64) (.pair (.int .i64) .unit))) t0)), (9, (.data (.sl false (.sl false (.int .i64))) t9)), (11, (.data (.int .i64) t11))] [])
    (fun y4 => k (.exit 0) (St.of [(10, (.data (.int .i64) t10)), (0, (.data (.sl false (.pair (.int .i64) (.pair (.int .i64) .unit))) t0)), (9, (.data (.sl false (.sl false (.int .i64))) t9)), (11, (.data (.int .i64) t11)), (12, (.data (.int .i64) y4))] [])) x := by kernel_rfl
theorem l26_10 (N : Nat) : LoopOK (x26 N) (loopAt 10 (loopsOf b26)) :=
  loop_mk (G26_10 N) (by kernel_rfl) (by kernel_rfl) (by kernel_rfl) fun R k d =>
    loop_eq (st := fun (x : Int) => ([(12, (.data (.int .i64) x)), (10, (.data (.int .i64) d.1.2.1)), (0, (.data (.sl false (.pair (.int .i64) (.pair (.int .i64) .unit))) d.1.2.2.1)), (9, (.data (.sl false (.sl false (.int .i64))) d.1.2.2.2.1)), (11, (.data (.int .i64) d.1.2.2.2.2.1))], [])) (s26_10 N k d.1.2.1 d.1.2.2.1 d.1.2.2.2.1 d.1.2.2.2.2.1) N d.1.1
theorem s26_25 (N : Nat) {R : Type} (k : AExit → St → Option R) (t15_1 : Int) (t16 : Int) (t13_2 : (List (Int × (Int × Unit)) × (List Int × (List Int × Unit)))) (t10_3 : Int) (t0_3 : List (Int × (Int × Unit))) (t9_3 : List (List Int)) (t11_3 : Int) (t12_4 : Int) (t62_2 : Int) (t63_2 : Int) (t76_1 : Int) (t77_1 : Int) (kb : List (Nat × AVal) → List Obj → Option R) (x : Int × List (List Int)) : codeK (x26 N) (loopAt 25 (loopsOf b26)) (St.of [(17, (.data (.int .i64) x.1)), (15, (.data (.int .i64) t15_1)), (14, (.nv false 0 [] 0)), (16, (.data (.int .i64) t16)), (13, (.data (.fn 43 (.pair (.ptr (.sl false (.pair (.int .i64) (.pair (.int .i64) .unit)))) (.pair (.ptr (.sl false (.int .i64))) (.pair (.ptr (.sl false (.int .i64))) .unit)))) t13_2)), (10, (.data (.int .i64) t10_3)), (0, (.data (.sl false (.pair (.int .i64) (.pair (.int .i64) .unit))) t0_3)), (9, (.data (.sl false (.sl false (.int .i64))) t9_3)), (11, (.data (.int .i64) t11_3)), (12, (.data (.int .i64) t12_4)), (62, (.data (.int .i64) t62_2)), (63, (.data (.int .i64) t63_2)), (76, (.data (.int .i64) t76_1)), (77, (.data (.int .i64) t77_1))] [.nest (.sl true (.int .i64)) x.2 0 0 none]) (kLoop (x26 N) 25 ⟨[17, 15, 14, 16, 13, 10, 0, 9, 11, 12, 62, 63, 76, 77], []⟩ kb k) = f26_L25 N t15_1 t16 t13_2 t10_3 t0_3 t9_3 t11_3 t12_4 t62_2 t63_2 t76_1 t77_1 (fun y => kb [(17, (.data (.int .i64) y.1)), (15, (.data (.int .i64) t15_1)), (14, (.nv false 0 [] 0)), (16, (.data (.int .i64) t16)), (13, (.data (.fn 43 (.pair (.ptr (.sl false (.pair (.int .i64) (.pair (.int .i64) .unit)))) (.pair (.ptr (.sl false (.int .i64))) (.pair (.ptr (.sl false (.int .i64))) .unit)))) t13_2)), (10, (.data (.int .i64) t10_3)), (0, (.data (.sl false (.pair (.int .i64) (.pair (.int .i64) .unit))) t0_3)), (9, (.data (.sl false (.sl false (.int .i64))) t9_3)), (11, (.data (.int .i64) t11_3)), (12, (.data (.int .i64) t12_4)), (62, (.data (.int .i64) t62_2)), (63, (.data (.int .i64) t63_2)), (76, (.data (.int .i64) t76_1)), (77, (.data (.int .i64) t77_1))] [.nest (.sl true (.int .i64)) y.2 0 0 none])
    (fun y11 => k (.exit 6) (St.of [(15, (.data (.int .i64) t15_1)), (14, (.nv false 0 [] 0)), (13, (.data (.fn 43 (.pair (.ptr (.sl false (.pair (.int .i64) (.pair (.int .i64) .unit)))) (.pair (.ptr (.sl false (.int .i64))) (.pair (.ptr (.sl false (.int .i64))) .unit)))) t13_2)), (10, (.data (.int .i64) t10_3)), (0, (.data (.sl false (.pair (.int .i64) (.pair (.int .i64) .unit))) t0_3)), (9, (.data (.sl false (.sl false (.int .i64))) t9_3)), (11, (.data (.int .i64) t11_3)), (12, (.data (.int .i64) t12_4)), (62, (.data (.int .i64) t62_2)), (63, (.data (.int .i64) t63_2)), (76, (.data (.int .i64) t76_1)), (77, (.data (.int .i64) t77_1))] [.nest (.sl true (.int .i64)) y11 0 0 none])) x := by kernel_rfl
theorem l26_25 (N : Nat) : LoopOK (x26 N) (loopAt 25 (loopsOf b26)) :=
  loop_mk (G26_25 N) (by kernel_rfl) (by kernel_rfl) (by kernel_rfl) fun R k d =>
    loop_eq (st := fun (x : Int × List (List Int)) => ([(17, (.data (.int .i64) x.1)), (15, (.data (.int .i64) d.1.2.1)), (14, (.nv false 0 [] 0)), (16, (.data (.int .i64) d.1.2.2.2.1)), (13, (.data (.fn 43 (.pair (.ptr (.sl false (.pair (.int .i64) (.pair (.int .i64) .unit)))) (.pair (.ptr (.sl false (.int .i64))) (.pair (.ptr (.sl false (.int .i64))) .unit)))) d.1.2.2.2.2.1)), (10, (.data (.int .i64) d.1.2.2.2.2.2.1)), (0, (.data (.sl false (.pair (.int .i64) (.pair (.int .i64) .unit))) d.1.2.2.2.2.2.2.1)), (9, (.data (.sl false (.sl false (.int .i64))) d.1.2.2.2.2.2.2.2.1)), (11, (.data (.int .i64) d.1.2.2.2.2.2.2.2.2.1)), (12, (.data (.int .i64) d.1.2.2.2.2.2.2.2.2.2.1)), (62, (.data (.int .i64) d.1.2.2.2.2.2.2.2.2.2.2.1)), (63, (.data (.int .i64) d.1.2.2.2.2.2.2.2.2.2.2.2.1)), (76, (.data (.int .i64) d.1.2.2.2.2.2.2.2.2.2.2.2.2.1)), (77, (.data (.int .i64) d.1.2.2.2.2.2.2.2.2.2.2.2.2.2.1))], [.nest (.sl true (.int .i64)) x.2 0 0 none])) (s26_25 N k d.1.2.1 d.1.2.2.2.1 d.1.2.2.2.2.1 d.1.2.2.2.2.2.1 d.1.2.2.2.2.2.2.1 d.1.2.2.2.2.2.2.2.1 d.1.2.2.2.2.2.2.2.2.1 d.1.2.2.2.2.2.2.2.2.2.1 d.1.2.2.2.2.2.2.2.2.2.2.1 d.1.2.2.2.2.2.2.2.2.2.2.2.1 d.1.2.2.2.2.2.2.2.2.2.2.2.2.1 d.1.2.2.2.2.2.2.2.2.2.2.2.2.2.1) N (d.1.1, d.2.1)
theorem s26_19 (N : Nat) {R : Type} (k : AExit → St → Option R) (t15 : Int) (t13_1 : (List (Int × (Int × Unit)) × (List Int × (List Int × Unit)))) (t10_2 : Int) (t0_2 : List (Int × (Int × Unit))) (t9_2 : List (List Int)) (t11_2 : Int) (t12_3 : Int) (t62_1 : Int) (t63_1 : Int) (t76 : Int) (kb : List (Nat × AVal) → List Obj → Option R) (x : Int × List (List Int)) : codeK (x26 N) (loopAt 19 (loopsOf b26)) (St.of [(15, (.data (.int .i64) t15)), (14, (.nv false 0 [] 0)), (13, (.data (.fn 43 (.pair (.ptr (.sl false (.pair (.int .i64) (.pair (.int .i64) .unit)))) (.pair (.ptr (.sl false (.int .i64))) (.pair (.ptr (.sl false (.int .i64))) .unit)))) t13_1)), (77, (.data (.int .i64) x.1)), (10, (.data (.int .i64) t10_2)), (0, (.data (.sl false (.pair (.int .i64) (.pair (.int .i64) .unit))) t0_2)), (9, (.data (.sl false (.sl false (.int .i64))) t9_2)), (11, (.data (.int .i64) t11_2)), (12, (.data (.int .i64) t12_3)), (62, (.data (.int .i64) t62_1)), (63, (.data (.int .i64) t63_1)), (76, (.data (.int .i64) t76))] [.nest (.sl true (.int .i64)) x.2 0 0 none]) (kLoop (x26 N) 19 ⟨[15, 14, 13, 77, 10, 0, 9, 11, 12, 62, 63, 76], []⟩ kb k) = f26_L19 N t15 t13_1 t10_2 t0_2 t9_2 t11_2 t12_3 t62_1 t63_1 t76 (fun y => kb [(15, (.data (.int .i64) t15)), (14, (.nv false 0 [] 0)), (13, (.data (.fn 43 (.pair (.ptr (.sl false (.pair (.int .i64) (.pair (.int .i64) .unit)))) (.pair (.ptr (.sl false (.int .i64))) (.pair (.ptr (.sl false (.int .i64))) .unit)))) t13_1)), (77, (.data (.int .i64) y.1)), (10, (.data (.int .i64) t10_2)), (0, (.data (.sl false (.pair (.int .i64) (.pair (.int .i64) .unit))) t0_2)), (9, (.data (.sl false (.sl false (.int .i64))) t9_2)), (11, (.data (.int .i64) t11_2)), (12, (.data (.int .i64) t12_3)), (62, (.data (.int .i64) t62_1)), (63, (.data (.int .i64) t63_1)), (76, (.data (.int .i64) t76))] [.nest (.sl true (.int .i64)) y.2 0 0 none])
    (fun y8 => k (.exit 4) (St.of [(14, (.nv false 0 [] 0)), (13, (.data (.fn 43 (.pair (.ptr (.sl false (.pair (.int .i64) (.pair (.int .i64) .unit)))) (.pair (.ptr (.sl false (.int .i64))) (.pair (.ptr (.sl false (.int .i64))) .unit)))) t13_1)), (10, (.data (.int .i64) t10_2)), (0, (.data (.sl false (.pair (.int .i64) (.pair (.int .i64) .unit))) t0_2)), (9, (.data (.sl false (.sl false (.int .i64))) t9_2)), (11, (.data (.int .i64) t11_2)), (12, (.data (.int .i64) t12_3)), (62, (.data (.int .i64) t62_1)), (63, (.data (.int .i64) t63_1))] [.nest (.sl true (.int .i64)) y8 0 0 none])) x := by kernel_rfl
theorem l26_19 (N : Nat) : LoopOK (x26 N) (loopAt 19 (loopsOf b26)) :=
  loop_mk (G26_19 N) (by kernel_rfl) (by kernel_rfl) (by kernel_rfl) fun R k d =>
    loop_eq (st := fun (x : Int × List (List Int)) => ([(15, (.data (.int .i64) d.1.1)), (14, (.nv false 0 [] 0)), (13, (.data (.fn 43 (.pair (.ptr (.sl false (.pair (.int .i64) (.pair (.int .i64) .unit)))) (.pair (.ptr (.sl false (.int .i64))) (.pair (.ptr (.sl false (.int .i64))) .unit)))) d.1.2.2.1)), (77, (.data (.int .i64) x.1)), (10, (.data (.int .i64) d.1.2.2.2.2.1)), (0, (.data (.sl false (.pair (.int .i64) (.pair (.int .i64) .unit))) d.1.2.2.2.2.2.1)), (9, (.data (.sl false (.sl false (.int .i64))) d.1.2.2.2.2.2.2.1)), (11, (.data (.int .i64) d.1.2.2.2.2.2.2.2.1)), (12, (.data (.int .i64) d.1.2.2.2.2.2.2.2.2.1)), (62, (.data (.int .i64) d.1.2.2.2.2.2.2.2.2.2.1)), (63, (.data (.int .i64) d.1.2.2.2.2.2.2.2.2.2.2.1)), (76, (.data (.int .i64) d.1.2.2.2.2.2.2.2.2.2.2.2.1))], [.nest (.sl true (.int .i64)) x.2 0 0 none])) (s26_19 N k d.1.1 d.1.2.2.1 d.1.2.2.2.2.1 d.1.2.2.2.2.2.1 d.1.2.2.2.2.2.2.1 d.1.2.2.2.2.2.2.2.1 d.1.2.2.2.2.2.2.2.2.1 d.1.2.2.2.2.2.2.2.2.2.1 d.1.2.2.2.2.2.2.2.2.2.2.1 d.1.2.2.2.2.2.2.2.2.2.2.2.1) N (d.1.2.2.2.1, d.2.1)
theorem s26_15 (N : Nat) {R : Type} (k : AExit → St → Option R) (t13 : (List (Int × (Int × Unit)) × (List Int × (List Int × Unit)))) (t10_1 : Int) (t0_1 : List (Int × (Int × Unit))) (t9_1 : List (List Int)) (t11_1 : Int) (t12_2 : Int) (t62 : Int) (kb : List (Nat × AVal) → List Obj → Option R) (x : Int × List (List Int)) : codeK (x26 N) (loopAt 15 (loopsOf b26)) (St.of [(14, (.nv false 0 [] 0)), (13, (.data (.fn 43 (.pair (.ptr (.sl false (.pair (.int .i64) (.pair (.int .i64) .unit)))) (.pair (.ptr (.sl false (.int .i64))) (.pair (.ptr (.sl false (.int .i64))) .unit)))) t13)), (10, (.data (.int .i64) t10_1)), (63, (.data (.int .i64) x.1)), (0, (.data (.sl false (.pair (.int .i64) (.pair (.int .i64) .unit))) t0_1)), (9, (.data (.sl false (.sl false (.int .i64))) t9_1)), (11, (.data (.int .i64) t11_1)), (12, (.data (.int .i64) t12_2)), (62, (.data (.int .i64) t62))] [.nest (.sl true (.int .i64)) x.2 0 0 none]) (kLoop (x26 N) 15 ⟨[14, 13, 10, 63, 0, 9, 11, 12, 62], []⟩ kb k) = f26_L15 N t13 t10_1 t0_1 t9_1 t11_1 t12_2 t62 (fun y => kb [(14, (.nv false 0 [] 0)), (13, (.data (.fn 43 (.pair (.ptr (.sl false (.pair (.int .i64) (.pair (.int .i64) .unit)))) (.pair (.ptr (.sl false (.int .i64))) (.pair (.ptr (.sl false (.int .i64))) .unit)))) t13)), (10, (.data (.int .i64) t10_1)), (63, (.data (.int .i64) y.1)), (0, (.data (.sl false (.pair (.int .i64) (.pair (.int .i64) .unit))) t0_1)), (9, (.data (.sl false (.sl false (.int .i64))) t9_1)), (11, (.data (.int .i64) t11_1)), (12, (.data (.int .i64) t12_2)), (62, (.data (.int .i64) t62))] [.nest (.sl true (.int .i64)) y.2 0 0 none])
    (fun y6 => k (.exit 2) (St.of [(0, (.data (.sl false (.pair (.int .i64) (.pair (.int .i64) .unit))) t0_1)), (14, (.nv false 0 [] 0)), (13, (.data (.fn 43 (.pair (.ptr (.sl false (.pair (.int .i64) (.pair (.int .i64) .unit)))) (.pair (.ptr (.sl false (.int .i64))) (.pair (.ptr (.sl false (.int .i64))) .unit)))) t13)), (10, (.data (.int .i64) t10_1)), (9, (.data (.sl false (.sl false (.int .i64))) t9_1)), (11, (.data (.int .i64) t11_1)), (12, (.data (.int .i64) t12_2))] [.nest (.sl true (.int .i64)) y6 0 0 none])) x := by kernel_rfl
theorem l26_15 (N : Nat) : LoopOK (x26 N) (loopAt 15 (loopsOf b26)) :=
  loop_mk (G26_15 N) (by kernel_rfl) (by kernel_rfl) (by kernel_rfl) fun R k d =>
    loop_eq (st := fun (x : Int × List (List Int)) => ([(14, (.nv false 0 [] 0)), (13, (.data (.fn 43 (.pair (.ptr (.sl false (.pair (.int .i64) (.pair (.int .i64) .unit)))) (.pair (.ptr (.sl false (.int .i64))) (.pair (.ptr (.sl false (.int .i64))) .unit)))) d.1.2.1)), (10, (.data (.int .i64) d.1.2.2.1)), (63, (.data (.int .i64) x.1)), (0, (.data (.sl false (.pair (.int .i64) (.pair (.int .i64) .unit))) d.1.2.2.2.2.1)), (9, (.data (.sl false (.sl false (.int .i64))) d.1.2.2.2.2.2.1)), (11, (.data (.int .i64) d.1.2.2.2.2.2.2.1)), (12, (.data (.int .i64) d.1.2.2.2.2.2.2.2.1)), (62, (.data (.int .i64) d.1.2.2.2.2.2.2.2.2.1))], [.nest (.sl true (.int .i64)) x.2 0 0 none])) (s26_15 N k d.1.2.1 d.1.2.2.1 d.1.2.2.2.2.1 d.1.2.2.2.2.2.1 d.1.2.2.2.2.2.2.1 d.1.2.2.2.2.2.2.2.1 d.1.2.2.2.2.2.2.2.2.1) N (d.1.2.2.2.1, d.2.1)
theorem s26_37 (N : Nat) {R : Type} (k : AExit → St → Option R) (t0_5 : List (Int × (Int × Unit))) (t13_4 : (List (Int × (Int × Unit)) × (List Int × (List Int × Unit)))) (t10_5 : Int) (t9_5 : List (List Int)) (t11_5 : Int) (t20_1 : Int) (t19_1 : Int) (o0_8 : List (List Int)) (o1_1 : List Int) (kb : List (Nat × AVal) → List Obj → Option R) (x : Int) : codeK (x26 N) (loopAt 37 (loopsOf b26)) (St.of [(0, (.data (.sl false (.pair (.int .i64) (.pair (.int .i64) .unit))) t0_5)), (14, (.nv false 0 [] 0)), (13, (.data (.fn 43 (.pair (.ptr (.sl false (.pair (.int .i64) (.pair (.int .i64) .unit)))) (.pair (.ptr (.sl false (.int .i64))) (.pair (.ptr (.sl false (.int .i64))) .unit)))) t13_4)), (10, (.data (.int .i64) t10_5)), (9, (.data (.sl false (.sl false (.int .i64))) t9_5)), (11, (.data (.int .i64) t11_5)), (20, (.data (.int .i64) t20_1)), (21, (.data (.int .i64) x)), (18, (.ref 1 [] 0)), (19, (.data (.int .i64) t19_1))] [.nest (.sl true (.int .i64)) o0_8 0 0 none, .row (.int .i64) o1_1 0]) (kLoop (x26 N) 37 ⟨[0, 14, 13, 10, 9, 11, 20, 21, 18, 19], []⟩ kb k) = f26_L37 N t0_5 t13_4 t10_5 t9_5 t11_5 t20_1 t19_1 o0_8 o1_1 (fun y => kb [(0, (.data (.sl false (.pair (.int .i64) (.pair (.int .i64) .unit))) t0_5)), (14, (.nv false 0 [] 0)), (13, (.data (.fn 43 (.pair (.ptr (.sl false (.pair (.int .i64) (.pair (.int .i64) .unit)))) (.pair (.ptr (.sl false (.int .i64))) (.pair (.ptr (.sl false (.int .i64))) .unit)))) t13_4)), (10, (.data (.int .i64) t10_5)), (9, (.data (.sl false (.sl false (.int .i64))) t9_5)), (11, (.data (.int .i64) t11_5)), (20, (.data (.int .i64) t20_1)), (21, (.data (.int .i64) y)), (18, (.ref 1 [] 0)), (19, (.data (.int .i64) t19_1))] [.nest (.sl true (.int .i64)) o0_8 0 0 none, .row (.int .i64) o1_1 0])
    (fun y1 y7 => k (.exit 10) (St.of [(0, (.data (.sl false (.pair (.int .i64) (.pair (.int .i64) .unit))) t0_5)), (18, (.ref 0 [] 0)), (19, (.data (.int .i64) y1)), (14, (.nv false 1 [] 0)), (13, (.data (.fn 43 (.pair (.ptr (.sl false (.pair (.int .i64) (.pair (.int .i64) .unit)))) (.pair (.ptr (.sl false (.int .i64))) (.pair (.ptr (.sl false (.int .i64))) .unit)))) t13_4)), (10, (.data (.int .i64) t10_5)), (9, (.data (.sl false (.sl false (.int .i64))) t9_5)), (11, (.data (.int .i64) t11_5)), (20, (.data (.int .i64) t20_1))] [.row (.int .i64) y7 0, .nest (.sl true (.int .i64)) o0_8 0 0 none])) x := by kernel_rfl
theorem l26_37 (N : Nat) : LoopOK (x26 N) (loopAt 37 (loopsOf b26)) :=
  loop_mk (G26_37 N) (by kernel_rfl) (by kernel_rfl) (by kernel_rfl) fun R k d =>
    loop_eq (st := fun (x : Int) => ([(0, (.data (.sl false (.pair (.int .i64) (.pair (.int .i64) .unit))) d.1.1)), (14, (.nv false 0 [] 0)), (13, (.data (.fn 43 (.pair (.ptr (.sl false (.pair (.int .i64) (.pair (.int .i64) .unit)))) (.pair (.ptr (.sl false (.int .i64))) (.pair (.ptr (.sl false (.int .i64))) .unit)))) d.1.2.2.1)), (10, (.data (.int .i64) d.1.2.2.2.1)), (9, (.data (.sl false (.sl false (.int .i64))) d.1.2.2.2.2.1)), (11, (.data (.int .i64) d.1.2.2.2.2.2.1)), (20, (.data (.int .i64) d.1.2.2.2.2.2.2.1)), (21, (.data (.int .i64) x)), (18, (.ref 1 [] 0)), (19, (.data (.int .i64) d.1.2.2.2.2.2.2.2.2.2.1))], [.nest (.sl true (.int .i64)) d.2.1 0 0 none, .row (.int .i64) d.2.2.1 0])) (s26_37 N k d.1.1 d.1.2.2.1 d.1.2.2.2.1 d.1.2.2.2.2.1 d.1.2.2.2.2.2.1 d.1.2.2.2.2.2.2.1 d.1.2.2.2.2.2.2.2.2.2.1 d.2.1 d.2.2.1) N d.1.2.2.2.2.2.2.2.1
theorem s26_34 (N : Nat) {R : Type} (k : AExit → St → Option R) (t0_4 : List (Int × (Int × Unit))) (t13_3 : (List (Int × (Int × Unit)) × (List Int × (List Int × Unit)))) (t10_4 : Int) (t9_4 : List (List Int)) (t11_4 : Int) (o1 : List (List Int)) (kb : List (Nat × AVal) → List Obj → Option R) (x : Int × Int × List Int) : codeK (x26 N) (loopAt 34 (loopsOf b26)) (St.of [(20, (.data (.int .i64) x.1)), (0, (.data (.sl false (.pair (.int .i64) (.pair (.int .i64) .unit))) t0_4)), (18, (.ref 0 [] 0)), (19, (.data (.int .i64) x.2.1)), (14, (.nv false 1 [] 0)), (13, (.data (.fn 43 (.pair (.ptr (.sl false (.pair (.int .i64) (.pair (.int .i64) .unit)))) (.pair (.ptr (.sl false (.int .i64))) (.pair (.ptr (.sl false (.int .i64))) .unit)))) t13_3)), (10, (.data (.int .i64) t10_4)), (9, (.data (.sl false (.sl false (.int .i64))) t9_4)), (11, (.data (.int .i64) t11_4))] [.row (.int .i64) x.2.2 0, .nest (.sl true (.int .i64)) o1 0 0 none]) (kLoop (x26 N) 34 ⟨[20, 0, 18, 19, 14, 13, 10, 9, 11], [(18, none, .row (.int .i64))]⟩ kb k) = f26_L34 N t0_4 t13_3 t10_4 t9_4 t11_4 o1 (fun y => kb [(20, (.data (.int .i64) y.1)), (0, (.data (.sl false (.pair (.int .i64) (.pair (.int .i64) .unit))) t0_4)), (18, (.ref 0 [] 0)), (19, (.data (.int .i64) y.2.1)), (14, (.nv false 1 [] 0)), (13, (.data (.fn 43 (.pair (.ptr (.sl false (.pair (.int .i64) (.pair (.int .i64) .unit)))) (.pair (.ptr (.sl false (.int .i64))) (.pair (.ptr (.sl false (.int .i64))) .unit)))) t13_3)), (10, (.data (.int .i64) t10_4)), (9, (.data (.sl false (.sl false (.int .i64))) t9_4)), (11, (.data (.int .i64) t11_4))] [.row (.int .i64) y.2.2 0, .nest (.sl true (.int .i64)) o1 0 0 none])
    (fun y2 => k (.exit 8) (St.of [(9, (.data (.sl false (.sl false (.int .i64))) t9_4)), (11, (.data (.int .i64) t11_4)), (18, (.ref 0 [] 0))] [.row (.int .i64) y2 0])) x := by kernel_rfl
theorem l26_34 (N : Nat) : LoopOK (x26 N) (loopAt 34 (loopsOf b26)) :=
  loop_mk (G26_34 N) (by kernel_rfl) (by kernel_rfl) (by kernel_rfl) fun R k d =>
    loop_eq (st := fun (x : Int × Int × List Int) => ([(20, (.data (.int .i64) x.1)), (0, (.data (.sl false (.pair (.int .i64) (.pair (.int .i64) .unit))) d.1.2.1)), (18, (.ref 0 [] 0)), (19, (.data (.int .i64) x.2.1)), (14, (.nv false 1 [] 0)), (13, (.data (.fn 43 (.pair (.ptr (.sl false (.pair (.int .i64) (.pair (.int .i64) .unit)))) (.pair (.ptr (.sl false (.int .i64))) (.pair (.ptr (.sl false (.int .i64))) .unit)))) d.1.2.2.2.2.2.1)), (10, (.data (.int .i64) d.1.2.2.2.2.2.2.1)), (9, (.data (.sl false (.sl false (.int .i64))) d.1.2.2.2.2.2.2.2.1)), (11, (.data (.int .i64) d.1.2.2.2.2.2.2.2.2.1))], [.row (.int .i64) x.2.2 0, .nest (.sl true (.int .i64)) d.2.2.1 0 0 none])) (s26_34 N k d.1.2.1 d.1.2.2.2.2.2.1 d.1.2.2.2.2.2.2.1 d.1.2.2.2.2.2.2.2.1 d.1.2.2.2.2.2.2.2.2.1 d.2.2.1) N (d.1.1, d.1.2.2.2.1, d.2.1)
theorem e26 (N : Nat) (a0 : List (Int × (Int × Unit))) (a1 : Int) : bodyK (x26 N) [(.sl true (.int .i64)), (.int .i64), (.sl false (.sl false (.int .i64))), (.int .i64)] [.tmp 4, .tmp 5, .tmp 6, .tmp 7] b26 (entry (.pr (.val (.sl false (.pair (.int .i64) (.pair (.int .i64) .unit)))) (.pr (.val (.int .i64)) .un)) (a0, (a1, ()))) = f26 N a0 a1 := by kernel_rfl
theorem k26 (N : Nat) : CalleeOK Go.Proofs.Try.prog 26 (c26 N) :=
  fn_ok (fn := Go.Proofs.Try.f26) (body := b26) (c := x26 N) Go.Proofs.Try.func26 (by kernel_rfl) (by kernel_rfl) ⟨ttL_ok, mtL_ok, eqL_ok, env_cons (forall_mem1 (k12 N)) (env_cons (forall_mem1 (k38 N)) (env_cons (forall_mem1 (k39 N)) (env_cons (forall_mem1 (k43 N)) (env_nil))))⟩ mixed (by kernel_rfl) (Nat.le_of_ble_eq_true (by kernel_rfl)) (by kernel_rfl) (by decide)
    (loops_ok (by kernel_rfl : loopsOf b26 = [loopAt 10 (loopsOf b26), loopAt 15 (loopsOf b26), loopAt 19 (loopsOf b26), loopAt 25 (loopsOf b26), loopAt 34 (loopsOf b26), loopAt 37 (loopsOf b26)]) (.cons (l26_10 N) (.cons (l26_15 N) (.cons (l26_19 N) (.cons (l26_25 N) (.cons (l26_34 N) (.cons (l26_37 N) .nil))))))) fun d => e26 N d.1 d.2.1
/-! ### 14: keyhole/bucket.Settle -/
def f14_L3 {R : Type} (N : Nat) (t1 : Int) (t10 : List Int) (t11 : Int) (kb : Int × Int × Bool → Option R) (kx0 : Int → Option R) : Int × Int × Bool → Option R :=
  fun (t12, t5, t6) =>
    cond (decide (t12 < t11))
      ((idx t10 t12).bind fun x =>
      (cond (decide (t1 ≤ x))
          ((cond (!t6)
              (some true)
              (some (decide (x < t5)))).bind fun b =>
          some b)
          (some false)).bind fun b_1 =>
      cond b_1
        (kb ((wi64 (t12 + 1)), x, true))
        (kb ((wi64 (t12 + 1)), t5, t6)))
      (kx0 t5)
def f14 (N : Nat) (a0 : List Int) (a1 : Int) : Option (Int) :=
  iter (fun w => f14_L3 N a1 a0 (len a0) w
    (fun t5_1 =>
      some t5_1)) N (0, a1, false)
def c14 (N : Nat) : Callee := .pure (.pr (.val (.sl false (.int .i64))) (.pr (.val (.int .i64)) .un)) [(.int .i64)] fun d => f14 N d.1 d.2.1
def F14_3 : SForm := ⟨[(12, (.val (.int .i64))), (5, (.val (.int .i64))), (6, (.val .bool)), (1, (.val (.int .i64))), (10, (.val (.sl false (.int .i64)))), (11, (.val (.int .i64)))], []⟩
def G14_3 (N : Nat) : (R : Type) → F14_3.den → (AExit → St → Option R) → Option R := fun R d k => iter (fun kb => f14_L3 N d.1.2.2.2.1 d.1.2.2.2.2.1 d.1.2.2.2.2.2.1 kb
    (fun y0 => k (.exit 0) (St.of [(5, (.data (.int .i64) y0))] []))) N (d.1.1, d.1.2.1, d.1.2.2.1)
def lp14 (N : Nat) : Nat → Option LoopFn := fun r => cond (Nat.beq r 3) (some fun R sl os k => F14_3.take sl os fun d => G14_3 N R d k) (none)
def x14 (N : Nat) : Ctx := { fuel := N, tt := getL ttL, mt := getL mtL, ntmps := 31, env := fun f => (getL [] f).getD [], cut := getL [(3, ⟨[12, 5, 6, 1, 10, 11], []⟩)], exits := fun r => getL ((getL [(3, [(0, ⟨[5], []⟩)])] r).getD []), res := ⟨[4], []⟩, own := fun _ => none, lp := lp14 N, eqs := fun T => memN T eqL }
noncomputable def b14 : Code := ((Go.Proofs.Try.f14).body).getD .skip
theorem s14_3 (N : Nat) {R : Type} (k : AExit → St → Option R) (t1 : Int) (t10 : List Int) (t11 : Int) (kb : List (Nat × AVal) → List Obj → Option R) (x : Int × Int × Bool) : codeK (x14 N) (loopAt 3 (loopsOf b14)) (St.of [(12, (.data (.int .i64) x.1)), (5, (.data (.int .i64) x.2.1)), (6, (.data .bool x.2.2)), (1, (.data (.int .i64) t1)), (10, (.data (.sl false (.int .i64)) t10)), (11, (.data (.int .i64) t11))] []) (kLoop (x14 N) 3 ⟨[12, 5, 6, 1, 10, 11], []⟩ kb k) = f14_L3 N t1 t10 t11 (fun y => kb [(12, (.data (.int .i64) y.1)), (5, (.data (.int .i64) y.2.1)), (6, (.data .bool y.2.2)), (1, (.data (.int .i64) t1)), (10, (.data (.sl false (.int .i64)) t10)), (11, (.data (.int .i64) t11))] [])
    (fun y0 => k (.exit 0) (St.of [(5, (.data (.int .i64) y0))] [])) x := by kernel_rfl
theorem l14_3 (N : Nat) : LoopOK (x14 N) (loopAt 3 (loopsOf b14)) :=
  loop_mk (G14_3 N) (by kernel_rfl) (by kernel_rfl) (by kernel_rfl) fun R k d =>
    loop_eq (st := fun (x : Int × Int × Bool) => ([(12, (.data (.int .i64) x.1)), (5, (.data (.int .i64) x.2.1)), (6, (.data .bool x.2.2)), (1, (.data (.int .i64) d.1.2.2.2.1)), (10, (.data (.sl false (.int .i64)) d.1.2.2.2.2.1)), (11, (.data (.int .i64) d.1.2.2.2.2.2.1))], [])) (s14_3 N k d.1.2.2.2.1 d.1.2.2.2.2.1 d.1.2.2.2.2.2.1) N (d.1.1, d.1.2.1, d.1.2.2.1)
theorem e14 (N : Nat) (a0 : List Int) (a1 : Int) : bodyK (x14 N) [(.int .i64)] [.tmp 4] b14 (entry (.pr (.val (.sl false (.int .i64))) (.pr (.val (.int .i64)) .un)) (a0, (a1, ()))) = f14 N a0 a1 := by kernel_rfl
theorem k14 (N : Nat) : CalleeOK Go.Proofs.Try.prog 14 (c14 N) :=
  fn_ok (fn := Go.Proofs.Try.f14) (body := b14) (c := x14 N) Go.Proofs.Try.func14 (by kernel_rfl) (by kernel_rfl) ⟨ttL_ok, mtL_ok, eqL_ok, env_nil⟩ mixed (by kernel_rfl) (Nat.le_of_ble_eq_true (by kernel_rfl)) (by kernel_rfl) (by decide)
    (loops_ok (by kernel_rfl : loopsOf b14 = [loopAt 3 (loopsOf b14)]) (.cons (l14_3 N) .nil)) fun d => e14 N d.1 d.2.1
/-! ### 10: keyhole/bucket.Cost -/
def f10_L7 {R : Type} (N : Nat) (t1 : List Int) (t0 : List (Int × (Int × Unit))) (kb : Int → Option R) (kret : Int → Int → Option R) (kx0 : Unit → Option R) : Int → Option R :=
  fun t7 =>
    cond (decide (t7 < (len t1)))
      ((idx t1 t7).bind fun x =>
      (idx t1 (wi64 (t7 - 1))).bind fun x_1 =>
      cond (decide (x ≤ x_1))
        (kret 0 10)
        (kb (wi64 (t7 + 1))))
      (kx0 ())
def f10_L15 {R : Type} (N : Nat) (t1_1 : List Int) (t63 : List (Int × (Int × Unit))) (t64 : Int) (kb : Int × Int → Option R) (kx2 : Int → Option R) : Int × Int → Option R :=
  fun (t65, t8) =>
    cond (decide (t65 < t64))
      ((idx t63 t65).bind fun x_5 =>
      (f14 N t1_1 x_5.1).bind fun r_1 =>
      kb ((wi64 (t65 + 1)), (wi64 (t8 + (wi64 (x_5.2.1 * (wi64 (r_1 - x_5.1))))))))
      (kx2 t8)
def f10 (N : Nat) (a0 : List (Int × (Int × Unit))) (a1 : List Int) : Option (Int × Int) :=
  (f12 N a0).bind fun r =>
  cond (!(decide (r = 0)))
    (some (0, r))
    (cond (decide (32 < (len a1)))
      (some (0, 4))
      (iter (fun w => f10_L7 N a1 a0 w
        (fun t4 t5 =>
          some (t4, t5))
        (fun (_ : Unit) =>
          (cond (decide ((len a1) = 0))
              (some true)
              ((idx a1 (wi64 ((len a1) - 1))).bind fun x_2 =>
              (idx a0 (wi64 ((len a0) - 1))).bind fun x_3 =>
              some (decide (x_2 < x_3.1)))).bind fun b =>
          (cond b
              (some true)
              ((idx a1 (wi64 ((len a1) - 1))).bind fun x_4 =>
              some (decide (67108864 < x_4)))).bind fun b_1 =>
          cond b_1
            (some (0, 3))
            (iter (fun w => f10_L15 N a1 a0 (len a0) w
              (fun t8_1 =>
                some (t8_1, 0))) N (0, 0)))) N 1))
def c10 (N : Nat) : Callee := .pure (.pr (.val (.sl false (.pair (.int .i64) (.pair (.int .i64) .unit)))) (.pr (.val (.sl false (.int .i64))) .un)) [(.int .i64), (.int .i64)] fun d => f10 N d.1 d.2.1
def F10_7 : SForm := ⟨[(7, (.val (.int .i64))), (1, (.val (.sl false (.int .i64)))), (0, (.val (.sl false (.pair (.int .i64) (.pair (.int .i64) .unit)))))], []⟩
def G10_7 (N : Nat) : (R : Type) → F10_7.den → (AExit → St → Option R) → Option R := fun R d k => iter (fun kb => f10_L7 N d.1.2.1 d.1.2.2.1 kb
    (fun y0 y1 => k .ret (St.of [(4, (.data (.int .i64) y0)), (5, (.data (.int .i64) y1))] []))
    (fun _ => k (.exit 0) (St.of [(1, (.data (.sl false (.int .i64)) d.1.2.1)), (0, (.data (.sl false (.pair (.int .i64) (.pair (.int .i64) .unit))) d.1.2.2.1))] []))) N d.1.1
def F10_15 : SForm := ⟨[(65, (.val (.int .i64))), (1, (.val (.sl false (.int .i64)))), (8, (.val (.int .i64))), (63, (.val (.sl false (.pair (.int .i64) (.pair (.int .i64) .unit))))), (64, (.val (.int .i64)))], []⟩
def G10_15 (N : Nat) : (R : Type) → F10_15.den → (AExit → St → Option R) → Option R := fun R d k => iter (fun kb => f10_L15 N d.1.2.1 d.1.2.2.2.1 d.1.2.2.2.2.1 kb
    (fun y0 => k (.exit 2) (St.of [(8, (.data (.int .i64) y0))] []))) N (d.1.1, d.1.2.2.1)
def lp10 (N : Nat) : Nat → Option LoopFn := fun r => cond (Nat.beq r 7) (some fun R sl os k => F10_7.take sl os fun d => G10_7 N R d k) (cond (Nat.beq r 15) (some fun R sl os k => F10_15.take sl os fun d => G10_15 N R d k) (none))
def x10 (N : Nat) : Ctx := { fuel := N, tt := getL ttL, mt := getL mtL, ntmps := 83, env := fun f => (getL [(12, [c12 N]), (14, [c14 N])] f).getD [], cut := getL [(7, ⟨[7, 1, 0], []⟩), (15, ⟨[65, 1, 8, 63, 64], []⟩)], exits := fun r => getL ((getL [(7, [(0, ⟨[1, 0], []⟩)]), (15, [(2, ⟨[8], []⟩)])] r).getD []), res := ⟨[4, 5], []⟩, own := fun _ => none, lp := lp10 N, eqs := fun T => memN T eqL }
noncomputable def b10 : Code := ((Go.Proofs.Try.f10).body).getD .skip
theorem s10_7 (N : Nat) {R : Type} (k : AExit → St → Option R) (t1 : List Int) (t0 : List (Int × (Int × Unit))) (kb : List (Nat × AVal) → List Obj → Option R) (x : Int) : codeK (x10 N) (loopAt 7 (loopsOf b10)) (St.of [(7, (.data (.int .i64) x)), (1, (.data (.sl false (.int .i64)) t1)), (0, (.data (.sl false (.pair (.int .i64) (.pair (.int .i64) .unit))) t0))] []) (kLoop (x10 N) 7 ⟨[7, 1, 0], []⟩ kb k) = f10_L7 N t1 t0 (fun y => kb [(7, (.data (.int .i64) y)), (1, (.data (.sl false (.int .i64)) t1)), (0, (.data (.sl false (.pair (.int .i64) (.pair (.int .i64) .unit))) t0))] [])
    (fun y0 y1 => k .ret (St.of [(4, (.data (.int .i64) y0)), (5, (.data (.int .i64) y1))] []))
    (fun _ => k (.exit 0) (St.of [(1, (.data (.sl false (.int .i64)) t1)), (0, (.data (.sl false (.pair (.int .i64) (.pair (.int .i64) .unit))) t0))] [])) x := by kernel_rfl
theorem l10_7 (N : Nat) : LoopOK (x10 N) (loopAt 7 (loopsOf b10)) :=
  loop_mk (G10_7 N) (by kernel_rfl) (by kernel_rfl) (by kernel_rfl) fun R k d =>
    loop_eq (st := fun (x : Int) => ([(7, (.data (.int .i64) x)), (1, (.data (.sl false (.int .i64)) d.1.2.1)), (0, (.data (.sl false (.pair (.int .i64) (.pair (.int .i64) .unit))) d.1.2.2.1))], [])) (s10_7 N k d.1.2.1 d.1.2.2.1) N d.1.1
theorem s10_15 (N : Nat) {R : Type} (k : AExit → St → Option R) (t1_1 : List Int) (t63 : List (Int × (Int × Unit))) (t64 : Int) (kb : List (Nat × AVal) → List Obj → Option R) (x : Int × Int) : codeK (x10 N) (loopAt 15 (loopsOf b10)) (St.of [(65, (.data (.int .i64) x.1)), (1, (.data (.sl false (.int .i64)) t1_1)), (8, (.data (.int .i64) x.2)), (63, (.data (.sl false (.pair (.int .i64) (.pair (.int .i64) .unit))) t63)), (64, (.data (.int .i64) t64))] []) (kLoop (x10 N) 15 ⟨[65, 1, 8, 63, 64], []⟩ kb k) = f10_L15 N t1_1 t63 t64 (fun y => kb [(65, (.data (.int .i64) y.1)), (1, (.data (.sl false (.int .i64)) t1_1)), (8, (.data (.int .i64) y.2)), (63, (.data (.sl false (.pair (.int .i64) (.pair (.int .i64) .unit))) t63)), (64, (.data (.int .i64) t64))] [])
    (fun y0 => k (.exit 2) (St.of [(8, (.data (.int .i64) y0))] [])) x := by kernel_rfl
theorem l10_15 (N : Nat) : LoopOK (x10 N) (loopAt 15 (loopsOf b10)) :=
  loop_mk (G10_15 N) (by kernel_rfl) (by kernel_rfl) (by kernel_rfl) fun R k d =>
    loop_eq (st := fun (x : Int × Int) => ([(65, (.data (.int .i64) x.1)), (1, (.data (.sl false (.int .i64)) d.1.2.1)), (8, (.data (.int .i64) x.2)), (63, (.data (.sl false (.pair (.int .i64) (.pair (.int .i64) .unit))) d.1.2.2.2.1)), (64, (.data (.int .i64) d.1.2.2.2.2.1))], [])) (s10_15 N k d.1.2.1 d.1.2.2.2.1 d.1.2.2.2.2.1) N (d.1.1, d.1.2.2.1)
theorem e10 (N : Nat) (a0 : List (Int × (Int × Unit))) (a1 : List Int) : bodyK (x10 N) [(.int .i64), (.int .i64)] [.tmp 4, .tmp 5] b10 (entry (.pr (.val (.sl false (.pair (.int .i64) (.pair (.int .i64) .unit)))) (.pr (.val (.sl false (.int .i64))) .un)) (a0, (a1, ()))) = f10 N a0 a1 := by kernel_rfl
theorem k10 (N : Nat) : CalleeOK Go.Proofs.Try.prog 10 (c10 N) :=
  fn_ok (fn := Go.Proofs.Try.f10) (body := b10) (c := x10 N) Go.Proofs.Try.func10 (by kernel_rfl) (by kernel_rfl) ⟨ttL_ok, mtL_ok, eqL_ok, env_cons (forall_mem1 (k12 N)) (env_cons (forall_mem1 (k14 N)) (env_nil))⟩ mixed (by kernel_rfl) (Nat.le_of_ble_eq_true (by kernel_rfl)) (by kernel_rfl) (by decide)
    (loops_ok (by kernel_rfl : loopsOf b10 = [loopAt 7 (loopsOf b10), loopAt 15 (loopsOf b10)]) (.cons (l10_7 N) (.cons (l10_15 N) .nil))) fun d => e10 N d.1 d.2.1
/-! ### 23: keyhole/bucket.Curve -/
def f23_L6 {R : Type} (N : Nat) (t0 : List (Int × (Int × Unit))) (t17 : List (List Int)) (t18 : Int) (kb : Int × List Int → Option R) (kx0 : (List Int) → Option R) : Int × List Int → Option R :=
  fun (t19, o0) =>
    cond (decide (t19 < t18))
      ((idx t17 t19).bind fun x =>
      (idx x (len t0)).bind fun x_1 =>
      chk (decide ((o0.length.succ) ≤ room)) <|
      kb ((wi64 (t19 + 1)), (o0 ++ (x_1 :: ([] : List Int)))))
      (kx0 o0)
def f23 (N : Nat) (a0 : List (Int × (Int × Unit))) : Option (List Int × Int) :=
  (f12 N a0).bind fun r =>
  cond (!(decide (r = 0)))
    (some (([] : List Int), r))
    ((f38 N a0 (len a0)).bind fun r_1 =>
    chk ((decide (1 ≤ (len r_1))) && (decide ((len r_1) ≤ (len r_1)))) <|
    iter (fun w => f23_L6 N a0 (sub r_1 1 (len r_1)) (len (sub r_1 1 (len r_1))) w
      (fun o0_1 =>
        some (o0_1, 0))) N (0, ([] : List Int)))
def c23 (N : Nat) : Callee := .pure (.pr (.val (.sl false (.pair (.int .i64) (.pair (.int .i64) .unit)))) .un) [(.sl true (.int .i64)), (.int .i64)] fun d => f23 N d.1
def F23_6 : SForm := ⟨[(19, (.val (.int .i64))), (0, (.val (.sl false (.pair (.int .i64) (.pair (.int .i64) .unit))))), (5, (.ref 0)), (17, (.val (.sl false (.sl false (.int .i64))))), (18, (.val (.int .i64)))], [.row (.int .i64)]⟩
def G23_6 (N : Nat) : (R : Type) → F23_6.den → (AExit → St → Option R) → Option R := fun R d k => iter (fun kb => f23_L6 N d.1.2.1 d.1.2.2.2.1 d.1.2.2.2.2.1 kb
    (fun y0 => k (.exit 0) (St.of [(5, (.ref 0 [] 0))] [.row (.int .i64) y0 0]))) N (d.1.1, d.2.1)
def lp23 (N : Nat) : Nat → Option LoopFn := fun r => cond (Nat.beq r 6) (some fun R sl os k => F23_6.take sl os fun d => G23_6 N R d k) (none)
def x23 (N : Nat) : Ctx := { fuel := N, tt := getL ttL, mt := getL mtL, ntmps := 33, env := fun f => (getL [(12, [c12 N]), (38, [c38 N])] f).getD [], cut := getL [(6, ⟨[19, 0, 5, 17, 18], [(5, none, .row (.int .i64))]⟩)], exits := fun r => getL ((getL [(6, [(0, ⟨[5], []⟩)])] r).getD []), res := ⟨[2, 3], []⟩, own := fun _ => none, lp := lp23 N, eqs := fun T => memN T eqL }
noncomputable def b23 : Code := ((Go.Proofs.Try.f23).body).getD .skip
theorem s23_6 (N : Nat) {R : Type} (k : AExit → St → Option R) (t0 : List (Int × (Int × Unit))) (t17 : List (List Int)) (t18 : Int) (kb : List (Nat × AVal) → List Obj → Option R) (x : Int × List Int) : codeK (x23 N) (loopAt 6 (loopsOf b23)) (St.of [(19, (.data (.int .i64) x.1)), (0, (.data (.sl false (.pair (.int .i64) (.pair (.int .i64) .unit))) t0)), (5, (.ref 0 [] 0)), (17, (.data (.sl false (.sl false (.int .i64))) t17)), (18, (.data (.int .i64) t18))] [.row (.int .i64) x.2 0]) (kLoop (x23 N) 6 ⟨[19, 0, 5, 17, 18], [(5, none, .row (.int .i64))]⟩ kb k) = f23_L6 N t0 t17 t18 (fun y => kb [(19, (.data (.int .i64) y.1)), (0, (.data (.sl false (.pair (.int .i64) (.pair (.int .i64) .unit))) t0)), (5, (.ref 0 [] 0)), (17, (.data (.sl false (.sl false (.int .i64))) t17)), (18, (.data (.int .i64) t18))] [.row (.int .i64) y.2 0])
    (fun y0 => k (.exit 0) (St.of [(5, (.ref 0 [] 0))] [.row (.int .i64) y0 0])) x := by kernel_rfl
theorem l23_6 (N : Nat) : LoopOK (x23 N) (loopAt 6 (loopsOf b23)) :=
  loop_mk (G23_6 N) (by kernel_rfl) (by kernel_rfl) (by kernel_rfl) fun R k d =>
    loop_eq (st := fun (x : Int × List Int) => ([(19, (.data (.int .i64) x.1)), (0, (.data (.sl false (.pair (.int .i64) (.pair (.int .i64) .unit))) d.1.2.1)), (5, (.ref 0 [] 0)), (17, (.data (.sl false (.sl false (.int .i64))) d.1.2.2.2.1)), (18, (.data (.int .i64) d.1.2.2.2.2.1))], [.row (.int .i64) x.2 0])) (s23_6 N k d.1.2.1 d.1.2.2.2.1 d.1.2.2.2.2.1) N (d.1.1, d.2.1)
theorem e23 (N : Nat) (a0 : List (Int × (Int × Unit))) : bodyK (x23 N) [(.sl true (.int .i64)), (.int .i64)] [.tmp 2, .tmp 3] b23 (entry (.pr (.val (.sl false (.pair (.int .i64) (.pair (.int .i64) .unit)))) .un) (a0, ())) = f23 N a0 := by kernel_rfl
theorem k23 (N : Nat) : CalleeOK Go.Proofs.Try.prog 23 (c23 N) :=
  fn_ok (fn := Go.Proofs.Try.f23) (body := b23) (c := x23 N) Go.Proofs.Try.func23 (by kernel_rfl) (by kernel_rfl) ⟨ttL_ok, mtL_ok, eqL_ok, env_cons (forall_mem1 (k12 N)) (env_cons (forall_mem1 (k38 N)) (env_nil))⟩ mixed (by kernel_rfl) (Nat.le_of_ble_eq_true (by kernel_rfl)) (by kernel_rfl) (by decide)
    (loops_ok (by kernel_rfl : loopsOf b23 = [loopAt 6 (loopsOf b23)]) (.cons (l23_6 N) .nil)) fun d => e23 N d.1
/-! ### 24: slices.Equal[[]int,int] -/
def f24_L4 {R : Type} (N : Nat) (t1 : List Int) (t0 : List Int) (t12 : Int) (kb : Int → Option R) (kret : Bool → Option R) (kx0 : Unit → Option R) : Int → Option R :=
  fun t13 =>
    cond (decide (t13 < t12))
      ((idx t0 t13).bind fun x =>
      (idx t1 t13).bind fun x_1 =>
      cond (!(decide (x = x_1)))
        (kret false)
        (kb (wi64 (t13 + 1))))
      (kx0 ())
def f24 (N : Nat) (a0 : List Int) (a1 : List Int) : Option (Bool) :=
  cond (!(decide ((len a0) = (len a1))))
    (some false)
    (iter (fun w => f24_L4 N a1 a0 (len a0) w
      (fun t4 =>
        some t4)
      (fun (_ : Unit) =>
        some true)) N 0)
def c24 (N : Nat) : Callee := .pure (.pr (.val (.sl false (.int .i64))) (.pr (.val (.sl false (.int .i64))) .un)) [.bool] fun d => f24 N d.1 d.2.1
def F24_4 : SForm := ⟨[(13, (.val (.int .i64))), (1, (.val (.sl false (.int .i64)))), (0, (.val (.sl false (.int .i64)))), (12, (.val (.int .i64)))], []⟩
def G24_4 (N : Nat) : (R : Type) → F24_4.den → (AExit → St → Option R) → Option R := fun R d k => iter (fun kb => f24_L4 N d.1.2.1 d.1.2.2.1 d.1.2.2.2.1 kb
    (fun y0 => k .ret (St.of [(4, (.data .bool y0))] []))
    (fun _ => k (.exit 0) (St.of [] []))) N d.1.1
def lp24 (N : Nat) : Nat → Option LoopFn := fun r => cond (Nat.beq r 4) (some fun R sl os k => F24_4.take sl os fun d => G24_4 N R d k) (none)
def x24 (N : Nat) : Ctx := { fuel := N, tt := getL ttL, mt := getL mtL, ntmps := 26, env := fun f => (getL [] f).getD [], cut := getL [(4, ⟨[13, 1, 0, 12], []⟩)], exits := fun r => getL ((getL [(4, [(0, ⟨[], []⟩)])] r).getD []), res := ⟨[4], []⟩, own := fun _ => none, lp := lp24 N, eqs := fun T => memN T eqL }
noncomputable def b24 : Code := ((Go.Proofs.Try.f24).body).getD .skip
theorem s24_4 (N : Nat) {R : Type} (k : AExit → St → Option R) (t1 : List Int) (t0 : List Int) (t12 : Int) (kb : List (Nat × AVal) → List Obj → Option R) (x : Int) : codeK (x24 N) (loopAt 4 (loopsOf b24)) (St.of [(13, (.data (.int .i64) x)), (1, (.data (.sl false (.int .i64)) t1)), (0, (.data (.sl false (.int .i64)) t0)), (12, (.data (.int .i64) t12))] []) (kLoop (x24 N) 4 ⟨[13, 1, 0, 12], []⟩ kb k) = f24_L4 N t1 t0 t12 (fun y => kb [(13, (.data (.int .i64) y)), (1, (.data (.sl false (.int .i64)) t1)), (0, (.data (.sl false (.int .i64)) t0)), (12, (.data (.int .i64) t12))] [])
    (fun y0 => k .ret (St.of [(4, (.data .bool y0))] []))
    (fun _ => k (.exit 0) (St.of [] [])) x := by kernel_rfl
theorem l24_4 (N : Nat) : LoopOK (x24 N) (loopAt 4 (loopsOf b24)) :=
  loop_mk (G24_4 N) (by kernel_rfl) (by kernel_rfl) (by kernel_rfl) fun R k d =>
    loop_eq (st := fun (x : Int) => ([(13, (.data (.int .i64) x)), (1, (.data (.sl false (.int .i64)) d.1.2.1)), (0, (.data (.sl false (.int .i64)) d.1.2.2.1)), (12, (.data (.int .i64) d.1.2.2.2.1))], [])) (s24_4 N k d.1.2.1 d.1.2.2.1 d.1.2.2.2.1) N d.1.1
theorem e24 (N : Nat) (a0 : List Int) (a1 : List Int) : bodyK (x24 N) [.bool] [.tmp 4] b24 (entry (.pr (.val (.sl false (.int .i64))) (.pr (.val (.sl false (.int .i64))) .un)) (a0, (a1, ()))) = f24 N a0 a1 := by kernel_rfl
theorem k24 (N : Nat) : CalleeOK Go.Proofs.Try.prog 24 (c24 N) :=
  fn_ok (fn := Go.Proofs.Try.f24) (body := b24) (c := x24 N) Go.Proofs.Try.func24 (by kernel_rfl) (by kernel_rfl) ⟨ttL_ok, mtL_ok, eqL_ok, env_nil⟩ mixed (by kernel_rfl) (Nat.le_of_ble_eq_true (by kernel_rfl)) (by kernel_rfl) (by decide)
    (loops_ok (by kernel_rfl : loopsOf b24 = [loopAt 4 (loopsOf b24)]) (.cons (l24_4 N) .nil)) fun d => e24 N d.1 d.2.1
/-! ### 31: keyhole/bucket.holds -/
def f31_L11 {R : Type} (N : Nat) (t7 : Int) (t5_2 : (List (Int × (Int × Unit)) × (List Int × (List Int × Unit)))) (t6_2 : Int) (t1_2 : List (List Int)) (t27_1 : Int) (t28_1 : Int) (t32 : Int) (kb : Int → Option R) (kret : Bool → Option R) (kx4 : Unit → Option R) : Int → Option R :=
  fun t33 =>
    cond (decide (t33 < t32))
      ((cond (decide (1 < t6_2))
          (some true)
          (some (decide (t33 = 0)))).bind fun b =>
      (cond b
          ((idx t1_2 t6_2).bind fun x_3 =>
          (idx x_3 t7).bind fun x_4 =>
          (idx t1_2 (wi64 (t6_2 - 1))).bind fun x_5 =>
          (idx x_5 t33).bind fun x_6 =>
          (f43 N t33 t7 t5_2.1 t5_2.2.1 t5_2.2.2.1).bind fun r_1 =>
          some (decide ((wi64 (x_6 + r_1)) < x_4)))
          (some false)).bind fun b_1 =>
      cond b_1
        (kret false)
        (kb (wi64 (t33 + 1))))
      (kx4 ())
def f31_L8 {R : Type} (N : Nat) (t5_1 : (List (Int × (Int × Unit)) × (List Int × (List Int × Unit)))) (t6_1 : Int) (t1_1 : List (List Int)) (t27 : Int) (kb : Int → Option R) (kret : Bool → Option R) (kx2 : Unit → Option R) : Int → Option R :=
  fun t28 =>
    cond (decide (t28 < t27))
      (iter (fun w => f31_L11 N t28 t5_1 t6_1 t1_1 t27 t28 (wi64 (t28 + 1)) w
        (fun t4 =>
          kret t4)
        (fun (_ : Unit) =>
          kb (wi64 (t28 + 1)))) N 0)
      (kx2 ())
def f31_L5 {R : Type} (N : Nat) (t5 : (List (Int × (Int × Unit)) × (List Int × (List Int × Unit)))) (t1 : List (List Int)) (kb : Int → Option R) (kret : Bool → Option R) (kx0 : Unit → Option R) : Int → Option R :=
  fun t6 =>
    cond (decide (t6 < (len t1)))
      ((idx t1 t6).bind fun x_2 =>
      iter (fun w => f31_L8 N t5 t6 t1 (len x_2) w
        (fun t4_1 =>
          kret t4_1)
        (fun (_ : Unit) =>
          kb (wi64 (t6 + 1)))) N 0)
      (kx0 ())
def f31 (N : Nat) (a0 : List (Int × (Int × Unit))) (a1 : List (List Int)) : Option (Bool) :=
  (idx a1 0).bind fun x =>
  (idx x 0).bind fun x_1 =>
  cond (!(decide (x_1 = 0)))
    (some false)
    ((f39 N a0).bind fun r =>
    iter (fun w => f31_L5 N r a1 w
      (fun t4_2 =>
        some t4_2)
      (fun (_ : Unit) =>
        some true)) N 1)
def c31 (N : Nat) : Callee := .pure (.pr (.val (.sl false (.pair (.int .i64) (.pair (.int .i64) .unit)))) (.pr (.val (.sl false (.sl false (.int .i64)))) .un)) [.bool] fun d => f31 N d.1 d.2.1
def F31_11 : SForm := ⟨[(33, (.val (.int .i64))), (7, (.val (.int .i64))), (5, (.val (.fn 43 (.pair (.ptr (.sl false (.pair (.int .i64) (.pair (.int .i64) .unit)))) (.pair (.ptr (.sl false (.int .i64))) (.pair (.ptr (.sl false (.int .i64))) .unit)))))), (6, (.val (.int .i64))), (1, (.val (.sl false (.sl false (.int .i64))))), (27, (.val (.int .i64))), (28, (.val (.int .i64))), (32, (.val (.int .i64)))], []⟩
def G31_11 (N : Nat) : (R : Type) → F31_11.den → (AExit → St → Option R) → Option R := fun R d k => iter (fun kb => f31_L11 N d.1.2.1 d.1.2.2.1 d.1.2.2.2.1 d.1.2.2.2.2.1 d.1.2.2.2.2.2.1 d.1.2.2.2.2.2.2.1 d.1.2.2.2.2.2.2.2.1 kb
    (fun y0 => k .ret (St.of [(4, (.data .bool y0))] []))
    (fun _ => k (.exit 4) (St.of [(5, (.data (.fn 43 (.pair (.ptr (.sl false (.pair (.int .i64) (.pair (.int .i64) .unit)))) (.pair (.ptr (.sl false (.int .i64))) (.pair (.ptr (.sl false (.int .i64))) .unit)))) d.1.2.2.1)), (6, (.data (.int .i64) d.1.2.2.2.1)), (1, (.data (.sl false (.sl false (.int .i64))) d.1.2.2.2.2.1)), (27, (.data (.int .i64) d.1.2.2.2.2.2.1)), (28, (.data (.int .i64) d.1.2.2.2.2.2.2.1))] []))) N d.1.1
def F31_8 : SForm := ⟨[(5, (.val (.fn 43 (.pair (.ptr (.sl false (.pair (.int .i64) (.pair (.int .i64) .unit)))) (.pair (.ptr (.sl false (.int .i64))) (.pair (.ptr (.sl false (.int .i64))) .unit)))))), (6, (.val (.int .i64))), (1, (.val (.sl false (.sl false (.int .i64))))), (28, (.val (.int .i64))), (27, (.val (.int .i64)))], []⟩
def G31_8 (N : Nat) : (R : Type) → F31_8.den → (AExit → St → Option R) → Option R := fun R d k => iter (fun kb => f31_L8 N d.1.1 d.1.2.1 d.1.2.2.1 d.1.2.2.2.2.1 kb
    (fun y0 => k .ret (St.of [(4, (.data .bool y0))] []))
    (fun _ => k (.exit 2) (St.of [(5, (.data (.fn 43 (.pair (.ptr (.sl false (.pair (.int .i64) (.pair (.int .i64) .unit)))) (.pair (.ptr (.sl false (.int .i64))) (.pair (.ptr (.sl false (.int .i64))) .unit)))) d.1.1)), (1, (.data (.sl false (.sl false (.int .i64))) d.1.2.2.1)), (6, (.data (.int .i64) d.1.2.1))] []))) N d.1.2.2.2.1
def F31_5 : SForm := ⟨[(5, (.val (.fn 43 (.pair (.ptr (.sl false (.pair (.int .i64) (.pair (.int .i64) .unit)))) (.pair (.ptr (.sl false (.int .i64))) (.pair (.ptr (.sl false (.int .i64))) .unit)))))), (6, (.val (.int .i64))), (1, (.val (.sl false (.sl false (.int .i64)))))], []⟩
def G31_5 (N : Nat) : (R : Type) → F31_5.den → (AExit → St → Option R) → Option R := fun R d k => iter (fun kb => f31_L5 N d.1.1 d.1.2.2.1 kb
    (fun y0 => k .ret (St.of [(4, (.data .bool y0))] []))
    (fun _ => k (.exit 0) (St.of [] []))) N d.1.2.1
def lp31 (N : Nat) : Nat → Option LoopFn := fun r => cond (Nat.beq r 11) (some fun R sl os k => F31_11.take sl os fun d => G31_11 N R d k) (cond (Nat.beq r 8) (some fun R sl os k => F31_8.take sl os fun d => G31_8 N R d k) (cond (Nat.beq r 5) (some fun R sl os k => F31_5.take sl os fun d => G31_5 N R d k) (none)))
def x31 (N : Nat) : Ctx := { fuel := N, tt := getL ttL, mt := getL mtL, ntmps := 67, env := fun f => (getL [(39, [c39 N]), (43, [c43 N])] f).getD [], cut := getL [(5, ⟨[5, 6, 1], []⟩), (8, ⟨[5, 6, 1, 28, 27], []⟩), (11, ⟨[33, 7, 5, 6, 1, 27, 28, 32], []⟩)], exits := fun r => getL ((getL [(5, [(0, ⟨[], []⟩)]), (8, [(2, ⟨[5, 1, 6], []⟩)]), (11, [(4, ⟨[5, 6, 1, 27, 28], []⟩)])] r).getD []), res := ⟨[4], []⟩, own := fun _ => none, lp := lp31 N, eqs := fun T => memN T eqL }
noncomputable def b31 : Code := ((Go.Proofs.Try.f31).body).getD .skip
theorem s31_11 (N : Nat) {R : Type} (k : AExit → St → Option R) (t7 : Int) (t5_2 : (List (Int × (Int × Unit)) × (List Int × (List Int × Unit)))) (t6_2 : Int) (t1_2 : List (List Int)) (t27_1 : Int) (t28_1 : Int) (t32 : Int) (kb : List (Nat × AVal) → List Obj → Option R) (x : Int) : codeK (x31 N) (loopAt 11 (loopsOf b31)) (St.of [(33, (.data (.int .i64) x)), (7, (.data (.int .i64) t7)), (5, (.data (.fn 43 (.pair (.ptr (.sl false (.pair (.int .i64) (.pair (.int .i64) .unit)))) (.pair (.ptr (.sl false (.int .i64))) (.pair (.ptr (.sl false (.int .i64))) .unit)))) t5_2)), (6, (.data (.int .i64) t6_2)), (1, (.data (.sl false (.sl false (.int .i64))) t1_2)), (27, (.data (.int .i64) t27_1)), (28, (.data (.int .i64) t28_1)), (32, (.data (.int .i64) t32))] []) (kLoop (x31 N) 11 ⟨[33, 7, 5, 6, 1, 27, 28, 32], []⟩ kb k) = f31_L11 N t7 t5_2 t6_2 t1_2 t27_1 t28_1 t32 (fun y => kb [(33, (.data (.int .i64) y)), (7, (.data (.int .i64) t7)), (5, (.data (.fn 43 (.pair (.ptr (.sl false (.pair (.int .i64) (.pair (.int .i64) .unit)))) (.pair (.ptr (.sl false (.int .i64))) (.pair (.ptr (.sl false (.int .i64))) .unit)))) t5_2)), (6, (.data (.int .i64) t6_2)), (1, (.data (.sl false (.sl false (.int .i64))) t1_2)), (27, (.data (.int .i64) t27_1)), (28, (.data (.int .i64) t28_1)), (32, (.data (.int .i64) t32))] [])
    (fun y0 => k .ret (St.of [(4, (.data .bool y0))] []))
    (fun _ => k (.exit 4) (St.of [(5, (.data (.fn 43 (.pair (.ptr (.sl false (.pair (.int .i64) (.pair (.int .i64) .unit)))) (.pair (.ptr (.sl false (.int .i64))) (.pair (.ptr (.sl false (.int .i64))) .unit)))) t5_2)), (6, (.data (.int .i64) t6_2)), (1, (.data (.sl false (.sl false (.int .i64))) t1_2)), (27, (.data (.int .i64) t27_1)), (28, (.data (.int .i64) t28_1))] [])) x := by kernel_rfl
theorem l31_11 (N : Nat) : LoopOK (x31 N) (loopAt 11 (loopsOf b31)) :=
  loop_mk (G31_11 N) (by kernel_rfl) (by kernel_rfl) (by kernel_rfl) fun R k d =>
    loop_eq (st := fun (x : Int) => ([(33, (.data (.int .i64) x)), (7, (.data (.int .i64) d.1.2.1)), (5, (.data (.fn 43 (.pair (.ptr (.sl false (.pair (.int .i64) (.pair (.int .i64) .unit)))) (.pair (.ptr (.sl false (.int .i64))) (.pair (.ptr (.sl false (.int .i64))) .unit)))) d.1.2.2.1)), (6, (.data (.int .i64) d.1.2.2.2.1)), (1, (.data (.sl false (.sl false (.int .i64))) d.1.2.2.2.2.1)), (27, (.data (.int .i64) d.1.2.2.2.2.2.1)), (28, (.data (.int .i64) d.1.2.2.2.2.2.2.1)), (32, (.data (.int .i64) d.1.2.2.2.2.2.2.2.1))], [])) (s31_11 N k d.1.2.1 d.1.2.2.1 d.1.2.2.2.1 d.1.2.2.2.2.1 d.1.2.2.2.2.2.1 d.1.2.2.2.2.2.2.1 d.1.2.2.2.2.2.2.2.1) N d.1.1
theorem s31_8 (N : Nat) {R : Type} (k : AExit → St → Option R) (t5_1 : (List (Int × (Int × Unit)) × (List Int × (List Int × Unit)))) (t6_1 : Int) (t1_1 : List (List Int)) (t27 : Int) (kb : List (Nat × AVal) → List Obj → Option R) (x : Int) : codeK (x31 N) (loopAt 8 (loopsOf b31)) (St.of [(5, (.data (.fn 43 (.pair (.ptr (.sl false (.pair (.int .i64) (.pair (.int .i64) .unit)))) (.pair (.ptr (.sl false (.int .i64))) (.pair (.ptr (.sl false (.int .i64))) .unit)))) t5_1)), (6, (.data (.int .i64) t6_1)), (1, (.data (.sl false (.sl false (.int .i64))) t1_1)), (28, (.data (.int .i64) x)), (27, (.data (.int .i64) t27))] []) (kLoop (x31 N) 8 ⟨[5, 6, 1, 28, 27], []⟩ kb k) = f31_L8 N t5_1 t6_1 t1_1 t27 (fun y => kb [(5, (.data (.fn 43 (.pair (.ptr (.sl false (.pair (.int .i64) (.pair (.int .i64) .unit)))) (.pair (.ptr (.sl false (.int .i64))) (.pair (.ptr (.sl false (.int .i64))) .unit)))) t5_1)), (6, (.data (.int .i64) t6_1)), (1, (.data (.sl false (.sl false (.int .i64))) t1_1)), (28, (.data (.int .i64) y)), (27, (.data (.int .i64) t27))] [])
    (fun y0 => k .ret (St.of [(4, (.data .bool y0))] []))
    (fun _ => k (.exit 2) (St.of [(5, (.data (.fn 43 (.pair (.ptr (.sl false (.pair (.int .i64) (.pair (.int .i64) .unit)))) (.pair (.ptr (.sl false (.int .i64))) (.pair (.ptr (.sl false (.int .i64))) .unit)))) t5_1)), (1, (.data (.sl false (.sl false (.int .i64))) t1_1)), (6, (.data (.int .i64) t6_1))] [])) x := by kernel_rfl
theorem l31_8 (N : Nat) : LoopOK (x31 N) (loopAt 8 (loopsOf b31)) :=
  loop_mk (G31_8 N) (by kernel_rfl) (by kernel_rfl) (by kernel_rfl) fun R k d =>
    loop_eq (st := fun (x : Int) => ([(5, (.data (.fn 43 (.pair (.ptr (.sl false (.pair (.int .i64) (.pair (.int .i64) .unit)))) (.pair (.ptr (.sl false (.int .i64))) (.pair (.ptr (.sl false (.int .i64))) .unit)))) d.1.1)), (6, (.data (.int .i64) d.1.2.1)), (1, (.data (.sl false (.sl false (.int .i64))) d.1.2.2.1)), (28, (.data (.int .i64) x)), (27, (.data (.int .i64) d.1.2.2.2.2.1))], [])) (s31_8 N k d.1.1 d.1.2.1 d.1.2.2.1 d.1.2.2.2.2.1) N d.1.2.2.2.1
theorem s31_5 (N : Nat) {R : Type} (k : AExit → St → Option R) (t5 : (List (Int × (Int × Unit)) × (List Int × (List Int × Unit)))) (t1 : List (List Int)) (kb : List (Nat × AVal) → List Obj → Option R) (x : Int) : codeK (x31 N) (loopAt 5 (loopsOf b31)) (St.of [(5, (.data (.fn 43 (.pair (.ptr (.sl false (.pair (.int .i64) (.pair (.int .i64) .unit)))) (.pair (.ptr (.sl false (.int .i64))) (.pair (.ptr (.sl false (.int .i64))) .unit)))) t5)), (6, (.data (.int .i64) x)), (1, (.data (.sl false (.sl false (.int .i64))) t1))] []) (kLoop (x31 N) 5 ⟨[5, 6, 1], []⟩ kb k) = f31_L5 N t5 t1 (fun y => kb [(5, (.data (.fn 43 (.pair (.ptr (.sl false (.pair (.int .i64) (.pair (.int .i64) .unit)))) (.pair (.ptr (.sl false (.int .i64))) (.pair (.ptr (.sl false (.int .i64))) .unit)))) t5)), (6, (.data (.int .i64) y)), (1, (.data (.sl false (.sl false (.int .i64))) t1))] [])
    (fun y0 => k .ret (St.of [(4, (.data .bool y0))] []))
    (fun _ => k (.exit 0) (St.of [] [])) x := by kernel_rfl
theorem l31_5 (N : Nat) : LoopOK (x31 N) (loopAt 5 (loopsOf b31)) :=
  loop_mk (G31_5 N) (by kernel_rfl) (by kernel_rfl) (by kernel_rfl) fun R k d =>
    loop_eq (st := fun (x : Int) => ([(5, (.data (.fn 43 (.pair (.ptr (.sl false (.pair (.int .i64) (.pair (.int .i64) .unit)))) (.pair (.ptr (.sl false (.int .i64))) (.pair (.ptr (.sl false (.int .i64))) .unit)))) d.1.1)), (6, (.data (.int .i64) x)), (1, (.data (.sl false (.sl false (.int .i64))) d.1.2.2.1))], [])) (s31_5 N k d.1.1 d.1.2.2.1) N d.1.2.1
theorem e31 (N : Nat) (a0 : List (Int × (Int × Unit))) (a1 : List (List Int)) : bodyK (x31 N) [.bool] [.tmp 4] b31 (entry (.pr (.val (.sl false (.pair (.int .i64) (.pair (.int .i64) .unit)))) (.pr (.val (.sl false (.sl false (.int .i64)))) .un)) (a0, (a1, ()))) = f31 N a0 a1 := by kernel_rfl
theorem k31 (N : Nat) : CalleeOK Go.Proofs.Try.prog 31 (c31 N) :=
  fn_ok (fn := Go.Proofs.Try.f31) (body := b31) (c := x31 N) Go.Proofs.Try.func31 (by kernel_rfl) (by kernel_rfl) ⟨ttL_ok, mtL_ok, eqL_ok, env_cons (forall_mem1 (k39 N)) (env_cons (forall_mem1 (k43 N)) (env_nil))⟩ mixed (by kernel_rfl) (Nat.le_of_ble_eq_true (by kernel_rfl)) (by kernel_rfl) (by decide)
    (loops_ok (by kernel_rfl : loopsOf b31 = [loopAt 5 (loopsOf b31), loopAt 8 (loopsOf b31), loopAt 11 (loopsOf b31)]) (.cons (l31_5 N) (.cons (l31_8 N) (.cons (l31_11 N) .nil)))) fun d => e31 N d.1 d.2.1
/-! ### 18: keyhole/bucket.Prove -/
def f18_L10 {R : Type} (N : Nat) (t10 : Int) (t35 : List (List Int)) (t3 : Int) (t1 : Int) (t2 : List (List Int)) (t0 : List (Int × (Int × Unit))) (t36 : Int) (kb : Int → Option R) (kret : Int → Option R) (kx0 : Unit → Option R) : Int → Option R :=
  fun t37 =>
    cond (decide (t37 < t36))
      ((idx t35 t37).bind fun x =>
      cond (!(decide ((len x) = (wi64 (t10 + 1)))))
        (kret 2)
        (kb (wi64 (t37 + 1))))
      (kx0 ())
def f18_L19 {R : Type} (N : Nat) (t53 : List Int) (t47_1 : List (List Int)) (t3_2 : Int) (t10_2 : Int) (t1_2 : Int) (t2_2 : List (List Int)) (t0_2 : List (Int × (Int × Unit))) (t48_1 : Int) (t49_1 : Int) (t54 : Int) (kb : Int → Option R) (kret : Int → Option R) (kx4 : Unit → Option R) : Int → Option R :=
  fun t55 =>
    cond (decide (t55 < t54))
      ((idx t53 t55).bind fun x_2 =>
      (cond (decide (x_2 < 0))
          (some true)
          (some (decide (1152921504606846976 < x_2)))).bind fun b_1 =>
      cond b_1
        (kret 3)
        (kb (wi64 (t55 + 1))))
      (kx4 ())
def f18_L16 {R : Type} (N : Nat) (t47 : List (List Int)) (t3_1 : Int) (t10_1 : Int) (t1_1 : Int) (t2_1 : List (List Int)) (t0_1 : List (Int × (Int × Unit))) (t48 : Int) (kb : Int → Option R) (kret : Int → Option R) (kx2 : Unit → Option R) : Int → Option R :=
  fun t49 =>
    cond (decide (t49 < t48))
      ((idx t47 t49).bind fun x_1 =>
      iter (fun w => f18_L19 N x_1 t47 t3_1 t10_1 t1_1 t2_1 t0_1 t48 t49 (len x_1) w
        (fun t8_1 =>
          kret t8_1)
        (fun (_ : Unit) =>
          kb (wi64 (t49 + 1)))) N 0)
      (kx2 ())
def f18 (N : Nat) (a0 : List (Int × (Int × Unit))) (a1 : Int) (a2 : List (List Int)) (a3 : Int) : Option (Int) :=
  (f12 N a0).bind fun r =>
  cond (!(decide (r = 0)))
    (some r)
    ((cond (decide (a1 < 1))
        (some true)
        (some (decide (32 < a1)))).bind fun b =>
    cond b
      (some 3)
      (cond (!(decide ((len a2) = (wi64 (a1 + 1)))))
        (some 2)
        (iter (fun w => f18_L10 N (len a0) a2 a3 a1 a2 a0 (len a2) w
          (fun t8 =>
            some t8)
          (fun (_ : Unit) =>
            iter (fun w => f18_L16 N a2 a3 (len a0) a1 a2 a0 (len a2) w
              (fun t8_2 =>
                some t8_2)
              (fun (_ : Unit) =>
                (f31 N a0 a2).bind fun r_1 =>
                (cond (!r_1)
                    (some true)
                    ((idx a2 a1).bind fun x_3 =>
                    (idx x_3 (len a0)).bind fun x_4 =>
                    some (decide (x_4 < a3)))).bind fun b_2 =>
                cond b_2
                  (some 13)
                  (some 0))) N 0)) N 0)))
def c18 (N : Nat) : Callee := .pure (.pr (.val (.sl false (.pair (.int .i64) (.pair (.int .i64) .unit)))) (.pr (.val (.int .i64)) (.pr (.val (.sl false (.sl false (.int .i64)))) (.pr (.val (.int .i64)) .un)))) [(.int .i64)] fun d => f18 N d.1 d.2.1 d.2.2.1 d.2.2.2.1
def F18_10 : SForm := ⟨[(37, (.val (.int .i64))), (10, (.val (.int .i64))), (35, (.val (.sl false (.sl false (.int .i64))))), (3, (.val (.int .i64))), (1, (.val (.int .i64))), (2, (.val (.sl false (.sl false (.int .i64))))), (0, (.val (.sl false (.pair (.int .i64) (.pair (.int .i64) .unit))))), (36, (.val (.int .i64)))], []⟩
def G18_10 (N : Nat) : (R : Type) → F18_10.den → (AExit → St → Option R) → Option R := fun R d k => iter (fun kb => f18_L10 N d.1.2.1 d.1.2.2.1 d.1.2.2.2.1 d.1.2.2.2.2.1 d.1.2.2.2.2.2.1 d.1.2.2.2.2.2.2.1 d.1.2.2.2.2.2.2.2.1 kb
    (fun y0 => k .ret (St.of [(8, (.data (.int .i64) y0))] []))
    (fun _ => k (.exit 0) (St.of [(3, (.data (.int .i64) d.1.2.2.2.1)), (10, (.data (.int .i64) d.1.2.1)), (1, (.data (.int .i64) d.1.2.2.2.2.1)), (2, (.data (.sl false (.sl false (.int .i64))) d.1.2.2.2.2.2.1)), (0, (.data (.sl false (.pair (.int .i64) (.pair (.int .i64) .unit))) d.1.2.2.2.2.2.2.1))] []))) N d.1.1
def F18_19 : SForm := ⟨[(55, (.val (.int .i64))), (53, (.val (.sl false (.int .i64)))), (47, (.val (.sl false (.sl false (.int .i64))))), (3, (.val (.int .i64))), (10, (.val (.int .i64))), (1, (.val (.int .i64))), (2, (.val (.sl false (.sl false (.int .i64))))), (0, (.val (.sl false (.pair (.int .i64) (.pair (.int .i64) .unit))))), (48, (.val (.int .i64))), (49, (.val (.int .i64))), (54, (.val (.int .i64)))], []⟩
def G18_19 (N : Nat) : (R : Type) → F18_19.den → (AExit → St → Option R) → Option R := fun R d k => iter (fun kb => f18_L19 N d.1.2.1 d.1.2.2.1 d.1.2.2.2.1 d.1.2.2.2.2.1 d.1.2.2.2.2.2.1 d.1.2.2.2.2.2.2.1 d.1.2.2.2.2.2.2.2.1 d.1.2.2.2.2.2.2.2.2.1 d.1.2.2.2.2.2.2.2.2.2.1 d.1.2.2.2.2.2.2.2.2.2.2.1 kb
    (fun y0 => k .ret (St.of [(8, (.data (.int .i64) y0))] []))
    (fun _ => k (.exit 4) (St.of [(47, (.data (.sl false (.sl false (.int .i64))) d.1.2.2.1)), (3, (.data (.int .i64) d.1.2.2.2.1)), (10, (.data (.int .i64) d.1.2.2.2.2.1)), (1, (.data (.int .i64) d.1.2.2.2.2.2.1)), (2, (.data (.sl false (.sl false (.int .i64))) d.1.2.2.2.2.2.2.1)), (0, (.data (.sl false (.pair (.int .i64) (.pair (.int .i64) .unit))) d.1.2.2.2.2.2.2.2.1)), (48, (.data (.int .i64) d.1.2.2.2.2.2.2.2.2.1)), (49, (.data (.int .i64) d.1.2.2.2.2.2.2.2.2.2.1))] []))) N d.1.1
def F18_16 : SForm := ⟨[(49, (.val (.int .i64))), (47, (.val (.sl false (.sl false (.int .i64))))), (3, (.val (.int .i64))), (10, (.val (.int .i64))), (1, (.val (.int .i64))), (2, (.val (.sl false (.sl false (.int .i64))))), (0, (.val (.sl false (.pair (.int .i64) (.pair (.int .i64) .unit))))), (48, (.val (.int .i64)))], []⟩
def G18_16 (N : Nat) : (R : Type) → F18_16.den → (AExit → St → Option R) → Option R := fun R d k => iter (fun kb => f18_L16 N d.1.2.1 d.1.2.2.1 d.1.2.2.2.1 d.1.2.2.2.2.1 d.1.2.2.2.2.2.1 d.1.2.2.2.2.2.2.1 d.1.2.2.2.2.2.2.2.1 kb
    (fun y0 => k .ret (St.of [(8, (.data (.int .i64) y0))] []))
    (fun _ => k (.exit 2) (St.of [(3, (.data (.int .i64) d.1.2.2.1)), (10, (.data (.int .i64) d.1.2.2.2.1)), (1, (.data (.int .i64) d.1.2.2.2.2.1)), (2, (.data (.sl false (.sl false (.int .i64))) d.1.2.2.2.2.2.1)), (0, (.data (.sl false (.pair (.int .i64) (.pair (.int .i64) .unit))) d.1.2.2.2.2.2.2.1))] []))) N d.1.1
def lp18 (N : Nat) : Nat → Option LoopFn := fun r => cond (Nat.beq r 10) (some fun R sl os k => F18_10.take sl os fun d => G18_10 N R d k) (cond (Nat.beq r 19) (some fun R sl os k => F18_19.take sl os fun d => G18_19 N R d k) (cond (Nat.beq r 16) (some fun R sl os k => F18_16.take sl os fun d => G18_16 N R d k) (none)))
def x18 (N : Nat) : Ctx := { fuel := N, tt := getL ttL, mt := getL mtL, ntmps := 82, env := fun f => (getL [(12, [c12 N]), (31, [c31 N])] f).getD [], cut := getL [(10, ⟨[37, 10, 35, 3, 1, 2, 0, 36], []⟩), (16, ⟨[49, 47, 3, 10, 1, 2, 0, 48], []⟩), (19, ⟨[55, 53, 47, 3, 10, 1, 2, 0, 48, 49, 54], []⟩)], exits := fun r => getL ((getL [(10, [(0, ⟨[3, 10, 1, 2, 0], []⟩)]), (16, [(2, ⟨[3, 10, 1, 2, 0], []⟩)]), (19, [(4, ⟨[47, 3, 10, 1, 2, 0, 48, 49], []⟩)])] r).getD []), res := ⟨[8], []⟩, own := fun _ => none, lp := lp18 N, eqs := fun T => memN T eqL }
noncomputable def b18 : Code := ((Go.Proofs.Try.f18).body).getD .skip
theorem s18_10 (N : Nat) {R : Type} (k : AExit → St → Option R) (t10 : Int) (t35 : List (List Int)) (t3 : Int) (t1 : Int) (t2 : List (List Int)) (t0 : List (Int × (Int × Unit))) (t36 : Int) (kb : List (Nat × AVal) → List Obj → Option R) (x : Int) : codeK (x18 N) (loopAt 10 (loopsOf b18)) (St.of [(37, (.data (.int .i64) x)), (10, (.data (.int .i64) t10)), (35, (.data (.sl false (.sl false (.int .i64))) t35)), (3, (.data (.int .i64) t3)), (1, (.data (.int .i64) t1)), (2, (.data (.sl false (.sl false (.int .i64))) t2)), (0, (.data (.sl false (.pair (.int .i64) (.pair (.int .i64) .unit))) t0)), (36, (.data (.int .i64) t36))] []) (kLoop (x18 N) 10 ⟨[37, 10, 35, 3, 1, 2, 0, 36], []⟩ kb k) = f18_L10 N t10 t35 t3 t1 t2 t0 t36 (fun y => kb [(37, (.data (.int .i64) y)), (10, (.data (.int .i64) t10)), (35, (.data (.sl false (.sl false (.int .i64))) t35)), (3, (.data (.int .i64) t3)), (1, (.data (.int .i64) t1)), (2, (.data (.sl false (.sl false (.int .i64))) t2)), (0, (.data (.sl false (.pair (.int .i64) (.pair (.int .i64) .unit))) t0)), (36, (.data (.int .i64) t36))] [])
    (fun y0 => k .ret (St.of [(8, (.data (.int .i64) y0))] []))
    (fun _ => k (.exit 0) (St.of [(3, (.data (.int .i64) t3)), (10, (.data (.int .i64) t10)), (1, (.data (.int .i64) t1)), (2, (.data (.sl false (.sl false (.int .i64))) t2)), (0, (.data (.sl false (.pair (.int .i64) (.pair (.int .i64) .unit))) t0))] [])) x := by kernel_rfl
theorem l18_10 (N : Nat) : LoopOK (x18 N) (loopAt 10 (loopsOf b18)) :=
  loop_mk (G18_10 N) (by kernel_rfl) (by kernel_rfl) (by kernel_rfl) fun R k d =>
    loop_eq (st := fun (x : Int) => ([(37, (.data (.int .i64) x)), (10, (.data (.int .i64) d.1.2.1)), (35, (.data (.sl false (.sl false (.int .i64))) d.1.2.2.1)), (3, (.data (.int .i64) d.1.2.2.2.1)), (1, (.data (.int .i64) d.1.2.2.2.2.1)), (2, (.data (.sl false (.sl false (.int .i64))) d.1.2.2.2.2.2.1)), (0, (.data (.sl false (.pair (.int .i64) (.pair (.int .i64) .unit))) d.1.2.2.2.2.2.2.1)), (36, (.data (.int .i64) d.1.2.2.2.2.2.2.2.1))], [])) (s18_10 N k d.1.2.1 d.1.2.2.1 d.1.2.2.2.1 d.1.2.2.2.2.1 d.1.2.2.2.2.2.1 d.1.2.2.2.2.2.2.1 d.1.2.2.2.2.2.2.2.1) N d.1.1
theorem s18_19 (N : Nat) {R : Type} (k : AExit → St → Option R) (t53 : List Int) (t47_1 : List (List Int)) (t3_2 : Int) (t10_2 : Int) (t1_2 : Int) (t2_2 : List (List Int)) (t0_2 : List (Int × (Int × Unit))) (t48_1 : Int) (t49_1 : Int) (t54 : Int) (kb : List (Nat × AVal) → List Obj → Option R) (x : Int) : codeK (x18 N) (loopAt 19 (loopsOf b18)) (St.of [(55, (.data (.int .i64) x)), (53, (.data (.sl false (.int .i64)) t53)), (47, (.data (.sl false (.sl false (.int .i64))) t47_1)), (3, (.data (.int .i64) t3_2)), (10, (.data (.int .i64) t10_2)), (1, (.data (.int .i64) t1_2)), (2, (.data (.sl false (.sl false (.int .i64))) t2_2)), (0, (.data (.sl false (.pair (.int .i64) (.pair (.int .i64) .unit))) t0_2)), (48, (.data (.int .i64) t48_1)), (49, (.data (.int .i64) t49_1)), (54, (.data (.int .i64) t54))] []) (kLoop (x18 N) 19 ⟨[55, 53, 47, 3, 10, 1, 2, 0, 48, 49, 54], []⟩ kb k) = f18_L19 N t53 t47_1 t3_2 t10_2 t1_2 t2_2 t0_2 t48_1 t49_1 t54 (fun y => kb [(55, (.data (.int .i64) y)), (53, (.data (.sl false (.int .i64)) t53)), (47, (.data (.sl false (.sl false (.int .i64))) t47_1)), (3, (.data (.int .i64) t3_2)), (10, (.data (.int .i64) t10_2)), (1, (.data (.int .i64) t1_2)), (2, (.data (.sl false (.sl false (.int .i64))) t2_2)), (0, (.data (.sl false (.pair (.int .i64) (.pair (.int .i64) .unit))) t0_2)), (48, (.data (.int .i64) t48_1)), (49, (.data (.int .i64) t49_1)), (54, (.data (.int .i64) t54))] [])
    (fun y0 => k .ret (St.of [(8, (.data (.int .i64) y0))] []))
    (fun _ => k (.exit 4) (St.of [(47, (.data (.sl false (.sl false (.int .i64))) t47_1)), (3, (.data (.int .i64) t3_2)), (10, (.data (.int .i64) t10_2)), (1, (.data (.int .i64) t1_2)), (2, (.data (.sl false (.sl false (.int .i64))) t2_2)), (0, (.data (.sl false (.pair (.int .i64) (.pair (.int .i64) .unit))) t0_2)), (48, (.data (.int .i64) t48_1)), (49, (.data (.int .i64) t49_1))] [])) x := by kernel_rfl
theorem l18_19 (N : Nat) : LoopOK (x18 N) (loopAt 19 (loopsOf b18)) :=
  loop_mk (G18_19 N) (by kernel_rfl) (by kernel_rfl) (by kernel_rfl) fun R k d =>
    loop_eq (st := fun (x : Int) => ([(55, (.data (.int .i64) x)), (53, (.data (.sl false (.int .i64)) d.1.2.1)), (47, (.data (.sl false (.sl false (.int .i64))) d.1.2.2.1)), (3, (.data (.int .i64) d.1.2.2.2.1)), (10, (.data (.int .i64) d.1.2.2.2.2.1)), (1, (.data (.int .i64) d.1.2.2.2.2.2.1)), (2, (.data (.sl false (.sl false (.int .i64))) d.1.2.2.2.2.2.2.1)), (0, (.data (.sl false (.pair (.int .i64) (.pair (.int .i64) .unit))) d.1.2.2.2.2.2.2.2.1)), (48, (.data (.int .i64) d.1.2.2.2.2.2.2.2.2.1)), (49, (.data (.int .i64) d.1.2.2.2.2.2.2.2.2.2.1)), (54, (.data (.int .i64) d.1.2.2.2.2.2.2.2.2.2.2.1))], [])) (s18_19 N k d.1.2.1 d.1.2.2.1 d.1.2.2.2.1 d.1.2.2.2.2.1 d.1.2.2.2.2.2.1 d.1.2.2.2.2.2.2.1 d.1.2.2.2.2.2.2.2.1 d.1.2.2.2.2.2.2.2.2.1 d.1.2.2.2.2.2.2.2.2.2.1 d.1.2.2.2.2.2.2.2.2.2.2.1) N d.1.1
theorem s18_16 (N : Nat) {R : Type} (k : AExit → St → Option R) (t47 : List (List Int)) (t3_1 : Int) (t10_1 : Int) (t1_1 : Int) (t2_1 : List (List Int)) (t0_1 : List (Int × (Int × Unit))) (t48 : Int) (kb : List (Nat × AVal) → List Obj → Option R) (x : Int) : codeK (x18 N) (loopAt 16 (loopsOf b18)) (St.of [(49, (.data (.int .i64) x)), (47, (.data (.sl false (.sl false (.int .i64))) t47)), (3, (.data (.int .i64) t3_1)), (10, (.data (.int .i64) t10_1)), (1, (.data (.int .i64) t1_1)), (2, (.data (.sl false (.sl false (.int .i64))) t2_1)), (0, (.data (.sl false (.pair (.int .i64) (.pair (.int .i64) .unit))) t0_1)), (48, (.data (.int .i64) t48))] []) (kLoop (x18 N) 16 ⟨[49, 47, 3, 10, 1, 2, 0, 48], []⟩ kb k) = f18_L16 N t47 t3_1 t10_1 t1_1 t2_1 t0_1 t48 (fun y => kb [(49, (.data (.int .i64) y)), (47, (.data (.sl false (.sl false (.int .i64))) t47)), (3, (.data (.int .i64) t3_1)), (10, (.data (.int .i64) t10_1)), (1, (.data (.int .i64) t1_1)), (2, (.data (.sl false (.sl false (.int .i64))) t2_1)), (0, (.data (.sl false (.pair (.int .i64) (.pair (.int .i64) .unit))) t0_1)), (48, (.data (.int .i64) t48))] [])
    (fun y0 => k .ret (St.of [(8, (.data (.int .i64) y0))] []))
    (fun _ => k (.exit 2) (St.of [(3, (.data (.int .i64) t3_1)), (10, (.data (.int .i64) t10_1)), (1, (.data (.int .i64) t1_1)), (2, (.data (.sl false (.sl false (.int .i64))) t2_1)), (0, (.data (.sl false (.pair (.int .i64) (.pair (.int .i64) .unit))) t0_1))] [])) x := by kernel_rfl
theorem l18_16 (N : Nat) : LoopOK (x18 N) (loopAt 16 (loopsOf b18)) :=
  loop_mk (G18_16 N) (by kernel_rfl) (by kernel_rfl) (by kernel_rfl) fun R k d =>
    loop_eq (st := fun (x : Int) => ([(49, (.data (.int .i64) x)), (47, (.data (.sl false (.sl false (.int .i64))) d.1.2.1)), (3, (.data (.int .i64) d.1.2.2.1)), (10, (.data (.int .i64) d.1.2.2.2.1)), (1, (.data (.int .i64) d.1.2.2.2.2.1)), (2, (.data (.sl false (.sl false (.int .i64))) d.1.2.2.2.2.2.1)), (0, (.data (.sl false (.pair (.int .i64) (.pair (.int .i64) .unit))) d.1.2.2.2.2.2.2.1)), (48, (.data (.int .i64) d.1.2.2.2.2.2.2.2.1))], [])) (s18_16 N k d.1.2.1 d.1.2.2.1 d.1.2.2.2.1 d.1.2.2.2.2.1 d.1.2.2.2.2.2.1 d.1.2.2.2.2.2.2.1 d.1.2.2.2.2.2.2.2.1) N d.1.1
theorem e18 (N : Nat) (a0 : List (Int × (Int × Unit))) (a1 : Int) (a2 : List (List Int)) (a3 : Int) : bodyK (x18 N) [(.int .i64)] [.tmp 8] b18 (entry (.pr (.val (.sl false (.pair (.int .i64) (.pair (.int .i64) .unit)))) (.pr (.val (.int .i64)) (.pr (.val (.sl false (.sl false (.int .i64)))) (.pr (.val (.int .i64)) .un)))) (a0, (a1, (a2, (a3, ()))))) = f18 N a0 a1 a2 a3 := by kernel_rfl
theorem k18 (N : Nat) : CalleeOK Go.Proofs.Try.prog 18 (c18 N) :=
  fn_ok (fn := Go.Proofs.Try.f18) (body := b18) (c := x18 N) Go.Proofs.Try.func18 (by kernel_rfl) (by kernel_rfl) ⟨ttL_ok, mtL_ok, eqL_ok, env_cons (forall_mem1 (k12 N)) (env_cons (forall_mem1 (k31 N)) (env_nil))⟩ mixed (by kernel_rfl) (Nat.le_of_ble_eq_true (by kernel_rfl)) (by kernel_rfl) (by decide)
    (loops_ok (by kernel_rfl : loopsOf b18 = [loopAt 10 (loopsOf b18), loopAt 16 (loopsOf b18), loopAt 19 (loopsOf b18)]) (.cons (l18_10 N) (.cons (l18_16 N) (.cons (l18_19 N) .nil)))) fun d => e18 N d.1 d.2.1 d.2.2.1 d.2.2.2.1
/-! ### 9: keyhole/keyholelaw44.known -/
def f9 (N : Nat) : Option (Bool) :=
  (f26 N ((1, (1, ())) :: ((2, (3, ())) :: ((10, (1, ())) :: ([] : List (Int × (Int × Unit)))))) 2).bind fun r =>
  (f10 N ((1, (1, ())) :: ((2, (3, ())) :: ((10, (1, ())) :: ([] : List (Int × (Int × Unit)))))) (3 :: (10 :: ([] : List Int)))).bind fun r_1 =>
  (f23 N ((1, (1, ())) :: ((2, (3, ())) :: ((10, (1, ())) :: ([] : List (Int × (Int × Unit))))))).bind fun r_2 =>
  (f12 N ((1, (1, ())) :: ((2, (3, ())) :: ((10, (1, ())) :: ([] : List (Int × (Int × Unit))))))).bind fun r_3 =>
  (cond (decide (r_3 = 0))
      ((f12 N ([] : List (Int × (Int × Unit)))).bind fun r_4 =>
      some (decide (r_4 = 1)))
      (some false)).bind fun b =>
  (cond b
      (some (decide (r.2.2.2 = 0)))
      (some false)).bind fun b_1 =>
  (cond b_1
      ((f24 N r.1 (2 :: (10 :: ([] : List Int)))).bind fun r_5 =>
      some r_5)
      (some false)).bind fun b_2 =>
  (cond b_2
      (some (decide (r.2.1 = 1)))
      (some false)).bind fun b_3 =>
  (cond b_3
      (some (decide (r_1.2 = 0)))
      (some false)).bind fun b_4 =>
  (cond b_4
      (some (decide (r_1.1 = 5)))
      (some false)).bind fun b_5 =>
  (cond b_5
      (some (decide (r_2.2 = 0)))
      (some false)).bind fun b_6 =>
  (cond b_6
      ((f24 N r_2.1 (33 :: (1 :: (0 :: ([] : List Int))))).bind fun r_6 =>
      some r_6)
      (some false)).bind fun b_7 =>
  (cond b_7
      ((f14 N (5 :: (10 :: ([] : List Int))) 6).bind fun r_7 =>
      some (decide (r_7 = 10)))
      (some false)).bind fun b_8 =>
  (cond b_8
      ((f18 N ((1, (1, ())) :: ((2, (3, ())) :: ((10, (1, ())) :: ([] : List (Int × (Int × Unit)))))) 1 ((0 :: (0 :: (0 :: (0 :: ([] : List Int))))) :: ((0 :: (0 :: (1 :: (33 :: ([] : List Int))))) :: ([] : List (List Int)))) 33).bind fun r_8 =>
      some (decide (r_8 = 0)))
      (some false)).bind fun b_9 =>
  (cond b_9
      ((f18 N ((1, (1, ())) :: ((2, (3, ())) :: ((10, (1, ())) :: ([] : List (Int × (Int × Unit)))))) 1 ((0 :: (0 :: (0 :: (0 :: ([] : List Int))))) :: ((0 :: (0 :: (1 :: (34 :: ([] : List Int))))) :: ([] : List (List Int)))) 33).bind fun r_9 =>
      some (decide (r_9 = 13)))
      (some false)).bind fun b_10 =>
  some b_10
def c9 (N : Nat) : Callee := .pure .un [.bool] fun d => f9 N 
def lp9 (N : Nat) : Nat → Option LoopFn := fun r => none
def x9 (N : Nat) : Ctx := { fuel := N, tt := getL ttL, mt := getL mtL, ntmps := 90, env := fun f => (getL [(26, [c26 N]), (10, [c10 N]), (23, [c23 N]), (12, [c12 N]), (24, [c24 N]), (14, [c14 N]), (18, [c18 N])] f).getD [], cut := getL [], exits := fun r => getL ((getL [] r).getD []), res := ⟨[0], []⟩, own := getL [(13, (.sl false (.pair (.int .i64) (.pair (.int .i64) .unit)))), (23, (.sl false (.int .i64))), (45, (.sl false (.int .i64))), (66, (.sl false (.int .i64))), (70, (.sl false (.int .i64))), (76, (.sl false (.int .i64))), (77, (.sl false (.int .i64))), (78, (.sl false (.sl false (.int .i64)))), (84, (.sl false (.int .i64))), (85, (.sl false (.int .i64))), (86, (.sl false (.sl false (.int .i64))))], lp := lp9 N, eqs := fun T => memN T eqL }
noncomputable def b9 : Code := ((Go.Proofs.Try.f9).body).getD .skip
theorem e9 (N : Nat) : bodyK (x9 N) [.bool] [.tmp 0] b9 (entry .un ()) = f9 N := by kernel_rfl
theorem k9 (N : Nat) : CalleeOK Go.Proofs.Try.prog 9 (c9 N) :=
  fn_ok (fn := Go.Proofs.Try.f9) (body := b9) (c := x9 N) Go.Proofs.Try.func9 (by kernel_rfl) (by kernel_rfl) ⟨ttL_ok, mtL_ok, eqL_ok, env_cons (forall_mem1 (k26 N)) (env_cons (forall_mem1 (k10 N)) (env_cons (forall_mem1 (k23 N)) (env_cons (forall_mem1 (k12 N)) (env_cons (forall_mem1 (k24 N)) (env_cons (forall_mem1 (k14 N)) (env_cons (forall_mem1 (k18 N)) (env_nil)))))))⟩ mixed (by kernel_rfl) (Nat.le_of_ble_eq_true (by kernel_rfl)) (by kernel_rfl) (by decide)
    (loops_ok (by kernel_rfl : loopsOf b9 = []) .nil) fun d => e9 N 
/-! ### 13: keyhole/keyholelaw44.valid -/
def f13_L6 {R : Type} (N : Nat) (t0 : List (Int × (Int × Unit))) (t11 : List (Int × (Int × Unit))) (t12 : Int) (kb : Int → Option R) (kret : Int → Option R) (kx0 : Unit → Option R) : Int → Option R :=
  fun t13 =>
    cond (decide (t13 < t12))
      ((idx t11 t13).bind fun x =>
      (cond (decide (x.1 < 0))
          (some true)
          (some (decide (67108864 < x.1)))).bind fun b =>
      (cond b
          (some true)
          (some (decide (x.2.1 < 1)))).bind fun b_1 =>
      (cond b_1
          (some true)
          (some (decide (65536 < x.2.1)))).bind fun b_2 =>
      cond b_2
        (kret 3)
        ((cond (decide (0 < t13))
            ((idx t0 (wi64 (t13 - 1))).bind fun x_1 =>
            some (decide (x.1 ≤ x_1.1)))
            (some false)).bind fun b_3 =>
        cond b_3
          (kret 10)
          (kb (wi64 (t13 + 1)))))
      (kx0 ())
def f13 (N : Nat) (a0 : List (Int × (Int × Unit))) : Option (Int) :=
  cond (decide ((len a0) = 0))
    (some 1)
    (cond (decide (64 < (len a0)))
      (some 4)
      (iter (fun w => f13_L6 N a0 a0 (len a0) w
        (fun t2 =>
          some t2)
        (fun (_ : Unit) =>
          some 0)) N 0))
def c13 (N : Nat) : Callee := .pure (.pr (.val (.sl false (.pair (.int .i64) (.pair (.int .i64) .unit)))) .un) [(.int .i64)] fun d => f13 N d.1
def F13_6 : SForm := ⟨[(13, (.val (.int .i64))), (0, (.val (.sl false (.pair (.int .i64) (.pair (.int .i64) .unit))))), (11, (.val (.sl false (.pair (.int .i64) (.pair (.int .i64) .unit))))), (12, (.val (.int .i64)))], []⟩
def G13_6 (N : Nat) : (R : Type) → F13_6.den → (AExit → St → Option R) → Option R := fun R d k => iter (fun kb => f13_L6 N d.1.2.1 d.1.2.2.1 d.1.2.2.2.1 kb
    (fun y0 => k .ret (St.of [(2, (.data (.int .i64) y0))] []))
    (fun _ => k (.exit 0) (St.of [] []))) N d.1.1
def lp13 (N : Nat) : Nat → Option LoopFn := fun r => cond (Nat.beq r 6) (some fun R sl os k => F13_6.take sl os fun d => G13_6 N R d k) (none)
def x13 (N : Nat) : Ctx := { fuel := N, tt := getL ttL, mt := getL mtL, ntmps := 50, env := fun f => (getL [] f).getD [], cut := getL [(6, ⟨[13, 0, 11, 12], []⟩)], exits := fun r => getL ((getL [(6, [(0, ⟨[], []⟩)])] r).getD []), res := ⟨[2], []⟩, own := fun _ => none, lp := lp13 N, eqs := fun T => memN T eqL }
noncomputable def b13 : Code := ((Go.Proofs.Try.f13).body).getD .skip
theorem s13_6 (N : Nat) {R : Type} (k : AExit → St → Option R) (t0 : List (Int × (Int × Unit))) (t11 : List (Int × (Int × Unit))) (t12 : Int) (kb : List (Nat × AVal) → List Obj → Option R) (x : Int) : codeK (x13 N) (loopAt 6 (loopsOf b13)) (St.of [(13, (.data (.int .i64) x)), (0, (.data (.sl false (.pair (.int .i64) (.pair (.int .i64) .unit))) t0)), (11, (.data (.sl false (.pair (.int .i64) (.pair (.int .i64) .unit))) t11)), (12, (.data (.int .i64) t12))] []) (kLoop (x13 N) 6 ⟨[13, 0, 11, 12], []⟩ kb k) = f13_L6 N t0 t11 t12 (fun y => kb [(13, (.data (.int .i64) y)), (0, (.data (.sl false (.pair (.int .i64) (.pair (.int .i64) .unit))) t0)), (11, (.data (.sl false (.pair (.int .i64) (.pair (.int .i64) .unit))) t11)), (12, (.data (.int .i64) t12))] [])
    (fun y0 => k .ret (St.of [(2, (.data (.int .i64) y0))] []))
    (fun _ => k (.exit 0) (St.of [] [])) x := by kernel_rfl
theorem l13_6 (N : Nat) : LoopOK (x13 N) (loopAt 6 (loopsOf b13)) :=
  loop_mk (G13_6 N) (by kernel_rfl) (by kernel_rfl) (by kernel_rfl) fun R k d =>
    loop_eq (st := fun (x : Int) => ([(13, (.data (.int .i64) x)), (0, (.data (.sl false (.pair (.int .i64) (.pair (.int .i64) .unit))) d.1.2.1)), (11, (.data (.sl false (.pair (.int .i64) (.pair (.int .i64) .unit))) d.1.2.2.1)), (12, (.data (.int .i64) d.1.2.2.2.1))], [])) (s13_6 N k d.1.2.1 d.1.2.2.1 d.1.2.2.2.1) N d.1.1
theorem e13 (N : Nat) (a0 : List (Int × (Int × Unit))) : bodyK (x13 N) [(.int .i64)] [.tmp 2] b13 (entry (.pr (.val (.sl false (.pair (.int .i64) (.pair (.int .i64) .unit)))) .un) (a0, ())) = f13 N a0 := by kernel_rfl
theorem k13 (N : Nat) : CalleeOK Go.Proofs.Try.prog 13 (c13 N) :=
  fn_ok (fn := Go.Proofs.Try.f13) (body := b13) (c := x13 N) Go.Proofs.Try.func13 (by kernel_rfl) (by kernel_rfl) ⟨ttL_ok, mtL_ok, eqL_ok, env_nil⟩ mixed (by kernel_rfl) (Nat.le_of_ble_eq_true (by kernel_rfl)) (by kernel_rfl) (by decide)
    (loops_ok (by kernel_rfl : loopsOf b13 = [loopAt 6 (loopsOf b13)]) (.cons (l13_6 N) .nil)) fun d => e13 N d.1
/-! ### 15: keyhole/keyholelaw44.settle -/
def f15_L3 {R : Type} (N : Nat) (t1 : Int) (t10 : List Int) (t11 : Int) (kb : Int × Int × Bool → Option R) (kx0 : Int → Option R) : Int × Int × Bool → Option R :=
  fun (t12, t5, t6) =>
    cond (decide (t12 < t11))
      ((idx t10 t12).bind fun x =>
      (cond (decide (t1 ≤ x))
          ((cond (!t6)
              (some true)
              (some (decide (x < t5)))).bind fun b =>
          some b)
          (some false)).bind fun b_1 =>
      cond b_1
        (kb ((wi64 (t12 + 1)), x, true))
        (kb ((wi64 (t12 + 1)), t5, t6)))
      (kx0 t5)
def f15 (N : Nat) (a0 : List Int) (a1 : Int) : Option (Int) :=
  iter (fun w => f15_L3 N a1 a0 (len a0) w
    (fun t5_1 =>
      some t5_1)) N (0, a1, false)
def c15 (N : Nat) : Callee := .pure (.pr (.val (.sl false (.int .i64))) (.pr (.val (.int .i64)) .un)) [(.int .i64)] fun d => f15 N d.1 d.2.1
def F15_3 : SForm := ⟨[(12, (.val (.int .i64))), (5, (.val (.int .i64))), (6, (.val .bool)), (1, (.val (.int .i64))), (10, (.val (.sl false (.int .i64)))), (11, (.val (.int .i64)))], []⟩
def G15_3 (N : Nat) : (R : Type) → F15_3.den → (AExit → St → Option R) → Option R := fun R d k => iter (fun kb => f15_L3 N d.1.2.2.2.1 d.1.2.2.2.2.1 d.1.2.2.2.2.2.1 kb
    (fun y0 => k (.exit 0) (St.of [(5, (.data (.int .i64) y0))] []))) N (d.1.1, d.1.2.1, d.1.2.2.1)
def lp15 (N : Nat) : Nat → Option LoopFn := fun r => cond (Nat.beq r 3) (some fun R sl os k => F15_3.take sl os fun d => G15_3 N R d k) (none)
def x15 (N : Nat) : Ctx := { fuel := N, tt := getL ttL, mt := getL mtL, ntmps := 31, env := fun f => (getL [] f).getD [], cut := getL [(3, ⟨[12, 5, 6, 1, 10, 11], []⟩)], exits := fun r => getL ((getL [(3, [(0, ⟨[5], []⟩)])] r).getD []), res := ⟨[4], []⟩, own := fun _ => none, lp := lp15 N, eqs := fun T => memN T eqL }
noncomputable def b15 : Code := ((Go.Proofs.Try.f15).body).getD .skip
theorem s15_3 (N : Nat) {R : Type} (k : AExit → St → Option R) (t1 : Int) (t10 : List Int) (t11 : Int) (kb : List (Nat × AVal) → List Obj → Option R) (x : Int × Int × Bool) : codeK (x15 N) (loopAt 3 (loopsOf b15)) (St.of [(12, (.data (.int .i64) x.1)), (5, (.data (.int .i64) x.2.1)), (6, (.data .bool x.2.2)), (1, (.data (.int .i64) t1)), (10, (.data (.sl false (.int .i64)) t10)), (11, (.data (.int .i64) t11))] []) (kLoop (x15 N) 3 ⟨[12, 5, 6, 1, 10, 11], []⟩ kb k) = f15_L3 N t1 t10 t11 (fun y => kb [(12, (.data (.int .i64) y.1)), (5, (.data (.int .i64) y.2.1)), (6, (.data .bool y.2.2)), (1, (.data (.int .i64) t1)), (10, (.data (.sl false (.int .i64)) t10)), (11, (.data (.int .i64) t11))] [])
    (fun y0 => k (.exit 0) (St.of [(5, (.data (.int .i64) y0))] [])) x := by kernel_rfl
theorem l15_3 (N : Nat) : LoopOK (x15 N) (loopAt 3 (loopsOf b15)) :=
  loop_mk (G15_3 N) (by kernel_rfl) (by kernel_rfl) (by kernel_rfl) fun R k d =>
    loop_eq (st := fun (x : Int × Int × Bool) => ([(12, (.data (.int .i64) x.1)), (5, (.data (.int .i64) x.2.1)), (6, (.data .bool x.2.2)), (1, (.data (.int .i64) d.1.2.2.2.1)), (10, (.data (.sl false (.int .i64)) d.1.2.2.2.2.1)), (11, (.data (.int .i64) d.1.2.2.2.2.2.1))], [])) (s15_3 N k d.1.2.2.2.1 d.1.2.2.2.2.1 d.1.2.2.2.2.2.1) N (d.1.1, d.1.2.1, d.1.2.2.1)
theorem e15 (N : Nat) (a0 : List Int) (a1 : Int) : bodyK (x15 N) [(.int .i64)] [.tmp 4] b15 (entry (.pr (.val (.sl false (.int .i64))) (.pr (.val (.int .i64)) .un)) (a0, (a1, ()))) = f15 N a0 a1 := by kernel_rfl
theorem k15 (N : Nat) : CalleeOK Go.Proofs.Try.prog 15 (c15 N) :=
  fn_ok (fn := Go.Proofs.Try.f15) (body := b15) (c := x15 N) Go.Proofs.Try.func15 (by kernel_rfl) (by kernel_rfl) ⟨ttL_ok, mtL_ok, eqL_ok, env_nil⟩ mixed (by kernel_rfl) (Nat.le_of_ble_eq_true (by kernel_rfl)) (by kernel_rfl) (by decide)
    (loops_ok (by kernel_rfl : loopsOf b15 = [loopAt 3 (loopsOf b15)]) (.cons (l15_3 N) .nil)) fun d => e15 N d.1 d.2.1
/-! ### 11: keyhole/keyholelaw44.cost -/
def f11_L7 {R : Type} (N : Nat) (t1 : List Int) (t0 : List (Int × (Int × Unit))) (kb : Int → Option R) (kret : Int → Int → Option R) (kx0 : Unit → Option R) : Int → Option R :=
  fun t7 =>
    cond (decide (t7 < (len t1)))
      ((idx t1 t7).bind fun x =>
      (idx t1 (wi64 (t7 - 1))).bind fun x_1 =>
      cond (decide (x ≤ x_1))
        (kret 0 10)
        (kb (wi64 (t7 + 1))))
      (kx0 ())
def f11_L15 {R : Type} (N : Nat) (t1_1 : List Int) (t63 : List (Int × (Int × Unit))) (t64 : Int) (kb : Int × Int → Option R) (kx2 : Int → Option R) : Int × Int → Option R :=
  fun (t65, t8) =>
    cond (decide (t65 < t64))
      ((idx t63 t65).bind fun x_5 =>
      (f15 N t1_1 x_5.1).bind fun r_1 =>
      kb ((wi64 (t65 + 1)), (wi64 (t8 + (wi64 (x_5.2.1 * (wi64 (r_1 - x_5.1))))))))
      (kx2 t8)
def f11 (N : Nat) (a0 : List (Int × (Int × Unit))) (a1 : List Int) : Option (Int × Int) :=
  (f13 N a0).bind fun r =>
  cond (!(decide (r = 0)))
    (some (0, r))
    (cond (decide (32 < (len a1)))
      (some (0, 4))
      (iter (fun w => f11_L7 N a1 a0 w
        (fun t4 t5 =>
          some (t4, t5))
        (fun (_ : Unit) =>
          (cond (decide ((len a1) = 0))
              (some true)
              ((idx a1 (wi64 ((len a1) - 1))).bind fun x_2 =>
              (idx a0 (wi64 ((len a0) - 1))).bind fun x_3 =>
              some (decide (x_2 < x_3.1)))).bind fun b =>
          (cond b
              (some true)
              ((idx a1 (wi64 ((len a1) - 1))).bind fun x_4 =>
              some (decide (67108864 < x_4)))).bind fun b_1 =>
          cond b_1
            (some (0, 3))
            (iter (fun w => f11_L15 N a1 a0 (len a0) w
              (fun t8_1 =>
                some (t8_1, 0))) N (0, 0)))) N 1))
def c11 (N : Nat) : Callee := .pure (.pr (.val (.sl false (.pair (.int .i64) (.pair (.int .i64) .unit)))) (.pr (.val (.sl false (.int .i64))) .un)) [(.int .i64), (.int .i64)] fun d => f11 N d.1 d.2.1
def F11_7 : SForm := ⟨[(7, (.val (.int .i64))), (1, (.val (.sl false (.int .i64)))), (0, (.val (.sl false (.pair (.int .i64) (.pair (.int .i64) .unit)))))], []⟩
def G11_7 (N : Nat) : (R : Type) → F11_7.den → (AExit → St → Option R) → Option R := fun R d k => iter (fun kb => f11_L7 N d.1.2.1 d.1.2.2.1 kb
    (fun y0 y1 => k .ret (St.of [(4, (.data (.int .i64) y0)), (5, (.data (.int .i64) y1))] []))
    (fun _ => k (.exit 0) (St.of [(1, (.data (.sl false (.int .i64)) d.1.2.1)), (0, (.data (.sl false (.pair (.int .i64) (.pair (.int .i64) .unit))) d.1.2.2.1))] []))) N d.1.1
def F11_15 : SForm := ⟨[(65, (.val (.int .i64))), (1, (.val (.sl false (.int .i64)))), (8, (.val (.int .i64))), (63, (.val (.sl false (.pair (.int .i64) (.pair (.int .i64) .unit))))), (64, (.val (.int .i64)))], []⟩
def G11_15 (N : Nat) : (R : Type) → F11_15.den → (AExit → St → Option R) → Option R := fun R d k => iter (fun kb => f11_L15 N d.1.2.1 d.1.2.2.2.1 d.1.2.2.2.2.1 kb
    (fun y0 => k (.exit 2) (St.of [(8, (.data (.int .i64) y0))] []))) N (d.1.1, d.1.2.2.1)
def lp11 (N : Nat) : Nat → Option LoopFn := fun r => cond (Nat.beq r 7) (some fun R sl os k => F11_7.take sl os fun d => G11_7 N R d k) (cond (Nat.beq r 15) (some fun R sl os k => F11_15.take sl os fun d => G11_15 N R d k) (none))
def x11 (N : Nat) : Ctx := { fuel := N, tt := getL ttL, mt := getL mtL, ntmps := 83, env := fun f => (getL [(13, [c13 N]), (15, [c15 N])] f).getD [], cut := getL [(7, ⟨[7, 1, 0], []⟩), (15, ⟨[65, 1, 8, 63, 64], []⟩)], exits := fun r => getL ((getL [(7, [(0, ⟨[1, 0], []⟩)]), (15, [(2, ⟨[8], []⟩)])] r).getD []), res := ⟨[4, 5], []⟩, own := fun _ => none, lp := lp11 N, eqs := fun T => memN T eqL }
noncomputable def b11 : Code := ((Go.Proofs.Try.f11).body).getD .skip
theorem s11_7 (N : Nat) {R : Type} (k : AExit → St → Option R) (t1 : List Int) (t0 : List (Int × (Int × Unit))) (kb : List (Nat × AVal) → List Obj → Option R) (x : Int) : codeK (x11 N) (loopAt 7 (loopsOf b11)) (St.of [(7, (.data (.int .i64) x)), (1, (.data (.sl false (.int .i64)) t1)), (0, (.data (.sl false (.pair (.int .i64) (.pair (.int .i64) .unit))) t0))] []) (kLoop (x11 N) 7 ⟨[7, 1, 0], []⟩ kb k) = f11_L7 N t1 t0 (fun y => kb [(7, (.data (.int .i64) y)), (1, (.data (.sl false (.int .i64)) t1)), (0, (.data (.sl false (.pair (.int .i64) (.pair (.int .i64) .unit))) t0))] [])
    (fun y0 y1 => k .ret (St.of [(4, (.data (.int .i64) y0)), (5, (.data (.int .i64) y1))] []))
    (fun _ => k (.exit 0) (St.of [(1, (.data (.sl false (.int .i64)) t1)), (0, (.data (.sl false (.pair (.int .i64) (.pair (.int .i64) .unit))) t0))] [])) x := by kernel_rfl
theorem l11_7 (N : Nat) : LoopOK (x11 N) (loopAt 7 (loopsOf b11)) :=
  loop_mk (G11_7 N) (by kernel_rfl) (by kernel_rfl) (by kernel_rfl) fun R k d =>
    loop_eq (st := fun (x : Int) => ([(7, (.data (.int .i64) x)), (1, (.data (.sl false (.int .i64)) d.1.2.1)), (0, (.data (.sl false (.pair (.int .i64) (.pair (.int .i64) .unit))) d.1.2.2.1))], [])) (s11_7 N k d.1.2.1 d.1.2.2.1) N d.1.1
theorem s11_15 (N : Nat) {R : Type} (k : AExit → St → Option R) (t1_1 : List Int) (t63 : List (Int × (Int × Unit))) (t64 : Int) (kb : List (Nat × AVal) → List Obj → Option R) (x : Int × Int) : codeK (x11 N) (loopAt 15 (loopsOf b11)) (St.of [(65, (.data (.int .i64) x.1)), (1, (.data (.sl false (.int .i64)) t1_1)), (8, (.data (.int .i64) x.2)), (63, (.data (.sl false (.pair (.int .i64) (.pair (.int .i64) .unit))) t63)), (64, (.data (.int .i64) t64))] []) (kLoop (x11 N) 15 ⟨[65, 1, 8, 63, 64], []⟩ kb k) = f11_L15 N t1_1 t63 t64 (fun y => kb [(65, (.data (.int .i64) y.1)), (1, (.data (.sl false (.int .i64)) t1_1)), (8, (.data (.int .i64) y.2)), (63, (.data (.sl false (.pair (.int .i64) (.pair (.int .i64) .unit))) t63)), (64, (.data (.int .i64) t64))] [])
    (fun y0 => k (.exit 2) (St.of [(8, (.data (.int .i64) y0))] [])) x := by kernel_rfl
theorem l11_15 (N : Nat) : LoopOK (x11 N) (loopAt 15 (loopsOf b11)) :=
  loop_mk (G11_15 N) (by kernel_rfl) (by kernel_rfl) (by kernel_rfl) fun R k d =>
    loop_eq (st := fun (x : Int × Int) => ([(65, (.data (.int .i64) x.1)), (1, (.data (.sl false (.int .i64)) d.1.2.1)), (8, (.data (.int .i64) x.2)), (63, (.data (.sl false (.pair (.int .i64) (.pair (.int .i64) .unit))) d.1.2.2.2.1)), (64, (.data (.int .i64) d.1.2.2.2.2.1))], [])) (s11_15 N k d.1.2.1 d.1.2.2.2.1 d.1.2.2.2.2.1) N (d.1.1, d.1.2.2.1)
theorem e11 (N : Nat) (a0 : List (Int × (Int × Unit))) (a1 : List Int) : bodyK (x11 N) [(.int .i64), (.int .i64)] [.tmp 4, .tmp 5] b11 (entry (.pr (.val (.sl false (.pair (.int .i64) (.pair (.int .i64) .unit)))) (.pr (.val (.sl false (.int .i64))) .un)) (a0, (a1, ()))) = f11 N a0 a1 := by kernel_rfl
theorem k11 (N : Nat) : CalleeOK Go.Proofs.Try.prog 11 (c11 N) :=
  fn_ok (fn := Go.Proofs.Try.f11) (body := b11) (c := x11 N) Go.Proofs.Try.func11 (by kernel_rfl) (by kernel_rfl) ⟨ttL_ok, mtL_ok, eqL_ok, env_cons (forall_mem1 (k13 N)) (env_cons (forall_mem1 (k15 N)) (env_nil))⟩ mixed (by kernel_rfl) (Nat.le_of_ble_eq_true (by kernel_rfl)) (by kernel_rfl) (by decide)
    (loops_ok (by kernel_rfl : loopsOf b11 = [loopAt 7 (loopsOf b11), loopAt 15 (loopsOf b11)]) (.cons (l11_7 N) (.cons (l11_15 N) .nil))) fun d => e11 N d.1 d.2.1
/-! ### 3: keyhole/keyholelaw44.BucketChecks -/
def f3 (N : Nat) (a0 : List (Int × (Int × Unit))) (a1 : List Int) (a2 : Int) : Option (Bool) :=
  (f9 N).bind fun r =>
  cond (!r)
    (some false)
    ((cond (decide (80 < (len a0)))
        (some true)
        (some (decide (80 < (len a1))))).bind fun b =>
    cond b
      (some true)
      ((f10 N a0 a1).bind fun r_1 =>
      (f11 N a0 a1).bind fun r_2 =>
      (f12 N a0).bind fun r_3 =>
      (f13 N a0).bind fun r_4 =>
      (cond (decide (r_3 = r_4))
          ((f14 N a1 a2).bind fun r_5 =>
          (f15 N a1 a2).bind fun r_6 =>
          some (decide (r_5 = r_6)))
          (some false)).bind fun b_1 =>
      (cond b_1
          (some (decide (r_1.1 = r_2.1)))
          (some false)).bind fun b_2 =>
      (cond b_2
          (some (decide (r_1.2 = r_2.2)))
          (some false)).bind fun b_3 =>
      some b_3))
def c3 (N : Nat) : Callee := .pure (.pr (.val (.sl false (.pair (.int .i64) (.pair (.int .i64) .unit)))) (.pr (.val (.sl false (.int .i64))) (.pr (.val (.int .i64)) .un))) [.bool] fun d => f3 N d.1 d.2.1 d.2.2.1
def lp3 (N : Nat) : Nat → Option LoopFn := fun r => none
def x3 (N : Nat) : Ctx := { fuel := N, tt := getL ttL, mt := getL mtL, ntmps := 57, env := fun f => (getL [(9, [c9 N]), (10, [c10 N]), (11, [c11 N]), (12, [c12 N]), (13, [c13 N]), (14, [c14 N]), (15, [c15 N])] f).getD [], cut := getL [], exits := fun r => getL ((getL [] r).getD []), res := ⟨[6], []⟩, own := fun _ => none, lp := lp3 N, eqs := fun T => memN T eqL }
noncomputable def b3 : Code := ((Go.Proofs.Try.f3).body).getD .skip
theorem e3 (N : Nat) (a0 : List (Int × (Int × Unit))) (a1 : List Int) (a2 : Int) : bodyK (x3 N) [.bool] [.tmp 6] b3 (entry (.pr (.val (.sl false (.pair (.int .i64) (.pair (.int .i64) .unit)))) (.pr (.val (.sl false (.int .i64))) (.pr (.val (.int .i64)) .un))) (a0, (a1, (a2, ())))) = f3 N a0 a1 a2 := by kernel_rfl
theorem k3 (N : Nat) : CalleeOK Go.Proofs.Try.prog 3 (c3 N) :=
  fn_ok (fn := Go.Proofs.Try.f3) (body := b3) (c := x3 N) Go.Proofs.Try.func3 (by kernel_rfl) (by kernel_rfl) ⟨ttL_ok, mtL_ok, eqL_ok, env_cons (forall_mem1 (k9 N)) (env_cons (forall_mem1 (k10 N)) (env_cons (forall_mem1 (k11 N)) (env_cons (forall_mem1 (k12 N)) (env_cons (forall_mem1 (k13 N)) (env_cons (forall_mem1 (k14 N)) (env_cons (forall_mem1 (k15 N)) (env_nil)))))))⟩ mixed (by kernel_rfl) (Nat.le_of_ble_eq_true (by kernel_rfl)) (by kernel_rfl) (by decide)
    (loops_ok (by kernel_rfl : loopsOf b3 = []) .nil) fun d => e3 N d.1 d.2.1 d.2.2.1
/-! ### 17: keyhole/keyholelaw44.BucketProves$1 -/
def f17 (N : Nat) (a0 : List Int) : Option (Bool) :=
  some (decide (10 < (len a0)))
def c17 (N : Nat) : Callee := .pure (.pr (.val (.sl false (.int .i64))) .un) [.bool] fun d => f17 N d.1
def lp17 (N : Nat) : Nat → Option LoopFn := fun r => none
def x17 (N : Nat) : Ctx := { fuel := N, tt := getL ttL, mt := getL mtL, ntmps := 6, env := fun f => (getL [] f).getD [], cut := getL [], exits := fun r => getL ((getL [] r).getD []), res := ⟨[2], []⟩, own := fun _ => none, lp := lp17 N, eqs := fun T => memN T eqL }
noncomputable def b17 : Code := ((Go.Proofs.Try.f17).body).getD .skip
theorem e17 (N : Nat) (a0 : List Int) : bodyK (x17 N) [.bool] [.tmp 2] b17 (entry (.pr (.val (.sl false (.int .i64))) .un) (a0, ())) = f17 N a0 := by kernel_rfl
theorem k17 (N : Nat) : CalleeOK Go.Proofs.Try.prog 17 (c17 N) :=
  fn_ok (fn := Go.Proofs.Try.f17) (body := b17) (c := x17 N) Go.Proofs.Try.func17 (by kernel_rfl) (by kernel_rfl) ⟨ttL_ok, mtL_ok, eqL_ok, env_nil⟩ mixed (by kernel_rfl) (Nat.le_of_ble_eq_true (by kernel_rfl)) (by kernel_rfl) (by decide)
    (loops_ok (by kernel_rfl : loopsOf b17 = []) .nil) fun d => e17 N d.1
/-! ### 30: slices.IndexFunc[keyhole/api.Segments,[]int] -/
def f30_L2 {R : Type} (N : Nat) (t0 : List (List Int)) (t1 : Unit) (t7 : Int) (kb : Int → Option R) (kret : Int → Option R) (kx0 : Unit → Option R) : Int → Option R :=
  fun t8 =>
    cond (decide (t8 < t7))
      ((idx t0 t8).bind fun x =>
      (f17 N x).bind fun r =>
      cond r
        (kret t8)
        (kb (wi64 (t8 + 1))))
      (kx0 ())
def f30 (N : Nat) (a0 : List (List Int)) (a1 : Unit) : Option (Int) :=
  iter (fun w => f30_L2 N a0 a1 (len a0) w
    (fun t4 =>
      some t4)
    (fun (_ : Unit) =>
      some (-1))) N 0
def c30 (N : Nat) : Callee := .pure (.pr (.val (.sl false (.sl false (.int .i64)))) (.pr (.val (.fn 17 .unit)) .un)) [(.int .i64)] fun d => f30 N d.1 d.2.1
def F30_2 : SForm := ⟨[(8, (.val (.int .i64))), (0, (.val (.sl false (.sl false (.int .i64))))), (1, (.val (.fn 17 .unit))), (7, (.val (.int .i64)))], []⟩
def G30_2 (N : Nat) : (R : Type) → F30_2.den → (AExit → St → Option R) → Option R := fun R d k => iter (fun kb => f30_L2 N d.1.2.1 d.1.2.2.1 d.1.2.2.2.1 kb
    (fun y0 => k .ret (St.of [(4, (.data (.int .i64) y0))] []))
    (fun _ => k (.exit 0) (St.of [] []))) N d.1.1
def lp30 (N : Nat) : Nat → Option LoopFn := fun r => cond (Nat.beq r 2) (some fun R sl os k => F30_2.take sl os fun d => G30_2 N R d k) (none)
def x30 (N : Nat) : Ctx := { fuel := N, tt := getL ttL, mt := getL mtL, ntmps := 19, env := fun f => (getL [(17, [c17 N])] f).getD [], cut := getL [(2, ⟨[8, 0, 1, 7], []⟩)], exits := fun r => getL ((getL [(2, [(0, ⟨[], []⟩)])] r).getD []), res := ⟨[4], []⟩, own := fun _ => none, lp := lp30 N, eqs := fun T => memN T eqL }
noncomputable def b30 : Code := ((Go.Proofs.Try.f30).body).getD .skip
theorem s30_2 (N : Nat) {R : Type} (k : AExit → St → Option R) (t0 : List (List Int)) (t1 : Unit) (t7 : Int) (kb : List (Nat × AVal) → List Obj → Option R) (x : Int) : codeK (x30 N) (loopAt 2 (loopsOf b30)) (St.of [(8, (.data (.int .i64) x)), (0, (.data (.sl false (.sl false (.int .i64))) t0)), (1, (.data (.fn 17 .unit) t1)), (7, (.data (.int .i64) t7))] []) (kLoop (x30 N) 2 ⟨[8, 0, 1, 7], []⟩ kb k) = f30_L2 N t0 t1 t7 (fun y => kb [(8, (.data (.int .i64) y)), (0, (.data (.sl false (.sl false (.int .i64))) t0)), (1, (.data (.fn 17 .unit) t1)), (7, (.data (.int .i64) t7))] [])
    (fun y0 => k .ret (St.of [(4, (.data (.int .i64) y0))] []))
    (fun _ => k (.exit 0) (St.of [] [])) x := by kernel_rfl
theorem l30_2 (N : Nat) : LoopOK (x30 N) (loopAt 2 (loopsOf b30)) :=
  loop_mk (G30_2 N) (by kernel_rfl) (by kernel_rfl) (by kernel_rfl) fun R k d =>
    loop_eq (st := fun (x : Int) => ([(8, (.data (.int .i64) x)), (0, (.data (.sl false (.sl false (.int .i64))) d.1.2.1)), (1, (.data (.fn 17 .unit) d.1.2.2.1)), (7, (.data (.int .i64) d.1.2.2.2.1))], [])) (s30_2 N k d.1.2.1 d.1.2.2.1 d.1.2.2.2.1) N d.1.1
theorem e30 (N : Nat) (a0 : List (List Int)) (a1 : Unit) : bodyK (x30 N) [(.int .i64)] [.tmp 4] b30 (entry (.pr (.val (.sl false (.sl false (.int .i64)))) (.pr (.val (.fn 17 .unit)) .un)) (a0, (a1, ()))) = f30 N a0 a1 := by kernel_rfl
theorem k30 (N : Nat) : CalleeOK Go.Proofs.Try.prog 30 (c30 N) :=
  fn_ok (fn := Go.Proofs.Try.f30) (body := b30) (c := x30 N) Go.Proofs.Try.func30 (by kernel_rfl) (by kernel_rfl) ⟨ttL_ok, mtL_ok, eqL_ok, env_cons (forall_mem1 (k17 N)) (env_nil)⟩ mixed (by kernel_rfl) (Nat.le_of_ble_eq_true (by kernel_rfl)) (by kernel_rfl) (by decide)
    (loops_ok (by kernel_rfl : loopsOf b30 = [loopAt 2 (loopsOf b30)]) (.cons (l30_2 N) .nil)) fun d => e30 N d.1 d.2.1
/-! ### 16: slices.ContainsFunc[keyhole/api.Segments,[]int] -/
def f16 (N : Nat) (a0 : List (List Int)) (a1 : Unit) : Option (Bool) :=
  (f30 N a0 a1).bind fun r =>
  some (decide (0 ≤ r))
def c16 (N : Nat) : Callee := .pure (.pr (.val (.sl false (.sl false (.int .i64)))) (.pr (.val (.fn 17 .unit)) .un)) [.bool] fun d => f16 N d.1 d.2.1
def lp16 (N : Nat) : Nat → Option LoopFn := fun r => none
def x16 (N : Nat) : Ctx := { fuel := N, tt := getL ttL, mt := getL mtL, ntmps := 9, env := fun f => (getL [(30, [c30 N])] f).getD [], cut := getL [], exits := fun r => getL ((getL [] r).getD []), res := ⟨[4], []⟩, own := fun _ => none, lp := lp16 N, eqs := fun T => memN T eqL }
noncomputable def b16 : Code := ((Go.Proofs.Try.f16).body).getD .skip
theorem e16 (N : Nat) (a0 : List (List Int)) (a1 : Unit) : bodyK (x16 N) [.bool] [.tmp 4] b16 (entry (.pr (.val (.sl false (.sl false (.int .i64)))) (.pr (.val (.fn 17 .unit)) .un)) (a0, (a1, ()))) = f16 N a0 a1 := by kernel_rfl
theorem k16 (N : Nat) : CalleeOK Go.Proofs.Try.prog 16 (c16 N) :=
  fn_ok (fn := Go.Proofs.Try.f16) (body := b16) (c := x16 N) Go.Proofs.Try.func16 (by kernel_rfl) (by kernel_rfl) ⟨ttL_ok, mtL_ok, eqL_ok, env_cons (forall_mem1 (k30 N)) (env_nil)⟩ mixed (by kernel_rfl) (Nat.le_of_ble_eq_true (by kernel_rfl)) (by kernel_rfl) (by decide)
    (loops_ok (by kernel_rfl : loopsOf b16 = []) .nil) fun d => e16 N d.1 d.2.1
/-! ### 25: keyhole/keyholelaw44.group -/
def f25_L3 {R : Type} (N : Nat) (t0 : List (Int × (Int × Unit))) (t2 : Int) (kb : Int × Int → Option R) (kx0 : Int → Option R) : Int × Int → Option R :=
  fun (t8, t7) =>
    cond (decide (t8 < t2))
      ((idx t0 t8).bind fun x =>
      (idx t0 (wi64 (t2 - 1))).bind fun x_1 =>
      (idx t0 t8).bind fun x_2 =>
      kb ((wi64 (t8 + 1)), (wi64 (t7 + (wi64 (x.2.1 * (wi64 (x_1.1 - x_2.1))))))))
      (kx0 t7)
def f25 (N : Nat) (a0 : List (Int × (Int × Unit))) (a1 : Int) (a2 : Int) : Option (Int) :=
  iter (fun w => f25_L3 N a0 a2 w
    (fun t7_1 =>
      some t7_1)) N (a1, 0)
def c25 (N : Nat) : Callee := .pure (.pr (.val (.sl false (.pair (.int .i64) (.pair (.int .i64) .unit)))) (.pr (.val (.int .i64)) (.pr (.val (.int .i64)) .un))) [(.int .i64)] fun d => f25 N d.1 d.2.1 d.2.2.1
def F25_3 : SForm := ⟨[(8, (.val (.int .i64))), (0, (.val (.sl false (.pair (.int .i64) (.pair (.int .i64) .unit))))), (2, (.val (.int .i64))), (7, (.val (.int .i64)))], []⟩
def G25_3 (N : Nat) : (R : Type) → F25_3.den → (AExit → St → Option R) → Option R := fun R d k => iter (fun kb => f25_L3 N d.1.2.1 d.1.2.2.1 kb
    (fun y0 => k (.exit 0) (St.of [(7, (.data (.int .i64) y0))] []))) N (d.1.1, d.1.2.2.2.1)
def lp25 (N : Nat) : Nat → Option LoopFn := fun r => cond (Nat.beq r 3) (some fun R sl os k => F25_3.take sl os fun d => G25_3 N R d k) (none)
def x25 (N : Nat) : Ctx := { fuel := N, tt := getL ttL, mt := getL mtL, ntmps := 36, env := fun f => (getL [] f).getD [], cut := getL [(3, ⟨[8, 0, 2, 7], []⟩)], exits := fun r => getL ((getL [(3, [(0, ⟨[7], []⟩)])] r).getD []), res := ⟨[6], []⟩, own := fun _ => none, lp := lp25 N, eqs := fun T => memN T eqL }
noncomputable def b25 : Code := ((Go.Proofs.Try.f25).body).getD .skip
theorem s25_3 (N : Nat) {R : Type} (k : AExit → St → Option R) (t0 : List (Int × (Int × Unit))) (t2 : Int) (kb : List (Nat × AVal) → List Obj → Option R) (x : Int × Int) : codeK (x25 N) (loopAt 3 (loopsOf b25)) (St.of [(8, (.data (.int .i64) x.1)), (0, (.data (.sl false (.pair (.int .i64) (.pair (.int .i64) .unit))) t0)), (2, (.data (.int .i64) t2)), (7, (.data (.int .i64) x.2))] []) (kLoop (x25 N) 3 ⟨[8, 0, 2, 7], []⟩ kb k) = f25_L3 N t0 t2 (fun y => kb [(8, (.data (.int .i64) y.1)), (0, (.data (.sl false (.pair (.int .i64) (.pair (.int .i64) .unit))) t0)), (2, (.data (.int .i64) t2)), (7, (.data (.int .i64) y.2))] [])
    (fun y0 => k (.exit 0) (St.of [(7, (.data (.int .i64) y0))] [])) x := by kernel_rfl
theorem l25_3 (N : Nat) : LoopOK (x25 N) (loopAt 3 (loopsOf b25)) :=
  loop_mk (G25_3 N) (by kernel_rfl) (by kernel_rfl) (by kernel_rfl) fun R k d =>
    loop_eq (st := fun (x : Int × Int) => ([(8, (.data (.int .i64) x.1)), (0, (.data (.sl false (.pair (.int .i64) (.pair (.int .i64) .unit))) d.1.2.1)), (2, (.data (.int .i64) d.1.2.2.1)), (7, (.data (.int .i64) x.2))], [])) (s25_3 N k d.1.2.1 d.1.2.2.1) N (d.1.1, d.1.2.2.2.1)
theorem e25 (N : Nat) (a0 : List (Int × (Int × Unit))) (a1 : Int) (a2 : Int) : bodyK (x25 N) [(.int .i64)] [.tmp 6] b25 (entry (.pr (.val (.sl false (.pair (.int .i64) (.pair (.int .i64) .unit)))) (.pr (.val (.int .i64)) (.pr (.val (.int .i64)) .un))) (a0, (a1, (a2, ())))) = f25 N a0 a1 a2 := by kernel_rfl
theorem k25 (N : Nat) : CalleeOK Go.Proofs.Try.prog 25 (c25 N) :=
  fn_ok (fn := Go.Proofs.Try.f25) (body := b25) (c := x25 N) Go.Proofs.Try.func25 (by kernel_rfl) (by kernel_rfl) ⟨ttL_ok, mtL_ok, eqL_ok, env_nil⟩ mixed (by kernel_rfl) (Nat.le_of_ble_eq_true (by kernel_rfl)) (by kernel_rfl) (by decide)
    (loops_ok (by kernel_rfl : loopsOf b25 = [loopAt 3 (loopsOf b25)]) (.cons (l25_3 N) .nil)) fun d => e25 N d.1 d.2.1 d.2.2.1
/-! ### 32: keyhole/keyholelaw44.holds -/
def f32_L10 {R : Type} (N : Nat) (t8 : Int) (t0_2 : List (Int × (Int × Unit))) (t7_2 : Int) (t2_2 : List (List Int)) (t1_2 : Int) (t23_1 : Int) (t24_1 : Int) (kb : Int → Option R) (kret : Bool → Option R) (kx4 : Unit → Option R) : Int → Option R :=
  fun t9 =>
    cond (decide (t9 ≤ t8))
      ((cond (decide (1 < t7_2))
          (some true)
          (some (decide (t9 = 0)))).bind fun b =>
      (cond b
          ((idx t2_2 t7_2).bind fun x_2 =>
          (idx x_2 t8).bind fun x_3 =>
          (idx t2_2 (wi64 (t7_2 - 1))).bind fun x_4 =>
          (idx x_4 t9).bind fun x_5 =>
          (f25 N t0_2 t9 t8).bind fun r =>
          some (decide ((wi64 (x_5 + r)) < x_3)))
          (some false)).bind fun b_1 =>
      cond b_1
        (kret false)
        (kb (wi64 (t9 + 1))))
      (kx4 ())
def f32_L7 {R : Type} (N : Nat) (t0_1 : List (Int × (Int × Unit))) (t7_1 : Int) (t2_1 : List (List Int)) (t1_1 : Int) (t23 : Int) (kb : Int → Option R) (kret : Bool → Option R) (kx2 : Unit → Option R) : Int → Option R :=
  fun t24 =>
    cond (decide (t24 < t23))
      (iter (fun w => f32_L10 N t24 t0_1 t7_1 t2_1 t1_1 t23 t24 w
        (fun t6 =>
          kret t6)
        (fun (_ : Unit) =>
          kb (wi64 (t24 + 1)))) N 0)
      (kx2 ())
def f32_L4 {R : Type} (N : Nat) (t0 : List (Int × (Int × Unit))) (t2 : List (List Int)) (t1 : Int) (kb : Int → Option R) (kret : Bool → Option R) (kx0 : Unit → Option R) : Int → Option R :=
  fun t7 =>
    cond (decide (t7 ≤ t1))
      (iter (fun w => f32_L7 N t0 t7 t2 t1 (wi64 ((len t0) + 1)) w
        (fun t6_1 =>
          kret t6_1)
        (fun (_ : Unit) =>
          kb (wi64 (t7 + 1)))) N 0)
      (kx0 ())
def f32 (N : Nat) (a0 : List (Int × (Int × Unit))) (a1 : Int) (a2 : List (List Int)) : Option (Bool) :=
  (idx a2 0).bind fun x =>
  (idx x 0).bind fun x_1 =>
  cond (!(decide (x_1 = 0)))
    (some false)
    (iter (fun w => f32_L4 N a0 a2 a1 w
      (fun t6_2 =>
        some t6_2)
      (fun (_ : Unit) =>
        some true)) N 1)
def c32 (N : Nat) : Callee := .pure (.pr (.val (.sl false (.pair (.int .i64) (.pair (.int .i64) .unit)))) (.pr (.val (.int .i64)) (.pr (.val (.sl false (.sl false (.int .i64)))) .un))) [.bool] fun d => f32 N d.1 d.2.1 d.2.2.1
def F32_10 : SForm := ⟨[(9, (.val (.int .i64))), (8, (.val (.int .i64))), (0, (.val (.sl false (.pair (.int .i64) (.pair (.int .i64) .unit))))), (7, (.val (.int .i64))), (2, (.val (.sl false (.sl false (.int .i64))))), (1, (.val (.int .i64))), (23, (.val (.int .i64))), (24, (.val (.int .i64)))], []⟩
def G32_10 (N : Nat) : (R : Type) → F32_10.den → (AExit → St → Option R) → Option R := fun R d k => iter (fun kb => f32_L10 N d.1.2.1 d.1.2.2.1 d.1.2.2.2.1 d.1.2.2.2.2.1 d.1.2.2.2.2.2.1 d.1.2.2.2.2.2.2.1 d.1.2.2.2.2.2.2.2.1 kb
    (fun y0 => k .ret (St.of [(6, (.data .bool y0))] []))
    (fun _ => k (.exit 4) (St.of [(0, (.data (.sl false (.pair (.int .i64) (.pair (.int .i64) .unit))) d.1.2.2.1)), (7, (.data (.int .i64) d.1.2.2.2.1)), (2, (.data (.sl false (.sl false (.int .i64))) d.1.2.2.2.2.1)), (1, (.data (.int .i64) d.1.2.2.2.2.2.1)), (23, (.data (.int .i64) d.1.2.2.2.2.2.2.1)), (24, (.data (.int .i64) d.1.2.2.2.2.2.2.2.1))] []))) N d.1.1
def F32_7 : SForm := ⟨[(0, (.val (.sl false (.pair (.int .i64) (.pair (.int .i64) .unit))))), (7, (.val (.int .i64))), (2, (.val (.sl false (.sl false (.int .i64))))), (24, (.val (.int .i64))), (1, (.val (.int .i64))), (23, (.val (.int .i64)))], []⟩
def G32_7 (N : Nat) : (R : Type) → F32_7.den → (AExit → St → Option R) → Option R := fun R d k => iter (fun kb => f32_L7 N d.1.1 d.1.2.1 d.1.2.2.1 d.1.2.2.2.2.1 d.1.2.2.2.2.2.1 kb
    (fun y0 => k .ret (St.of [(6, (.data .bool y0))] []))
    (fun _ => k (.exit 2) (St.of [(0, (.data (.sl false (.pair (.int .i64) (.pair (.int .i64) .unit))) d.1.1)), (2, (.data (.sl false (.sl false (.int .i64))) d.1.2.2.1)), (1, (.data (.int .i64) d.1.2.2.2.2.1)), (7, (.data (.int .i64) d.1.2.1))] []))) N d.1.2.2.2.1
def F32_4 : SForm := ⟨[(0, (.val (.sl false (.pair (.int .i64) (.pair (.int .i64) .unit))))), (7, (.val (.int .i64))), (2, (.val (.sl false (.sl false (.int .i64))))), (1, (.val (.int .i64)))], []⟩
def G32_4 (N : Nat) : (R : Type) → F32_4.den → (AExit → St → Option R) → Option R := fun R d k => iter (fun kb => f32_L4 N d.1.1 d.1.2.2.1 d.1.2.2.2.1 kb
    (fun y0 => k .ret (St.of [(6, (.data .bool y0))] []))
    (fun _ => k (.exit 0) (St.of [] []))) N d.1.2.1
def lp32 (N : Nat) : Nat → Option LoopFn := fun r => cond (Nat.beq r 10) (some fun R sl os k => F32_10.take sl os fun d => G32_10 N R d k) (cond (Nat.beq r 7) (some fun R sl os k => F32_7.take sl os fun d => G32_7 N R d k) (cond (Nat.beq r 4) (some fun R sl os k => F32_4.take sl os fun d => G32_4 N R d k) (none)))
def x32 (N : Nat) : Ctx := { fuel := N, tt := getL ttL, mt := getL mtL, ntmps := 62, env := fun f => (getL [(25, [c25 N])] f).getD [], cut := getL [(4, ⟨[0, 7, 2, 1], []⟩), (7, ⟨[0, 7, 2, 24, 1, 23], []⟩), (10, ⟨[9, 8, 0, 7, 2, 1, 23, 24], []⟩)], exits := fun r => getL ((getL [(4, [(0, ⟨[], []⟩)]), (7, [(2, ⟨[0, 2, 1, 7], []⟩)]), (10, [(4, ⟨[0, 7, 2, 1, 23, 24], []⟩)])] r).getD []), res := ⟨[6], []⟩, own := fun _ => none, lp := lp32 N, eqs := fun T => memN T eqL }
noncomputable def b32 : Code := ((Go.Proofs.Try.f32).body).getD .skip
theorem s32_10 (N : Nat) {R : Type} (k : AExit → St → Option R) (t8 : Int) (t0_2 : List (Int × (Int × Unit))) (t7_2 : Int) (t2_2 : List (List Int)) (t1_2 : Int) (t23_1 : Int) (t24_1 : Int) (kb : List (Nat × AVal) → List Obj → Option R) (x : Int) : codeK (x32 N) (loopAt 10 (loopsOf b32)) (St.of [(9, (.data (.int .i64) x)), (8, (.data (.int .i64) t8)), (0, (.data (.sl false (.pair (.int .i64) (.pair (.int .i64) .unit))) t0_2)), (7, (.data (.int .i64) t7_2)), (2, (.data (.sl false (.sl false (.int .i64))) t2_2)), (1, (.data (.int .i64) t1_2)), (23, (.data (.int .i64) t23_1)), (24, (.data (.int .i64) t24_1))] []) (kLoop (x32 N) 10 ⟨[9, 8, 0, 7, 2, 1, 23, 24], []⟩ kb k) = f32_L10 N t8 t0_2 t7_2 t2_2 t1_2 t23_1 t24_1 (fun y => kb [(9, (.data (.int .i64) y)), (8, (.data (.int .i64) t8)), (0, (.data (.sl false (.pair (.int .i64) (.pair (.int .i64) .unit))) t0_2)), (7, (.data (.int .i64) t7_2)), (2, (.data (.sl false (.sl false (.int .i64))) t2_2)), (1, (.data (.int .i64) t1_2)), (23, (.data (.int .i64) t23_1)), (24, (.data (.int .i64) t24_1))] [])
    (fun y0 => k .ret (St.of [(6, (.data .bool y0))] []))
    (fun _ => k (.exit 4) (St.of [(0, (.data (.sl false (.pair (.int .i64) (.pair (.int .i64) .unit))) t0_2)), (7, (.data (.int .i64) t7_2)), (2, (.data (.sl false (.sl false (.int .i64))) t2_2)), (1, (.data (.int .i64) t1_2)), (23, (.data (.int .i64) t23_1)), (24, (.data (.int .i64) t24_1))] [])) x := by kernel_rfl
theorem l32_10 (N : Nat) : LoopOK (x32 N) (loopAt 10 (loopsOf b32)) :=
  loop_mk (G32_10 N) (by kernel_rfl) (by kernel_rfl) (by kernel_rfl) fun R k d =>
    loop_eq (st := fun (x : Int) => ([(9, (.data (.int .i64) x)), (8, (.data (.int .i64) d.1.2.1)), (0, (.data (.sl false (.pair (.int .i64) (.pair (.int .i64) .unit))) d.1.2.2.1)), (7, (.data (.int .i64) d.1.2.2.2.1)), (2, (.data (.sl false (.sl false (.int .i64))) d.1.2.2.2.2.1)), (1, (.data (.int .i64) d.1.2.2.2.2.2.1)), (23, (.data (.int .i64) d.1.2.2.2.2.2.2.1)), (24, (.data (.int .i64) d.1.2.2.2.2.2.2.2.1))], [])) (s32_10 N k d.1.2.1 d.1.2.2.1 d.1.2.2.2.1 d.1.2.2.2.2.1 d.1.2.2.2.2.2.1 d.1.2.2.2.2.2.2.1 d.1.2.2.2.2.2.2.2.1) N d.1.1
theorem s32_7 (N : Nat) {R : Type} (k : AExit → St → Option R) (t0_1 : List (Int × (Int × Unit))) (t7_1 : Int) (t2_1 : List (List Int)) (t1_1 : Int) (t23 : Int) (kb : List (Nat × AVal) → List Obj → Option R) (x : Int) : codeK (x32 N) (loopAt 7 (loopsOf b32)) (St.of [(0, (.data (.sl false (.pair (.int .i64) (.pair (.int .i64) .unit))) t0_1)), (7, (.data (.int .i64) t7_1)), (2, (.data (.sl false (.sl false (.int .i64))) t2_1)), (24, (.data (.int .i64) x)), (1, (.data (.int .i64) t1_1)), (23, (.data (.int .i64) t23))] []) (kLoop (x32 N) 7 ⟨[0, 7, 2, 24, 1, 23], []⟩ kb k) = f32_L7 N t0_1 t7_1 t2_1 t1_1 t23 (fun y => kb [(0, (.data (.sl false (.pair (.int .i64) (.pair (.int .i64) .unit))) t0_1)), (7, (.data (.int .i64) t7_1)), (2, (.data (.sl false (.sl false (.int .i64))) t2_1)), (24, (.data (.int .i64) y)), (1, (.data (.int .i64) t1_1)), (23, (.data (.int .i64) t23))] [])
    (fun y0 => k .ret (St.of [(6, (.data .bool y0))] []))
    (fun _ => k (.exit 2) (St.of [(0, (.data (.sl false (.pair (.int .i64) (.pair (.int .i64) .unit))) t0_1)), (2, (.data (.sl false (.sl false (.int .i64))) t2_1)), (1, (.data (.int .i64) t1_1)), (7, (.data (.int .i64) t7_1))] [])) x := by kernel_rfl
theorem l32_7 (N : Nat) : LoopOK (x32 N) (loopAt 7 (loopsOf b32)) :=
  loop_mk (G32_7 N) (by kernel_rfl) (by kernel_rfl) (by kernel_rfl) fun R k d =>
    loop_eq (st := fun (x : Int) => ([(0, (.data (.sl false (.pair (.int .i64) (.pair (.int .i64) .unit))) d.1.1)), (7, (.data (.int .i64) d.1.2.1)), (2, (.data (.sl false (.sl false (.int .i64))) d.1.2.2.1)), (24, (.data (.int .i64) x)), (1, (.data (.int .i64) d.1.2.2.2.2.1)), (23, (.data (.int .i64) d.1.2.2.2.2.2.1))], [])) (s32_7 N k d.1.1 d.1.2.1 d.1.2.2.1 d.1.2.2.2.2.1 d.1.2.2.2.2.2.1) N d.1.2.2.2.1
theorem s32_4 (N : Nat) {R : Type} (k : AExit → St → Option R) (t0 : List (Int × (Int × Unit))) (t2 : List (List Int)) (t1 : Int) (kb : List (Nat × AVal) → List Obj → Option R) (x : Int) : codeK (x32 N) (loopAt 4 (loopsOf b32)) (St.of [(0, (.data (.sl false (.pair (.int .i64) (.pair (.int .i64) .unit))) t0)), (7, (.data (.int .i64) x)), (2, (.data (.sl false (.sl false (.int .i64))) t2)), (1, (.data (.int .i64) t1))] []) (kLoop (x32 N) 4 ⟨[0, 7, 2, 1], []⟩ kb k) = f32_L4 N t0 t2 t1 (fun y => kb [(0, (.data (.sl false (.pair (.int .i64) (.pair (.int .i64) .unit))) t0)), (7, (.data (.int .i64) y)), (2, (.data (.sl false (.sl false (.int .i64))) t2)), (1, (.data (.int .i64) t1))] [])
    (fun y0 => k .ret (St.of [(6, (.data .bool y0))] []))
    (fun _ => k (.exit 0) (St.of [] [])) x := by kernel_rfl
theorem l32_4 (N : Nat) : LoopOK (x32 N) (loopAt 4 (loopsOf b32)) :=
  loop_mk (G32_4 N) (by kernel_rfl) (by kernel_rfl) (by kernel_rfl) fun R k d =>
    loop_eq (st := fun (x : Int) => ([(0, (.data (.sl false (.pair (.int .i64) (.pair (.int .i64) .unit))) d.1.1)), (7, (.data (.int .i64) x)), (2, (.data (.sl false (.sl false (.int .i64))) d.1.2.2.1)), (1, (.data (.int .i64) d.1.2.2.2.1))], [])) (s32_4 N k d.1.1 d.1.2.2.1 d.1.2.2.2.1) N d.1.2.1
theorem e32 (N : Nat) (a0 : List (Int × (Int × Unit))) (a1 : Int) (a2 : List (List Int)) : bodyK (x32 N) [.bool] [.tmp 6] b32 (entry (.pr (.val (.sl false (.pair (.int .i64) (.pair (.int .i64) .unit)))) (.pr (.val (.int .i64)) (.pr (.val (.sl false (.sl false (.int .i64)))) .un))) (a0, (a1, (a2, ())))) = f32 N a0 a1 a2 := by kernel_rfl
theorem k32 (N : Nat) : CalleeOK Go.Proofs.Try.prog 32 (c32 N) :=
  fn_ok (fn := Go.Proofs.Try.f32) (body := b32) (c := x32 N) Go.Proofs.Try.func32 (by kernel_rfl) (by kernel_rfl) ⟨ttL_ok, mtL_ok, eqL_ok, env_cons (forall_mem1 (k25 N)) (env_nil)⟩ mixed (by kernel_rfl) (Nat.le_of_ble_eq_true (by kernel_rfl)) (by kernel_rfl) (by decide)
    (loops_ok (by kernel_rfl : loopsOf b32 = [loopAt 4 (loopsOf b32), loopAt 7 (loopsOf b32), loopAt 10 (loopsOf b32)]) (.cons (l32_4 N) (.cons (l32_7 N) (.cons (l32_10 N) .nil)))) fun d => e32 N d.1 d.2.1 d.2.2.1
/-! ### 19: keyhole/keyholelaw44.proved -/
def f19_L9 {R : Type} (N : Nat) (t0 : List (Int × (Int × Unit))) (t32 : List (List Int)) (t3 : Int) (t1 : Int) (t2 : List (List Int)) (t33 : Int) (kb : Int → Option R) (kret : Int → Option R) (kx0 : Unit → Option R) : Int → Option R :=
  fun t34 =>
    cond (decide (t34 < t33))
      ((idx t32 t34).bind fun x =>
      cond (!(decide ((len x) = (wi64 ((len t0) + 1)))))
        (kret 2)
        (kb (wi64 (t34 + 1))))
      (kx0 ())
def f19_L18 {R : Type} (N : Nat) (t51 : List Int) (t45_1 : List (List Int)) (t3_2 : Int) (t0_2 : List (Int × (Int × Unit))) (t1_2 : Int) (t2_2 : List (List Int)) (t46_1 : Int) (t47_1 : Int) (t52 : Int) (kb : Int → Option R) (kret : Int → Option R) (kx4 : Unit → Option R) : Int → Option R :=
  fun t53 =>
    cond (decide (t53 < t52))
      ((idx t51 t53).bind fun x_2 =>
      (cond (decide (x_2 < 0))
          (some true)
          (some (decide (1152921504606846976 < x_2)))).bind fun b_1 =>
      cond b_1
        (kret 3)
        (kb (wi64 (t53 + 1))))
      (kx4 ())
def f19_L15 {R : Type} (N : Nat) (t45 : List (List Int)) (t3_1 : Int) (t0_1 : List (Int × (Int × Unit))) (t1_1 : Int) (t2_1 : List (List Int)) (t46 : Int) (kb : Int → Option R) (kret : Int → Option R) (kx2 : Unit → Option R) : Int → Option R :=
  fun t47 =>
    cond (decide (t47 < t46))
      ((idx t45 t47).bind fun x_1 =>
      iter (fun w => f19_L18 N x_1 t45 t3_1 t0_1 t1_1 t2_1 t46 t47 (len x_1) w
        (fun t8_1 =>
          kret t8_1)
        (fun (_ : Unit) =>
          kb (wi64 (t47 + 1)))) N 0)
      (kx2 ())
def f19 (N : Nat) (a0 : List (Int × (Int × Unit))) (a1 : Int) (a2 : List (List Int)) (a3 : Int) : Option (Int) :=
  (f13 N a0).bind fun r =>
  cond (!(decide (r = 0)))
    (some r)
    ((cond (decide (a1 < 1))
        (some true)
        (some (decide (32 < a1)))).bind fun b =>
    cond b
      (some 3)
      (cond (!(decide ((len a2) = (wi64 (a1 + 1)))))
        (some 2)
        (iter (fun w => f19_L9 N a0 a2 a3 a1 a2 (len a2) w
          (fun t8 =>
            some t8)
          (fun (_ : Unit) =>
            iter (fun w => f19_L15 N a2 a3 a0 a1 a2 (len a2) w
              (fun t8_2 =>
                some t8_2)
              (fun (_ : Unit) =>
                (f32 N a0 a1 a2).bind fun r_1 =>
                (cond (!r_1)
                    (some true)
                    ((idx a2 a1).bind fun x_3 =>
                    (idx x_3 (len a0)).bind fun x_4 =>
                    some (decide (x_4 < a3)))).bind fun b_2 =>
                cond b_2
                  (some 13)
                  (some 0))) N 0)) N 0)))
def c19 (N : Nat) : Callee := .pure (.pr (.val (.sl false (.pair (.int .i64) (.pair (.int .i64) .unit)))) (.pr (.val (.int .i64)) (.pr (.val (.sl false (.sl false (.int .i64)))) (.pr (.val (.int .i64)) .un)))) [(.int .i64)] fun d => f19 N d.1 d.2.1 d.2.2.1 d.2.2.2.1
def F19_9 : SForm := ⟨[(34, (.val (.int .i64))), (0, (.val (.sl false (.pair (.int .i64) (.pair (.int .i64) .unit))))), (32, (.val (.sl false (.sl false (.int .i64))))), (3, (.val (.int .i64))), (1, (.val (.int .i64))), (2, (.val (.sl false (.sl false (.int .i64))))), (33, (.val (.int .i64)))], []⟩
def G19_9 (N : Nat) : (R : Type) → F19_9.den → (AExit → St → Option R) → Option R := fun R d k => iter (fun kb => f19_L9 N d.1.2.1 d.1.2.2.1 d.1.2.2.2.1 d.1.2.2.2.2.1 d.1.2.2.2.2.2.1 d.1.2.2.2.2.2.2.1 kb
    (fun y0 => k .ret (St.of [(8, (.data (.int .i64) y0))] []))
    (fun _ => k (.exit 0) (St.of [(3, (.data (.int .i64) d.1.2.2.2.1)), (0, (.data (.sl false (.pair (.int .i64) (.pair (.int .i64) .unit))) d.1.2.1)), (1, (.data (.int .i64) d.1.2.2.2.2.1)), (2, (.data (.sl false (.sl false (.int .i64))) d.1.2.2.2.2.2.1))] []))) N d.1.1
def F19_18 : SForm := ⟨[(53, (.val (.int .i64))), (51, (.val (.sl false (.int .i64)))), (45, (.val (.sl false (.sl false (.int .i64))))), (3, (.val (.int .i64))), (0, (.val (.sl false (.pair (.int .i64) (.pair (.int .i64) .unit))))), (1, (.val (.int .i64))), (2, (.val (.sl false (.sl false (.int .i64))))), (46, (.val (.int .i64))), (47, (.val (.int .i64))), (52, (.val (.int .i64)))], []⟩
def G19_18 (N : Nat) : (R : Type) → F19_18.den → (AExit → St → Option R) → Option R := fun R d k => iter (fun kb => f19_L18 N d.1.2.1 d.1.2.2.1 d.1.2.2.2.1 d.1.2.2.2.2.1 d.1.2.2.2.2.2.1 d.1.2.2.2.2.2.2.1 d.1.2.2.2.2.2.2.2.1 d.1.2.2.2.2.2.2.2.2.1 d.1.2.2.2.2.2.2.2.2.2.1 kb
    (fun y0 => k .ret (St.of [(8, (.data (.int .i64) y0))] []))
    (fun _ => k (.exit 4) (St.of [(45, (.data (.sl false (.sl false (.int .i64))) d.1.2.2.1)), (3, (.data (.int .i64) d.1.2.2.2.1)), (0, (.data (.sl false (.pair (.int .i64) (.pair (.int .i64) .unit))) d.1.2.2.2.2.1)), (1, (.data (.int .i64) d.1.2.2.2.2.2.1)), (2, (.data (.sl false (.sl false (.int .i64))) d.1.2.2.2.2.2.2.1)), (46, (.data (.int .i64) d.1.2.2.2.2.2.2.2.1)), (47, (.data (.int .i64) d.1.2.2.2.2.2.2.2.2.1))] []))) N d.1.1
def F19_15 : SForm := ⟨[(47, (.val (.int .i64))), (45, (.val (.sl false (.sl false (.int .i64))))), (3, (.val (.int .i64))), (0, (.val (.sl false (.pair (.int .i64) (.pair (.int .i64) .unit))))), (1, (.val (.int .i64))), (2, (.val (.sl false (.sl false (.int .i64))))), (46, (.val (.int .i64)))], []⟩
def G19_15 (N : Nat) : (R : Type) → F19_15.den → (AExit → St → Option R) → Option R := fun R d k => iter (fun kb => f19_L15 N d.1.2.1 d.1.2.2.1 d.1.2.2.2.1 d.1.2.2.2.2.1 d.1.2.2.2.2.2.1 d.1.2.2.2.2.2.2.1 kb
    (fun y0 => k .ret (St.of [(8, (.data (.int .i64) y0))] []))
    (fun _ => k (.exit 2) (St.of [(3, (.data (.int .i64) d.1.2.2.1)), (0, (.data (.sl false (.pair (.int .i64) (.pair (.int .i64) .unit))) d.1.2.2.2.1)), (1, (.data (.int .i64) d.1.2.2.2.2.1)), (2, (.data (.sl false (.sl false (.int .i64))) d.1.2.2.2.2.2.1))] []))) N d.1.1
def lp19 (N : Nat) : Nat → Option LoopFn := fun r => cond (Nat.beq r 9) (some fun R sl os k => F19_9.take sl os fun d => G19_9 N R d k) (cond (Nat.beq r 18) (some fun R sl os k => F19_18.take sl os fun d => G19_18 N R d k) (cond (Nat.beq r 15) (some fun R sl os k => F19_15.take sl os fun d => G19_15 N R d k) (none)))
def x19 (N : Nat) : Ctx := { fuel := N, tt := getL ttL, mt := getL mtL, ntmps := 82, env := fun f => (getL [(13, [c13 N]), (32, [c32 N])] f).getD [], cut := getL [(9, ⟨[34, 0, 32, 3, 1, 2, 33], []⟩), (15, ⟨[47, 45, 3, 0, 1, 2, 46], []⟩), (18, ⟨[53, 51, 45, 3, 0, 1, 2, 46, 47, 52], []⟩)], exits := fun r => getL ((getL [(9, [(0, ⟨[3, 0, 1, 2], []⟩)]), (15, [(2, ⟨[3, 0, 1, 2], []⟩)]), (18, [(4, ⟨[45, 3, 0, 1, 2, 46, 47], []⟩)])] r).getD []), res := ⟨[8], []⟩, own := fun _ => none, lp := lp19 N, eqs := fun T => memN T eqL }
noncomputable def b19 : Code := ((Go.Proofs.Try.f19).body).getD .skip
theorem s19_9 (N : Nat) {R : Type} (k : AExit → St → Option R) (t0 : List (Int × (Int × Unit))) (t32 : List (List Int)) (t3 : Int) (t1 : Int) (t2 : List (List Int)) (t33 : Int) (kb : List (Nat × AVal) → List Obj → Option R) (x : Int) : codeK (x19 N) (loopAt 9 (loopsOf b19)) (St.of [(34, (.data (.int .i64) x)), (0, (.data (.sl false (.pair (.int .i64) (.pair (.int .i64) .unit))) t0)), (32, (.data (.sl false (.sl false (.int .i64))) t32)), (3, (.data (.int .i64) t3)), (1, (.data (.int .i64) t1)), (2, (.data (.sl false (.sl false (.int .i64))) t2)), (33, (.data (.int .i64) t33))] []) (kLoop (x19 N) 9 ⟨[34, 0, 32, 3, 1, 2, 33], []⟩ kb k) = f19_L9 N t0 t32 t3 t1 t2 t33 (fun y => kb [(34, (.data (.int .i64) y)), (0, (.data (.sl false (.pair (.int .i64) (.pair (.int .i64) .unit))) t0)), (32, (.data (.sl false (.sl false (.int .i64))) t32)), (3, (.data (.int .i64) t3)), (1, (.data (.int .i64) t1)), (2, (.data (.sl false (.sl false (.int .i64))) t2)), (33, (.data (.int .i64) t33))] [])
    (fun y0 => k .ret (St.of [(8, (.data (.int .i64) y0))] []))
    (fun _ => k (.exit 0) (St.of [(3, (.data (.int .i64) t3)), (0, (.data (.sl false (.pair (.int .i64) (.pair (.int .i64) .unit))) t0)), (1, (.data (.int .i64) t1)), (2, (.data (.sl false (.sl false (.int .i64))) t2))] [])) x := by kernel_rfl
theorem l19_9 (N : Nat) : LoopOK (x19 N) (loopAt 9 (loopsOf b19)) :=
  loop_mk (G19_9 N) (by kernel_rfl) (by kernel_rfl) (by kernel_rfl) fun R k d =>
    loop_eq (st := fun (x : Int) => ([(34, (.data (.int .i64) x)), (0, (.data (.sl false (.pair (.int .i64) (.pair (.int .i64) .unit))) d.1.2.1)), (32, (.data (.sl false (.sl false (.int .i64))) d.1.2.2.1)), (3, (.data (.int .i64) d.1.2.2.2.1)), (1, (.data (.int .i64) d.1.2.2.2.2.1)), (2, (.data (.sl false (.sl false (.int .i64))) d.1.2.2.2.2.2.1)), (33, (.data (.int .i64) d.1.2.2.2.2.2.2.1))], [])) (s19_9 N k d.1.2.1 d.1.2.2.1 d.1.2.2.2.1 d.1.2.2.2.2.1 d.1.2.2.2.2.2.1 d.1.2.2.2.2.2.2.1) N d.1.1
theorem s19_18 (N : Nat) {R : Type} (k : AExit → St → Option R) (t51 : List Int) (t45_1 : List (List Int)) (t3_2 : Int) (t0_2 : List (Int × (Int × Unit))) (t1_2 : Int) (t2_2 : List (List Int)) (t46_1 : Int) (t47_1 : Int) (t52 : Int) (kb : List (Nat × AVal) → List Obj → Option R) (x : Int) : codeK (x19 N) (loopAt 18 (loopsOf b19)) (St.of [(53, (.data (.int .i64) x)), (51, (.data (.sl false (.int .i64)) t51)), (45, (.data (.sl false (.sl false (.int .i64))) t45_1)), (3, (.data (.int .i64) t3_2)), (0, (.data (.sl false (.pair (.int .i64) (.pair (.int .i64) .unit))) t0_2)), (1, (.data (.int .i64) t1_2)), (2, (.data (.sl false (.sl false (.int .i64))) t2_2)), (46, (.data (.int .i64) t46_1)), (47, (.data (.int .i64) t47_1)), (52, (.data (.int .i64) t52))] []) (kLoop (x19 N) 18 ⟨[53, 51, 45, 3, 0, 1, 2, 46, 47, 52], []⟩ kb k) = f19_L18 N t51 t45_1 t3_2 t0_2 t1_2 t2_2 t46_1 t47_1 t52 (fun y => kb [(53, (.data (.int .i64) y)), (51, (.data (.sl false (.int .i64)) t51)), (45, (.data (.sl false (.sl false (.int .i64))) t45_1)), (3, (.data (.int .i64) t3_2)), (0, (.data (.sl false (.pair (.int .i64) (.pair (.int .i64) .unit))) t0_2)), (1, (.data (.int .i64) t1_2)), (2, (.data (.sl false (.sl false (.int .i64))) t2_2)), (46, (.data (.int .i64) t46_1)), (47, (.data (.int .i64) t47_1)), (52, (.data (.int .i64) t52))] [])
    (fun y0 => k .ret (St.of [(8, (.data (.int .i64) y0))] []))
    (fun _ => k (.exit 4) (St.of [(45, (.data (.sl false (.sl false (.int .i64))) t45_1)), (3, (.data (.int .i64) t3_2)), (0, (.data (.sl false (.pair (.int .i64) (.pair (.int .i64) .unit))) t0_2)), (1, (.data (.int .i64) t1_2)), (2, (.data (.sl false (.sl false (.int .i64))) t2_2)), (46, (.data (.int .i64) t46_1)), (47, (.data (.int .i64) t47_1))] [])) x := by kernel_rfl
theorem l19_18 (N : Nat) : LoopOK (x19 N) (loopAt 18 (loopsOf b19)) :=
  loop_mk (G19_18 N) (by kernel_rfl) (by kernel_rfl) (by kernel_rfl) fun R k d =>
    loop_eq (st := fun (x : Int) => ([(53, (.data (.int .i64) x)), (51, (.data (.sl false (.int .i64)) d.1.2.1)), (45, (.data (.sl false (.sl false (.int .i64))) d.1.2.2.1)), (3, (.data (.int .i64) d.1.2.2.2.1)), (0, (.data (.sl false (.pair (.int .i64) (.pair (.int .i64) .unit))) d.1.2.2.2.2.1)), (1, (.data (.int .i64) d.1.2.2.2.2.2.1)), (2, (.data (.sl false (.sl false (.int .i64))) d.1.2.2.2.2.2.2.1)), (46, (.data (.int .i64) d.1.2.2.2.2.2.2.2.1)), (47, (.data (.int .i64) d.1.2.2.2.2.2.2.2.2.1)), (52, (.data (.int .i64) d.1.2.2.2.2.2.2.2.2.2.1))], [])) (s19_18 N k d.1.2.1 d.1.2.2.1 d.1.2.2.2.1 d.1.2.2.2.2.1 d.1.2.2.2.2.2.1 d.1.2.2.2.2.2.2.1 d.1.2.2.2.2.2.2.2.1 d.1.2.2.2.2.2.2.2.2.1 d.1.2.2.2.2.2.2.2.2.2.1) N d.1.1
theorem s19_15 (N : Nat) {R : Type} (k : AExit → St → Option R) (t45 : List (List Int)) (t3_1 : Int) (t0_1 : List (Int × (Int × Unit))) (t1_1 : Int) (t2_1 : List (List Int)) (t46 : Int) (kb : List (Nat × AVal) → List Obj → Option R) (x : Int) : codeK (x19 N) (loopAt 15 (loopsOf b19)) (St.of [(47, (.data (.int .i64) x)), (45, (.data (.sl false (.sl false (.int .i64))) t45)), (3, (.data (.int .i64) t3_1)), (0, (.data (.sl false (.pair (.int .i64) (.pair (.int .i64) .unit))) t0_1)), (1, (.data (.int .i64) t1_1)), (2, (.data (.sl false (.sl false (.int .i64))) t2_1)), (46, (.data (.int .i64) t46))] []) (kLoop (x19 N) 15 ⟨[47, 45, 3, 0, 1, 2, 46], []⟩ kb k) = f19_L15 N t45 t3_1 t0_1 t1_1 t2_1 t46 (fun y => kb [(47, (.data (.int .i64) y)), (45, (.data (.sl false (.sl false (.int .i64))) t45)), (3, (.data (.int .i64) t3_1)), (0, (.data (.sl false (.pair (.int .i64) (.pair (.int .i64) .unit))) t0_1)), (1, (.data (.int .i64) t1_1)), (2, (.data (.sl false (.sl false (.int .i64))) t2_1)), (46, (.data (.int .i64) t46))] [])
    (fun y0 => k .ret (St.of [(8, (.data (.int .i64) y0))] []))
    (fun _ => k (.exit 2) (St.of [(3, (.data (.int .i64) t3_1)), (0, (.data (.sl false (.pair (.int .i64) (.pair (.int .i64) .unit))) t0_1)), (1, (.data (.int .i64) t1_1)), (2, (.data (.sl false (.sl false (.int .i64))) t2_1))] [])) x := by kernel_rfl
theorem l19_15 (N : Nat) : LoopOK (x19 N) (loopAt 15 (loopsOf b19)) :=
  loop_mk (G19_15 N) (by kernel_rfl) (by kernel_rfl) (by kernel_rfl) fun R k d =>
    loop_eq (st := fun (x : Int) => ([(47, (.data (.int .i64) x)), (45, (.data (.sl false (.sl false (.int .i64))) d.1.2.1)), (3, (.data (.int .i64) d.1.2.2.1)), (0, (.data (.sl false (.pair (.int .i64) (.pair (.int .i64) .unit))) d.1.2.2.2.1)), (1, (.data (.int .i64) d.1.2.2.2.2.1)), (2, (.data (.sl false (.sl false (.int .i64))) d.1.2.2.2.2.2.1)), (46, (.data (.int .i64) d.1.2.2.2.2.2.2.1))], [])) (s19_15 N k d.1.2.1 d.1.2.2.1 d.1.2.2.2.1 d.1.2.2.2.2.1 d.1.2.2.2.2.2.1 d.1.2.2.2.2.2.2.1) N d.1.1
theorem e19 (N : Nat) (a0 : List (Int × (Int × Unit))) (a1 : Int) (a2 : List (List Int)) (a3 : Int) : bodyK (x19 N) [(.int .i64)] [.tmp 8] b19 (entry (.pr (.val (.sl false (.pair (.int .i64) (.pair (.int .i64) .unit)))) (.pr (.val (.int .i64)) (.pr (.val (.sl false (.sl false (.int .i64)))) (.pr (.val (.int .i64)) .un)))) (a0, (a1, (a2, (a3, ()))))) = f19 N a0 a1 a2 a3 := by kernel_rfl
theorem k19 (N : Nat) : CalleeOK Go.Proofs.Try.prog 19 (c19 N) :=
  fn_ok (fn := Go.Proofs.Try.f19) (body := b19) (c := x19 N) Go.Proofs.Try.func19 (by kernel_rfl) (by kernel_rfl) ⟨ttL_ok, mtL_ok, eqL_ok, env_cons (forall_mem1 (k13 N)) (env_cons (forall_mem1 (k32 N)) (env_nil))⟩ mixed (by kernel_rfl) (Nat.le_of_ble_eq_true (by kernel_rfl)) (by kernel_rfl) (by decide)
    (loops_ok (by kernel_rfl : loopsOf b19 = [loopAt 9 (loopsOf b19), loopAt 15 (loopsOf b19), loopAt 18 (loopsOf b19)]) (.cons (l19_9 N) (.cons (l19_15 N) (.cons (l19_18 N) .nil)))) fun d => e19 N d.1 d.2.1 d.2.2.1 d.2.2.2.1
/-! ### 4: keyhole/keyholelaw44.BucketProves -/
def f4 (N : Nat) (a0 : List (Int × (Int × Unit))) (a1 : Int) (a2 : (List (List Int) × (Int × Unit))) : Option (Bool) :=
  (f9 N).bind fun r =>
  cond (!r)
    (some false)
    ((cond (decide (8 < (len a0)))
        (some true)
        (some (decide (8 < a1)))).bind fun b =>
    (cond b
        (some true)
        (some (decide (10 < (len a2.1))))).bind fun b_1 =>
    (cond b_1
        (some true)
        ((f16 N a2.1 ()).bind fun r_1 =>
        some r_1)).bind fun b_2 =>
    cond b_2
      (some true)
      ((f18 N a0 a1 a2.1 a2.2.1).bind fun r_2 =>
      (f19 N a0 a1 a2.1 a2.2.1).bind fun r_3 =>
      some (decide (r_2 = r_3))))
def c4 (N : Nat) : Callee := .pure (.pr (.val (.sl false (.pair (.int .i64) (.pair (.int .i64) .unit)))) (.pr (.val (.int .i64)) (.pr (.val (.pair (.sl false (.sl false (.int .i64))) (.pair (.int .i64) .unit))) .un))) [.bool] fun d => f4 N d.1 d.2.1 d.2.2.1
def lp4 (N : Nat) : Nat → Option LoopFn := fun r => none
def x4 (N : Nat) : Ctx := { fuel := N, tt := getL ttL, mt := getL mtL, ntmps := 42, env := fun f => (getL [(9, [c9 N]), (16, [c16 N]), (18, [c18 N]), (19, [c19 N])] f).getD [], cut := getL [], exits := fun r => getL ((getL [] r).getD []), res := ⟨[6], []⟩, own := fun _ => none, lp := lp4 N, eqs := fun T => memN T eqL }
noncomputable def b4 : Code := ((Go.Proofs.Try.f4).body).getD .skip
theorem e4 (N : Nat) (a0 : List (Int × (Int × Unit))) (a1 : Int) (a2 : (List (List Int) × (Int × Unit))) : bodyK (x4 N) [.bool] [.tmp 6] b4 (entry (.pr (.val (.sl false (.pair (.int .i64) (.pair (.int .i64) .unit)))) (.pr (.val (.int .i64)) (.pr (.val (.pair (.sl false (.sl false (.int .i64))) (.pair (.int .i64) .unit))) .un))) (a0, (a1, (a2, ())))) = f4 N a0 a1 a2 := by kernel_rfl
theorem k4 (N : Nat) : CalleeOK Go.Proofs.Try.prog 4 (c4 N) :=
  fn_ok (fn := Go.Proofs.Try.f4) (body := b4) (c := x4 N) Go.Proofs.Try.func4 (by kernel_rfl) (by kernel_rfl) ⟨ttL_ok, mtL_ok, eqL_ok, env_cons (forall_mem1 (k9 N)) (env_cons (forall_mem1 (k16 N)) (env_cons (forall_mem1 (k18 N)) (env_cons (forall_mem1 (k19 N)) (env_nil))))⟩ mixed (by kernel_rfl) (Nat.le_of_ble_eq_true (by kernel_rfl)) (by kernel_rfl) (by decide)
    (loops_ok (by kernel_rfl : loopsOf b4 = []) .nil) fun d => e4 N d.1 d.2.1 d.2.2.1
-- FAILS 20 slices.Max[[]int,int]: [Go.Op.makeInterface (OfNat.ofNat.{0} Nat 9 (instOfNatNat 9)) (Go.Operand.const (Go.Value.string (ByteArray.mk (List.toArray.{0} UInt8 (List.cons.{0} UInt8 (OfNat.ofNat.{0} UInt8 115 (UInt8.instOfNat 115)) (List.cons.{0} UInt8 (OfNat.ofNat.{0} UInt8 108 (UInt8.instOfNat 108)) (List.cons.{0} UInt8 (OfNat.ofNat.{0} UInt8 105 (UInt8.instOfNat 105)) (List.cons.{0} UInt8 (OfNat.ofNat.{0} UInt8 99 (UInt8.instOfNat 99)) (List.cons.{0} UInt8 (OfNat.ofNat.{0} UInt8 101 (UInt8.instOfNat 101)) (List.cons.{0} UInt8 (OfNat.ofNat.{0} UInt8 115 (UInt8.instOfNat 115)) (List.cons.{0} UInt8 (OfNat.ofNat.{0} UInt8 46 (UInt8.instOfNat 46)) (List.cons.{0} UInt8 (OfNat.ofNat.{0} UInt8 77 (UInt8.instOfNat 77)) (List.cons.{0} UInt8 (OfNat.ofNat.{0} UInt8 97 (UInt8.instOfNat 97)) (List.cons.{0} UInt8 (OfNat.ofNat.{0} UInt8 120 (UInt8.instOfNat 120)) (List.cons.{0} UInt8 (OfNat.ofNat.{0} UInt8 58 (UInt8.instOfNat 58)) (List.cons.{0} UInt8 (OfNat.ofNat.{0} UInt8 32 (UInt8.instOfNat 32)) (List.cons.{0} UInt8 (OfNat.ofNat.{0} UInt8 101 (UInt8.instOfNat 101)) (List.cons.{0} UInt8 (OfNat.ofNat.{0} UInt8 109 (UInt8.instOfNat 109)) (List.cons.{0} UInt8 (OfNat.ofNat.{0} UInt8 112 (UInt8.instOfNat 112)) (List.cons.{0} UInt8 (OfNat.ofNat.{0} UInt8 116 (UInt8.instOfNat 116)) (List.cons.{0} UInt8 (OfNat.ofNat.{0} UInt8 121 (UInt8.instOfNat 121)) (List.cons.{0} UInt8 (OfNat.ofNat.{0} UInt8 32 (UInt8.instOfNat 32)) (List.cons.{0} UInt8 (OfNat.ofNat.{0} UInt8 108 (UInt8.instOfNat 108)) (List.cons.{0} UInt8 (OfNat.ofNat.{0} UInt8 105 (UInt8.instOfNat 105)) (List.cons.{0} UInt8 (OfNat.ofNat.{0} UInt8 115 (UInt8.instOfNat 115)) (List.cons.{0} UInt8 (OfNat.ofNat.{0} UInt8 116 (UInt8.instOfNat 116)) (List.nil.{0} UInt8)))))))))))))))))))))))))))]
/-! ### 20: slices.Max[[]int,int] -/
def f20_L5 {R : Type} (N : Nat) (t0 : List Int) (kb : Int × Int → Option R) (kx0 : Int → Option R) : Int × Int → Option R :=
  fun (t4, t3) =>
    cond (decide (t4 < (len t0)))
      ((idx t0 t4).bind fun x_1 =>
      kb ((wi64 (t4 + 1)), (maxI t3 x_1)))
      (kx0 t3)
def f20 (N : Nat) (a0 : List Int) : Option (Int) :=
  cond (decide ((len a0) < 1))
    (none /- Go.Op.makeInterface (OfNat.ofNat.{0} Nat 9 (instOfNatNat 9)) (Go.Operand.const (Go.Value.string (ByteArray.mk (List.toArray.{0} UInt8 (List.cons.{0} UInt8 (OfNat.ofNat.{0} UInt8 115 (UInt8.instOfNat 115)) (List.cons.{0} UInt8 (OfNat.ofNat.{0} UInt8 108 (UInt8.instOfNat 108)) (List.cons.{0} UInt8 (OfNat.ofNat.{0} UInt8 105 (UInt8.instOfNat 105)) (List.cons.{0} UInt8 (OfNat.ofNat.{0} UInt8 99 (UInt8.instOfNat 99)) (List.cons.{0} UInt8 (OfNat.ofNat.{0} UInt8 101 (UInt8.instOfNat 101)) (List.cons.{0} UInt8 (OfNat.ofNat.{0} UInt8 115 (UInt8.instOfNat 115)) (List.cons.{0} UInt8 (OfNat.ofNat.{0} UInt8 46 (UInt8.instOfNat 46)) (List.cons.{0} UInt8 (OfNat.ofNat.{0} UInt8 77 (UInt8.instOfNat 77)) (List.cons.{0} UInt8 (OfNat.ofNat.{0} UInt8 97 (UInt8.instOfNat 97)) (List.cons.{0} UInt8 (OfNat.ofNat.{0} UInt8 120 (UInt8.instOfNat 120)) (List.cons.{0} UInt8 (OfNat.ofNat.{0} UInt8 58 (UInt8.instOfNat 58)) (List.cons.{0} UInt8 (OfNat.ofNat.{0} UInt8 32 (UInt8.instOfNat 32)) (List.cons.{0} UInt8 (OfNat.ofNat.{0} UInt8 101 (UInt8.instOfNat 101)) (List.cons.{0} UInt8 (OfNat.ofNat.{0} UInt8 109 (UInt8.instOfNat 109)) (List.cons.{0} UInt8 (OfNat.ofNat.{0} UInt8 112 (UInt8.instOfNat 112)) (List.cons.{0} UInt8 (OfNat.ofNat.{0} UInt8 116 (UInt8.instOfNat 116)) (List.cons.{0} UInt8 (OfNat.ofNat.{0} UInt8 121 (UInt8.instOfNat 121)) (List.cons.{0} UInt8 (OfNat.ofNat.{0} UInt8 32 (UInt8.instOfNat 32)) (List.cons.{0} UInt8 (OfNat.ofNat.{0} UInt8 108 (UInt8.instOfNat 108)) (List.cons.{0} UInt8 (OfNat.ofNat.{0} UInt8 105 (UInt8.instOfNat 105)) (List.cons.{0} UInt8 (OfNat.ofNat.{0} UInt8 115 (UInt8.instOfNat 115)) (List.cons.{0} UInt8 (OfNat.ofNat.{0} UInt8 116 (UInt8.instOfNat 116)) (List.nil.{0} UInt8))))))))))))))))))))))))))) -/)
    ((idx a0 0).bind fun x =>
    iter (fun w => f20_L5 N a0 w
      (fun t3_1 =>
        some t3_1)) N (1, x))
def c20 (N : Nat) : Callee := .pure (.pr (.val (.sl false (.int .i64))) .un) [(.int .i64)] fun d => f20 N d.1
def F20_5 : SForm := ⟨[(4, (.val (.int .i64))), (0, (.val (.sl false (.int .i64)))), (3, (.val (.int .i64)))], []⟩
def G20_5 (N : Nat) : (R : Type) → F20_5.den → (AExit → St → Option R) → Option R := fun R d k => iter (fun kb => f20_L5 N d.1.2.1 kb
    (fun y0 => k (.exit 0) (St.of [(3, (.data (.int .i64) y0))] []))) N (d.1.1, d.1.2.2.1)
def lp20 (N : Nat) : Nat → Option LoopFn := fun r => cond (Nat.beq r 5) (some fun R sl os k => F20_5.take sl os fun d => G20_5 N R d k) (none)
def x20 (N : Nat) : Ctx := { fuel := N, tt := getL ttL, mt := getL mtL, ntmps := 25, env := fun f => (getL [] f).getD [], cut := getL [(5, ⟨[4, 0, 3], []⟩)], exits := fun r => getL ((getL [(5, [(0, ⟨[3], []⟩)])] r).getD []), res := ⟨[2], []⟩, own := fun _ => none, lp := lp20 N, eqs := fun T => memN T eqL }
noncomputable def b20 : Code := ((Go.Proofs.Try.f20).body).getD .skip
theorem s20_5 (N : Nat) {R : Type} (k : AExit → St → Option R) (t0 : List Int) (kb : List (Nat × AVal) → List Obj → Option R) (x : Int × Int) : codeK (x20 N) (loopAt 5 (loopsOf b20)) (St.of [(4, (.data (.int .i64) x.1)), (0, (.data (.sl false (.int .i64)) t0)), (3, (.data (.int .i64) x.2))] []) (kLoop (x20 N) 5 ⟨[4, 0, 3], []⟩ kb k) = f20_L5 N t0 (fun y => kb [(4, (.data (.int .i64) y.1)), (0, (.data (.sl false (.int .i64)) t0)), (3, (.data (.int .i64) y.2))] [])
    (fun y0 => k (.exit 0) (St.of [(3, (.data (.int .i64) y0))] [])) x := by kernel_rfl
theorem l20_5 (N : Nat) : LoopOK (x20 N) (loopAt 5 (loopsOf b20)) :=
  loop_mk (G20_5 N) (by kernel_rfl) (by kernel_rfl) (by kernel_rfl) fun R k d =>
    loop_eq (st := fun (x : Int × Int) => ([(4, (.data (.int .i64) x.1)), (0, (.data (.sl false (.int .i64)) d.1.2.1)), (3, (.data (.int .i64) x.2))], [])) (s20_5 N k d.1.2.1) N (d.1.1, d.1.2.2.1)
theorem e20 (N : Nat) (a0 : List Int) : bodyK (x20 N) [(.int .i64)] [.tmp 2] b20 (entry (.pr (.val (.sl false (.int .i64))) .un) (a0, ())) = f20 N a0 := by kernel_rfl
theorem k20 (N : Nat) : CalleeOK Go.Proofs.Try.prog 20 (c20 N) :=
  fn_ok (fn := Go.Proofs.Try.f20) (body := b20) (c := x20 N) Go.Proofs.Try.func20 (by kernel_rfl) (by kernel_rfl) ⟨ttL_ok, mtL_ok, eqL_ok, env_nil⟩ mixed (by kernel_rfl) (Nat.le_of_ble_eq_true (by kernel_rfl)) (by kernel_rfl) (by decide)
    (loops_ok (by kernel_rfl : loopsOf b20 = [loopAt 5 (loopsOf b20)]) (.cons (l20_5 N) .nil)) fun d => e20 N d.1
/-! ### 33: slices.Index[[]int,int] -/
def f33_L2 {R : Type} (N : Nat) (t0 : List Int) (t1 : Int) (t7 : Int) (kb : Int → Option R) (kret : Int → Option R) (kx0 : Unit → Option R) : Int → Option R :=
  fun t8 =>
    cond (decide (t8 < t7))
      ((idx t0 t8).bind fun x =>
      cond (decide (t1 = x))
        (kret t8)
        (kb (wi64 (t8 + 1))))
      (kx0 ())
def f33 (N : Nat) (a0 : List Int) (a1 : Int) : Option (Int) :=
  iter (fun w => f33_L2 N a0 a1 (len a0) w
    (fun t4 =>
      some t4)
    (fun (_ : Unit) =>
      some (-1))) N 0
def c33 (N : Nat) : Callee := .pure (.pr (.val (.sl false (.int .i64))) (.pr (.val (.int .i64)) .un)) [(.int .i64)] fun d => f33 N d.1 d.2.1
def F33_2 : SForm := ⟨[(8, (.val (.int .i64))), (0, (.val (.sl false (.int .i64)))), (1, (.val (.int .i64))), (7, (.val (.int .i64)))], []⟩
def G33_2 (N : Nat) : (R : Type) → F33_2.den → (AExit → St → Option R) → Option R := fun R d k => iter (fun kb => f33_L2 N d.1.2.1 d.1.2.2.1 d.1.2.2.2.1 kb
    (fun y0 => k .ret (St.of [(4, (.data (.int .i64) y0))] []))
    (fun _ => k (.exit 0) (St.of [] []))) N d.1.1
def lp33 (N : Nat) : Nat → Option LoopFn := fun r => cond (Nat.beq r 2) (some fun R sl os k => F33_2.take sl os fun d => G33_2 N R d k) (none)
def x33 (N : Nat) : Ctx := { fuel := N, tt := getL ttL, mt := getL mtL, ntmps := 19, env := fun f => (getL [] f).getD [], cut := getL [(2, ⟨[8, 0, 1, 7], []⟩)], exits := fun r => getL ((getL [(2, [(0, ⟨[], []⟩)])] r).getD []), res := ⟨[4], []⟩, own := fun _ => none, lp := lp33 N, eqs := fun T => memN T eqL }
noncomputable def b33 : Code := ((Go.Proofs.Try.f33).body).getD .skip
theorem s33_2 (N : Nat) {R : Type} (k : AExit → St → Option R) (t0 : List Int) (t1 : Int) (t7 : Int) (kb : List (Nat × AVal) → List Obj → Option R) (x : Int) : codeK (x33 N) (loopAt 2 (loopsOf b33)) (St.of [(8, (.data (.int .i64) x)), (0, (.data (.sl false (.int .i64)) t0)), (1, (.data (.int .i64) t1)), (7, (.data (.int .i64) t7))] []) (kLoop (x33 N) 2 ⟨[8, 0, 1, 7], []⟩ kb k) = f33_L2 N t0 t1 t7 (fun y => kb [(8, (.data (.int .i64) y)), (0, (.data (.sl false (.int .i64)) t0)), (1, (.data (.int .i64) t1)), (7, (.data (.int .i64) t7))] [])
    (fun y0 => k .ret (St.of [(4, (.data (.int .i64) y0))] []))
    (fun _ => k (.exit 0) (St.of [] [])) x := by kernel_rfl
theorem l33_2 (N : Nat) : LoopOK (x33 N) (loopAt 2 (loopsOf b33)) :=
  loop_mk (G33_2 N) (by kernel_rfl) (by kernel_rfl) (by kernel_rfl) fun R k d =>
    loop_eq (st := fun (x : Int) => ([(8, (.data (.int .i64) x)), (0, (.data (.sl false (.int .i64)) d.1.2.1)), (1, (.data (.int .i64) d.1.2.2.1)), (7, (.data (.int .i64) d.1.2.2.2.1))], [])) (s33_2 N k d.1.2.1 d.1.2.2.1 d.1.2.2.2.1) N d.1.1
theorem e33 (N : Nat) (a0 : List Int) (a1 : Int) : bodyK (x33 N) [(.int .i64)] [.tmp 4] b33 (entry (.pr (.val (.sl false (.int .i64))) (.pr (.val (.int .i64)) .un)) (a0, (a1, ()))) = f33 N a0 a1 := by kernel_rfl
theorem k33 (N : Nat) : CalleeOK Go.Proofs.Try.prog 33 (c33 N) :=
  fn_ok (fn := Go.Proofs.Try.f33) (body := b33) (c := x33 N) Go.Proofs.Try.func33 (by kernel_rfl) (by kernel_rfl) ⟨ttL_ok, mtL_ok, eqL_ok, env_nil⟩ mixed (by kernel_rfl) (Nat.le_of_ble_eq_true (by kernel_rfl)) (by kernel_rfl) (by decide)
    (loops_ok (by kernel_rfl : loopsOf b33 = [loopAt 2 (loopsOf b33)]) (.cons (l33_2 N) .nil)) fun d => e33 N d.1 d.2.1
/-! ### 21: slices.Contains[[]int,int] -/
def f21 (N : Nat) (a0 : List Int) (a1 : Int) : Option (Bool) :=
  (f33 N a0 a1).bind fun r =>
  some (decide (0 ≤ r))
def c21 (N : Nat) : Callee := .pure (.pr (.val (.sl false (.int .i64))) (.pr (.val (.int .i64)) .un)) [.bool] fun d => f21 N d.1 d.2.1
def lp21 (N : Nat) : Nat → Option LoopFn := fun r => none
def x21 (N : Nat) : Ctx := { fuel := N, tt := getL ttL, mt := getL mtL, ntmps := 9, env := fun f => (getL [(33, [c33 N])] f).getD [], cut := getL [], exits := fun r => getL ((getL [] r).getD []), res := ⟨[4], []⟩, own := fun _ => none, lp := lp21 N, eqs := fun T => memN T eqL }
noncomputable def b21 : Code := ((Go.Proofs.Try.f21).body).getD .skip
theorem e21 (N : Nat) (a0 : List Int) (a1 : Int) : bodyK (x21 N) [.bool] [.tmp 4] b21 (entry (.pr (.val (.sl false (.int .i64))) (.pr (.val (.int .i64)) .un)) (a0, (a1, ()))) = f21 N a0 a1 := by kernel_rfl
theorem k21 (N : Nat) : CalleeOK Go.Proofs.Try.prog 21 (c21 N) :=
  fn_ok (fn := Go.Proofs.Try.f21) (body := b21) (c := x21 N) Go.Proofs.Try.func21 (by kernel_rfl) (by kernel_rfl) ⟨ttL_ok, mtL_ok, eqL_ok, env_cons (forall_mem1 (k33 N)) (env_nil)⟩ mixed (by kernel_rfl) (Nat.le_of_ble_eq_true (by kernel_rfl)) (by kernel_rfl) (by decide)
    (loops_ok (by kernel_rfl : loopsOf b21 = []) .nil) fun d => e21 N d.1 d.2.1
/-! ### 5: keyhole/keyholelaw44.BucketSettles -/
def f5 (N : Nat) (a0 : List Int) (a1 : Int) (a2 : Int) : Option (Bool) :=
  (f9 N).bind fun r =>
  cond (!r)
    (some false)
    (cond (decide (80 < (len a0)))
      (some true)
      ((f14 N a0 (minI a1 a2)).bind fun r_1 =>
      (f14 N a0 (maxI a1 a2)).bind fun r_2 =>
      (cond (decide (r_1 < (minI a1 a2)))
          (some true)
          (some (decide (r_2 < (maxI a1 a2))))).bind fun b =>
      (cond b
          (some true)
          (some (decide (r_2 < r_1)))).bind fun b_1 =>
      (cond b_1
          (some true)
          ((f14 N a0 r_1).bind fun r_3 =>
          some (!(decide (r_3 = r_1))))).bind fun b_2 =>
      cond b_2
        (some false)
        ((cond (decide ((len a0) = 0))
            (some true)
            ((f20 N a0).bind fun r_4 =>
            some (decide (r_4 < a2)))).bind fun b_3 =>
        (cond b_3
            (some true)
            ((f14 N a0 a2).bind fun r_5 =>
            (f21 N a0 r_5).bind fun r_6 =>
            some r_6)).bind fun b_4 =>
        some b_4)))
def c5 (N : Nat) : Callee := .pure (.pr (.val (.sl false (.int .i64))) (.pr (.val (.int .i64)) (.pr (.val (.int .i64)) .un))) [.bool] fun d => f5 N d.1 d.2.1 d.2.2.1
def lp5 (N : Nat) : Nat → Option LoopFn := fun r => none
def x5 (N : Nat) : Ctx := { fuel := N, tt := getL ttL, mt := getL mtL, ntmps := 64, env := fun f => (getL [(9, [c9 N]), (14, [c14 N]), (20, [c20 N]), (21, [c21 N])] f).getD [], cut := getL [], exits := fun r => getL ((getL [] r).getD []), res := ⟨[6], []⟩, own := fun _ => none, lp := lp5 N, eqs := fun T => memN T eqL }
noncomputable def b5 : Code := ((Go.Proofs.Try.f5).body).getD .skip
theorem e5 (N : Nat) (a0 : List Int) (a1 : Int) (a2 : Int) : bodyK (x5 N) [.bool] [.tmp 6] b5 (entry (.pr (.val (.sl false (.int .i64))) (.pr (.val (.int .i64)) (.pr (.val (.int .i64)) .un))) (a0, (a1, (a2, ())))) = f5 N a0 a1 a2 := by kernel_rfl
theorem k5 (N : Nat) : CalleeOK Go.Proofs.Try.prog 5 (c5 N) :=
  fn_ok (fn := Go.Proofs.Try.f5) (body := b5) (c := x5 N) Go.Proofs.Try.func5 (by kernel_rfl) (by kernel_rfl) ⟨ttL_ok, mtL_ok, eqL_ok, env_cons (forall_mem1 (k9 N)) (env_cons (forall_mem1 (k14 N)) (env_cons (forall_mem1 (k20 N)) (env_cons (forall_mem1 (k21 N)) (env_nil))))⟩ mixed (by kernel_rfl) (Nat.le_of_ble_eq_true (by kernel_rfl)) (by kernel_rfl) (by decide)
    (loops_ok (by kernel_rfl : loopsOf b5 = []) .nil) fun d => e5 N d.1 d.2.1 d.2.2.1
/-! ### 35: keyhole/keyholelaw44.tidy$1 -/
def f35 (N : Nat) (a0 : (Int × (Int × Unit))) (a1 : (Int × (Int × Unit))) : Option (Int) :=
  some (wi64 (a0.1 - a1.1))
def c35 (N : Nat) : Callee := .pure (.pr (.val (.pair (.int .i64) (.pair (.int .i64) .unit))) (.pr (.val (.pair (.int .i64) (.pair (.int .i64) .unit))) .un)) [(.int .i64)] fun d => f35 N d.1 d.2.1
def lp35 (N : Nat) : Nat → Option LoopFn := fun r => none
def x35 (N : Nat) : Ctx := { fuel := N, tt := getL ttL, mt := getL mtL, ntmps := 10, env := fun f => (getL [] f).getD [], cut := getL [], exits := fun r => getL ((getL [] r).getD []), res := ⟨[4], []⟩, own := fun _ => none, lp := lp35 N, eqs := fun T => memN T eqL }
noncomputable def b35 : Code := ((Go.Proofs.Try.f35).body).getD .skip
theorem e35 (N : Nat) (a0 : (Int × (Int × Unit))) (a1 : (Int × (Int × Unit))) : bodyK (x35 N) [(.int .i64)] [.tmp 4] b35 (entry (.pr (.val (.pair (.int .i64) (.pair (.int .i64) .unit))) (.pr (.val (.pair (.int .i64) (.pair (.int .i64) .unit))) .un)) (a0, (a1, ()))) = f35 N a0 a1 := by kernel_rfl
theorem k35 (N : Nat) : CalleeOK Go.Proofs.Try.prog 35 (c35 N) :=
  fn_ok (fn := Go.Proofs.Try.f35) (body := b35) (c := x35 N) Go.Proofs.Try.func35 (by kernel_rfl) (by kernel_rfl) ⟨ttL_ok, mtL_ok, eqL_ok, env_nil⟩ mixed (by kernel_rfl) (Nat.le_of_ble_eq_true (by kernel_rfl)) (by kernel_rfl) (by decide)
    (loops_ok (by kernel_rfl : loopsOf b35 = []) .nil) fun d => e35 N d.1 d.2.1
/-! ### 34: slices.SortFunc[[]keyhole/api.Timed,keyhole/api.Timed] -/
noncomputable def f34 (N : Nat) (a1 : Unit) (o0 : List (Int × (Int × Unit))) : Option ((Unit × Unit) × ((List (Int × (Int × Unit))) × Unit)) := (sortF (fun x y => f35 N x y) o0).map fun l => (((), ()), (l, ()))
noncomputable def c34 (N : Nat) : Callee := .mut ⟨[(0, .ref 0), (1, .val (.fn 35 .unit))], [.row (.pair (.int .i64) (.pair (.int .i64) .unit))]⟩ [0] ⟨[(0, .ref 0)], [.row (.pair (.int .i64) (.pair (.int .i64) .unit))]⟩ fun d => f34 N d.1.2.1 d.2.1
theorem k34 (N : Nat) : CalleeOK Go.Proofs.Try.prog 34 (c34 N) :=
  sortFunc_ok Go.Proofs.Try.sortL34 (t := (.pair (.int .i64) (.pair (.int .i64) .unit))) (by kernel_rfl) (by kernel_rfl) (fun w => Go.Proofs.Try.isAgg44 w) (fun w => Go.Proofs.Try.sizeOf44 w) (Go.Proofs.enters_of Go.Proofs.Try.func35 (by kernel_rfl) rfl) (k35 N)
/-! ### 37: keyhole/keyholelaw44.tidy$2 -/
def f37 (N : Nat) (a0 : (Int × (Int × Unit))) (a1 : (Int × (Int × Unit))) : Option (Bool) :=
  some (decide (a0.1 = a1.1))
def c37 (N : Nat) : Callee := .pure (.pr (.val (.pair (.int .i64) (.pair (.int .i64) .unit))) (.pr (.val (.pair (.int .i64) (.pair (.int .i64) .unit))) .un)) [.bool] fun d => f37 N d.1 d.2.1
def lp37 (N : Nat) : Nat → Option LoopFn := fun r => none
def x37 (N : Nat) : Ctx := { fuel := N, tt := getL ttL, mt := getL mtL, ntmps := 10, env := fun f => (getL [] f).getD [], cut := getL [], exits := fun r => getL ((getL [] r).getD []), res := ⟨[4], []⟩, own := fun _ => none, lp := lp37 N, eqs := fun T => memN T eqL }
noncomputable def b37 : Code := ((Go.Proofs.Try.f37).body).getD .skip
theorem e37 (N : Nat) (a0 : (Int × (Int × Unit))) (a1 : (Int × (Int × Unit))) : bodyK (x37 N) [.bool] [.tmp 4] b37 (entry (.pr (.val (.pair (.int .i64) (.pair (.int .i64) .unit))) (.pr (.val (.pair (.int .i64) (.pair (.int .i64) .unit))) .un)) (a0, (a1, ()))) = f37 N a0 a1 := by kernel_rfl
theorem k37 (N : Nat) : CalleeOK Go.Proofs.Try.prog 37 (c37 N) :=
  fn_ok (fn := Go.Proofs.Try.f37) (body := b37) (c := x37 N) Go.Proofs.Try.func37 (by kernel_rfl) (by kernel_rfl) ⟨ttL_ok, mtL_ok, eqL_ok, env_nil⟩ mixed (by kernel_rfl) (Nat.le_of_ble_eq_true (by kernel_rfl)) (by kernel_rfl) (by decide)
    (loops_ok (by kernel_rfl : loopsOf b37 = []) .nil) fun d => e37 N d.1 d.2.1
/-! ### 36: slices.CompactFunc[[]keyhole/api.Timed,keyhole/api.Timed] -/
def f36_L9 {R : Type} (N : Nat) (t6a : Int) (t6b : Int) (t1_2 : Unit) (kb : Int × Int × (List (Int × (Int × Unit))) → Option R) (kx2 : Int → (List (Int × (Int × Unit))) → Option R) : Int × Int × (List (Int × (Int × Unit))) → Option R :=
  fun (t7, t5_1, o0_2) =>
    cond (decide (t7 < (t6b - t6a)))
      (chk ((decide (0 ≤ t7)) && (decide (t7 < (t6b - t6a)))) <|
      (idx o0_2 (t6a + t7)).bind fun x_2 =>
      chk ((decide (0 ≤ (wi64 (t7 - 1)))) && (decide ((wi64 (t7 - 1)) < (t6b - t6a)))) <|
      (idx o0_2 (t6a + (wi64 (t7 - 1)))).bind fun x_3 =>
      (f37 N (x_2.1, x_2.2) (x_3.1, x_3.2)).bind fun r_1 =>
      cond (!r_1)
        (chk ((decide (0 ≤ t7)) && (decide (t7 < (t6b - t6a)))) <|
        (idx o0_2 (t6a + t7)).bind fun x_4 =>
        chk (inb o0_2 t5_1) <|
        (idx o0_2 t5_1).bind fun x_5 =>
        (idx o0_2 t5_1).bind fun x_6 =>
        kb ((wi64 (t7 + 1)), (wi64 (t5_1 + 1)), (setI o0_2 t5_1 (x_4.1, x_4.2))))
        (kb ((wi64 (t7 + 1)), t5_1, o0_2)))
      (kx2 t5_1 o0_2)
def f36_L4 {R : Type} (N : Nat) (t1_1 : Unit) (o0_1 : List (Int × (Int × Unit))) (kb : Int → Option R) (kret : (List (Int × (Int × Unit))) → Option R) (kx0 : Unit → Option R) : Int → Option R :=
  fun t5 =>
    cond (decide (t5 < (len o0_1)))
      (chk (inb o0_1 t5) <|
      (idx o0_1 t5).bind fun x =>
      chk (inb o0_1 (wi64 (t5 - 1))) <|
      (idx o0_1 (wi64 (t5 - 1))).bind fun x_1 =>
      (f37 N (x.1, x.2) (x_1.1, x_1.2)).bind fun r =>
      cond r
        (chk (((decide (0 ≤ t5)) && (decide (t5 ≤ (len o0_1)))) && (decide ((len o0_1) ≤ (len o0_1)))) <|
        iter (fun w => f36_L9 N t5 (len o0_1) t1_1 w
          (fun t5_2 o0_3 =>
            chk (((decide (0 ≤ t5_2)) && (decide (t5_2 ≤ (len o0_3)))) && (decide ((len o0_3) ≤ (len o0_3)))) <|
            chk ((decide (0 ≤ t5_2)) && (decide (t5_2 ≤ (len (clearL (0, (0, ())) o0_3 t5_2 (len o0_3)))))) <|
            kret (sub (clearL (0, (0, ())) o0_3 t5_2 (len o0_3)) 0 t5_2))) N (1, t5, o0_1))
        (kb (wi64 (t5 + 1))))
      (kx0 ())
def f36 (N : Nat) (t1 : Unit) (o0 : List (Int × (Int × Unit))) : Option (((Unit × Unit) × ((List (Int × (Int × Unit))) × Unit))) :=
  cond (decide ((len o0) < 2))
    (some (((), ()), (o0, ())))
    (iter (fun w => f36_L4 N t1 o0 w
      (fun o0_4 =>
        some (((), ()), (o0_4, ())))
      (fun (_ : Unit) =>
        some (((), ()), (o0, ())))) N 1)
def fi36 : SForm := ⟨[(0, (.ref 0)), (1, (.val (.fn 37 .unit)))], [.row (.pair (.int .i64) (.pair (.int .i64) .unit))]⟩
def fo36 : SForm := ⟨[(4, (.ref 0))], [.row (.pair (.int .i64) (.pair (.int .i64) .unit))]⟩
def c36 (N : Nat) : Callee := .mut fi36 [] fo36 fun d => f36 N d.1.2.1 d.2.1
def F36_9 : SForm := ⟨[(7, (.val (.int .i64))), (5, (.val (.int .i64))), (6, (.view 0)), (0, (.ref 0)), (1, (.val (.fn 37 .unit)))], [.row (.pair (.int .i64) (.pair (.int .i64) .unit))]⟩
def G36_9 (N : Nat) : (R : Type) → F36_9.den → (AExit → St → Option R) → Option R := fun R d k => iter (fun kb => f36_L9 N d.1.2.2.1.1 d.1.2.2.1.2 d.1.2.2.2.2.1 kb
    (fun y0 y1 => k (.exit 2) (St.of [(5, (.data (.int .i64) y0)), (0, (.ref 0 [] 0))] [.row (.pair (.int .i64) (.pair (.int .i64) .unit)) y1 0]))) N (d.1.1, d.1.2.1, d.2.1)
def F36_4 : SForm := ⟨[(5, (.val (.int .i64))), (0, (.ref 0)), (1, (.val (.fn 37 .unit)))], [.row (.pair (.int .i64) (.pair (.int .i64) .unit))]⟩
def G36_4 (N : Nat) : (R : Type) → F36_4.den → (AExit → St → Option R) → Option R := fun R d k => iter (fun kb => f36_L4 N d.1.2.2.1 d.2.1 kb
    (fun y0 => k .ret (St.of [(4, (.ref 0 [] 0))] [.row (.pair (.int .i64) (.pair (.int .i64) .unit)) y0 0]))
    (fun _ => k (.exit 0) (St.of [(0, (.ref 0 [] 0))] [.row (.pair (.int .i64) (.pair (.int .i64) .unit)) d.2.1 0]))) N d.1.1
def lp36 (N : Nat) : Nat → Option LoopFn := fun r => cond (Nat.beq r 9) (some fun R sl os k => F36_9.take sl os fun d => G36_9 N R d k) (cond (Nat.beq r 4) (some fun R sl os k => F36_4.take sl os fun d => G36_4 N R d k) (none))
def x36 (N : Nat) : Ctx := { fuel := N, tt := getL ttL, mt := getL mtL, ntmps := 66, env := fun f => (getL [(37, [c37 N])] f).getD [], cut := getL [(4, ⟨[5, 0, 1], []⟩), (9, ⟨[7, 5, 6, 0, 1], []⟩)], exits := fun r => getL ((getL [(4, [(0, ⟨[0], []⟩)]), (9, [(2, ⟨[5, 0], []⟩)])] r).getD []), res := ⟨[4], [(4, none, .row (.pair (.int .i64) (.pair (.int .i64) .unit)))]⟩, own := fun _ => none, lp := lp36 N, eqs := fun T => memN T eqL }
noncomputable def b36 : Code := ((Go.Proofs.Try.f36).body).getD .skip
theorem s36_9 (N : Nat) {R : Type} (k : AExit → St → Option R) (t6a : Int) (t6b : Int) (t1_2 : Unit) (kb : List (Nat × AVal) → List Obj → Option R) (x : Int × Int × (List (Int × (Int × Unit)))) : codeK (x36 N) (loopAt 9 (loopsOf b36)) (St.of [(7, (.data (.int .i64) x.1)), (5, (.data (.int .i64) x.2.1)), (6, (.view 0 [] 0 t6a t6b)), (0, (.ref 0 [] 0)), (1, (.data (.fn 37 .unit) t1_2))] [.row (.pair (.int .i64) (.pair (.int .i64) .unit)) x.2.2 0]) (kLoop (x36 N) 9 ⟨[7, 5, 6, 0, 1], []⟩ kb k) = f36_L9 N t6a t6b t1_2 (fun y => kb [(7, (.data (.int .i64) y.1)), (5, (.data (.int .i64) y.2.1)), (6, (.view 0 [] 0 t6a t6b)), (0, (.ref 0 [] 0)), (1, (.data (.fn 37 .unit) t1_2))] [.row (.pair (.int .i64) (.pair (.int .i64) .unit)) y.2.2 0])
    (fun y0 y1 => k (.exit 2) (St.of [(5, (.data (.int .i64) y0)), (0, (.ref 0 [] 0))] [.row (.pair (.int .i64) (.pair (.int .i64) .unit)) y1 0])) x := by kernel_rfl
theorem l36_9 (N : Nat) : LoopOK (x36 N) (loopAt 9 (loopsOf b36)) :=
  loop_mk (G36_9 N) (by kernel_rfl) (by kernel_rfl) (by kernel_rfl) fun R k d =>
    loop_eq (st := fun (x : Int × Int × (List (Int × (Int × Unit)))) => ([(7, (.data (.int .i64) x.1)), (5, (.data (.int .i64) x.2.1)), (6, (.view 0 [] 0 d.1.2.2.1.1 d.1.2.2.1.2)), (0, (.ref 0 [] 0)), (1, (.data (.fn 37 .unit) d.1.2.2.2.2.1))], [.row (.pair (.int .i64) (.pair (.int .i64) .unit)) x.2.2 0])) (s36_9 N k d.1.2.2.1.1 d.1.2.2.1.2 d.1.2.2.2.2.1) N (d.1.1, d.1.2.1, d.2.1)
theorem s36_4 (N : Nat) {R : Type} (k : AExit → St → Option R) (t1_1 : Unit) (o0_1 : List (Int × (Int × Unit))) (kb : List (Nat × AVal) → List Obj → Option R) (x : Int) : codeK (x36 N) (loopAt 4 (loopsOf b36)) (St.of [(5, (.data (.int .i64) x)), (0, (.ref 0 [] 0)), (1, (.data (.fn 37 .unit) t1_1))] [.row (.pair (.int .i64) (.pair (.int .i64) .unit)) o0_1 0]) (kLoop (x36 N) 4 ⟨[5, 0, 1], []⟩ kb k) = f36_L4 N t1_1 o0_1 (fun y => kb [(5, (.data (.int .i64) y)), (0, (.ref 0 [] 0)), (1, (.data (.fn 37 .unit) t1_1))] [.row (.pair (.int .i64) (.pair (.int .i64) .unit)) o0_1 0])
    (fun y0 => k .ret (St.of [(4, (.ref 0 [] 0))] [.row (.pair (.int .i64) (.pair (.int .i64) .unit)) y0 0]))
    (fun _ => k (.exit 0) (St.of [(0, (.ref 0 [] 0))] [.row (.pair (.int .i64) (.pair (.int .i64) .unit)) o0_1 0])) x := by kernel_rfl
theorem l36_4 (N : Nat) : LoopOK (x36 N) (loopAt 4 (loopsOf b36)) :=
  loop_mk (G36_4 N) (by kernel_rfl) (by kernel_rfl) (by kernel_rfl) fun R k d =>
    loop_eq (st := fun (x : Int) => ([(5, (.data (.int .i64) x)), (0, (.ref 0 [] 0)), (1, (.data (.fn 37 .unit) d.1.2.2.1))], [.row (.pair (.int .i64) (.pair (.int .i64) .unit)) d.2.1 0])) (s36_4 N k d.1.2.2.1 d.2.1) N d.1.1
theorem e36 (N : Nat) (t1 : Unit) (o0 : List (Int × (Int × Unit))) : bodyM (x36 N) fo36 b36 (St.of [(0, (.ref 0 [] 0)), (1, (.data (.fn 37 .unit) t1))] [.row (.pair (.int .i64) (.pair (.int .i64) .unit)) o0 0]) = f36 N t1 o0 := by kernel_rfl
theorem k36 (N : Nat) : CalleeOK Go.Proofs.Try.prog 36 (c36 N) :=
  fn_ok_mut (fn := Go.Proofs.Try.f36) (body := b36) (c := x36 N) (rs := [4]) Go.Proofs.Try.func36 (by kernel_rfl) (by kernel_rfl) ⟨ttL_ok, mtL_ok, eqL_ok, env_cons (forall_mem1 (k37 N)) (env_nil)⟩ mixed (by kernel_rfl) (Nat.le_of_ble_eq_true (by kernel_rfl)) (by kernel_rfl) (by kernel_rfl) (by kernel_rfl) (anchB_ok (by kernel_rfl))
    (loops_ok (by kernel_rfl : loopsOf b36 = [loopAt 4 (loopsOf b36), loopAt 9 (loopsOf b36)]) (.cons (l36_4 N) (.cons (l36_9 N) .nil))) fun d => e36 N d.1.2.1 d.2.1
/-! ### 22: keyhole/keyholelaw44.tidy -/
def f22_L3 {R : Type} (N : Nat) (t13 : List (Int × (Int × Unit))) (t14 : Int) (kb : Int × (List (Int × (Int × Unit))) → Option R) (kx0 : (List (Int × (Int × Unit))) → Option R) : Int × (List (Int × (Int × Unit))) → Option R :=
  fun (t15, o0) =>
    cond (decide (t15 < t14))
      ((idx t13 t15).bind fun x =>
      chk (decide ((o0.length.succ) ≤ room)) <|
      kb ((wi64 (t15 + 1)), (o0 ++ (((wi64 (((((BitVec.ofInt 64 x.1).and (BitVec.ofInt 64 1023)).toNat) : Nat) : Int)), ((wi64 (1 + (wi64 (((((BitVec.ofInt 64 x.2.1).and (BitVec.ofInt 64 15)).toNat) : Nat) : Int)))), ())) :: ([] : List (Int × (Int × Unit)))))))
      (kx0 o0)
def f22 (N : Nat) (a0 : List (Int × (Int × Unit))) (a1 : Int) : Option (List (Int × (Int × Unit))) :=
  chk ((decide (0 ≤ (minI (len a0) a1))) && (decide ((minI (len a0) a1) ≤ (len a0)))) <|
  iter (fun w => f22_L3 N (sub a0 0 (minI (len a0) a1)) (len (sub a0 0 (minI (len a0) a1))) w
    (fun o0_1 =>
      (f34 N () o0_1).bind fun r =>
      (f36 N () r.2.1).bind fun r_1 =>
      cond (decide ((len r_1.2.1) = 0))
        (some ((3, (2, ())) :: ([] : List (Int × (Int × Unit)))))
        (some r_1.2.1))) N (0, ([] : List (Int × (Int × Unit))))
def c22 (N : Nat) : Callee := .pure (.pr (.val (.sl false (.pair (.int .i64) (.pair (.int .i64) .unit)))) (.pr (.val (.int .i64)) .un)) [(.sl false (.pair (.int .i64) (.pair (.int .i64) .unit)))] fun d => f22 N d.1 d.2.1
def F22_3 : SForm := ⟨[(15, (.val (.int .i64))), (5, (.ref 0)), (13, (.val (.sl false (.pair (.int .i64) (.pair (.int .i64) .unit))))), (14, (.val (.int .i64)))], [.row (.pair (.int .i64) (.pair (.int .i64) .unit))]⟩
def G22_3 (N : Nat) : (R : Type) → F22_3.den → (AExit → St → Option R) → Option R := fun R d k => iter (fun kb => f22_L3 N d.1.2.2.1 d.1.2.2.2.1 kb
    (fun y0 => k (.exit 0) (St.of [(5, (.ref 0 [] 0))] [.row (.pair (.int .i64) (.pair (.int .i64) .unit)) y0 0]))) N (d.1.1, d.2.1)
def lp22 (N : Nat) : Nat → Option LoopFn := fun r => cond (Nat.beq r 3) (some fun R sl os k => F22_3.take sl os fun d => G22_3 N R d k) (none)
def x22 (N : Nat) : Ctx := { fuel := N, tt := getL ttL, mt := getL mtL, ntmps := 41, env := fun f => (getL [(34, [c34 N]), (36, [c36 N])] f).getD [], cut := getL [(3, ⟨[15, 5, 13, 14], [(5, none, .row (.pair (.int .i64) (.pair (.int .i64) .unit)))]⟩)], exits := fun r => getL ((getL [(3, [(0, ⟨[5], []⟩)])] r).getD []), res := ⟨[4], []⟩, own := fun _ => none, lp := lp22 N, eqs := fun T => memN T eqL }
noncomputable def b22 : Code := ((Go.Proofs.Try.f22).body).getD .skip
theorem s22_3 (N : Nat) {R : Type} (k : AExit → St → Option R) (t13 : List (Int × (Int × Unit))) (t14 : Int) (kb : List (Nat × AVal) → List Obj → Option R) (x : Int × (List (Int × (Int × Unit)))) : codeK (x22 N) (loopAt 3 (loopsOf b22)) (St.of [(15, (.data (.int .i64) x.1)), (5, (.ref 0 [] 0)), (13, (.data (.sl false (.pair (.int .i64) (.pair (.int .i64) .unit))) t13)), (14, (.data (.int .i64) t14))] [.row (.pair (.int .i64) (.pair (.int .i64) .unit)) x.2 0]) (kLoop (x22 N) 3 ⟨[15, 5, 13, 14], [(5, none, .row (.pair (.int .i64) (.pair (.int .i64) .unit)))]⟩ kb k) = f22_L3 N t13 t14 (fun y => kb [(15, (.data (.int .i64) y.1)), (5, (.ref 0 [] 0)), (13, (.data (.sl false (.pair (.int .i64) (.pair (.int .i64) .unit))) t13)), (14, (.data (.int .i64) t14))] [.row (.pair (.int .i64) (.pair (.int .i64) .unit)) y.2 0])
    (fun y0 => k (.exit 0) (St.of [(5, (.ref 0 [] 0))] [.row (.pair (.int .i64) (.pair (.int .i64) .unit)) y0 0])) x := by kernel_rfl
theorem l22_3 (N : Nat) : LoopOK (x22 N) (loopAt 3 (loopsOf b22)) :=
  loop_mk (G22_3 N) (by kernel_rfl) (by kernel_rfl) (by kernel_rfl) fun R k d =>
    loop_eq (st := fun (x : Int × (List (Int × (Int × Unit)))) => ([(15, (.data (.int .i64) x.1)), (5, (.ref 0 [] 0)), (13, (.data (.sl false (.pair (.int .i64) (.pair (.int .i64) .unit))) d.1.2.2.1)), (14, (.data (.int .i64) d.1.2.2.2.1))], [.row (.pair (.int .i64) (.pair (.int .i64) .unit)) x.2 0])) (s22_3 N k d.1.2.2.1 d.1.2.2.2.1) N (d.1.1, d.2.1)
theorem e22 (N : Nat) (a0 : List (Int × (Int × Unit))) (a1 : Int) : bodyK (x22 N) [(.sl false (.pair (.int .i64) (.pair (.int .i64) .unit)))] [.tmp 4] b22 (entry (.pr (.val (.sl false (.pair (.int .i64) (.pair (.int .i64) .unit)))) (.pr (.val (.int .i64)) .un)) (a0, (a1, ()))) = f22 N a0 a1 := by kernel_rfl
theorem k22 (N : Nat) : CalleeOK Go.Proofs.Try.prog 22 (c22 N) :=
  fn_ok (fn := Go.Proofs.Try.f22) (body := b22) (c := x22 N) Go.Proofs.Try.func22 (by kernel_rfl) (by kernel_rfl) ⟨ttL_ok, mtL_ok, eqL_ok, env_cons (forall_mem1 (k34 N)) (env_cons (forall_mem1 (k36 N)) (env_nil))⟩ mixed (by kernel_rfl) (Nat.le_of_ble_eq_true (by kernel_rfl)) (by kernel_rfl) (by decide)
    (loops_ok (by kernel_rfl : loopsOf b22 = [loopAt 3 (loopsOf b22)]) (.cons (l22_3 N) .nil)) fun d => e22 N d.1 d.2.1
/-! ### 6: keyhole/keyholelaw44.BucketMoves -/
def f6_L7 {R : Type} (N : Nat) (t8 : Int) (t1 : Int) (t27 : List (Int × (Int × Unit))) (t7 : List (Int × (Int × Unit))) (t28 : Int) (kb : Int × (List (Int × (Int × Unit))) × (List (Int × (Int × Unit))) → Option R) (kx0 : (List (Int × (Int × Unit))) → (List (Int × (Int × Unit))) → Option R) : Int × (List (Int × (Int × Unit))) × (List (Int × (Int × Unit))) → Option R :=
  fun (t29, o0, o1) =>
    cond (decide (t29 < t28))
      ((idx t27 t29).bind fun x =>
      chk (decide ((o1.length.succ) ≤ room)) <|
      chk (decide ((o0.length.succ) ≤ room)) <|
      kb ((wi64 (t29 + 1)), (o0 ++ ((x.1, ((wi64 (x.2.1 * t8)), ())) :: ([] : List (Int × (Int × Unit))))), (o1 ++ (((wi64 (x.1 + (wi64 t1))), (x.2.1, ())) :: ([] : List (Int × (Int × Unit)))))))
      (kx0 o0 o1)
def f6_L18 {R : Type} (N : Nat) (t8_1 : Int) (t94 : Int) (o0_2 : List Int) (o1_2 : List Int) (kb : Int → Option R) (kret : Bool → Option R) (kx2 : Unit → Option R) : Int → Option R :=
  fun t95 =>
    cond (decide (t95 < t94))
      (chk (inb o1_2 t95) <|
      (idx o1_2 t95).bind fun x_1 =>
      chk (inb o0_2 t95) <|
      (idx o0_2 t95).bind fun x_2 =>
      cond (!(decide ((wi64 (x_1 * t8_1)) = x_2)))
        (kret false)
        (kb (wi64 (t95 + 1))))
      (kx2 ())
def f6 (N : Nat) (a0 : List (Int × (Int × Unit))) (a1 : Int) (a2 : Int) : Option (Bool) :=
  (f9 N).bind fun r =>
  cond (!r)
    (some false)
    ((f22 N a0 8).bind fun r_1 =>
    iter (fun w => f6_L7 N (wi64 (1 + (wi64 a2))) a1 r_1 r_1 (len r_1) w
      (fun o0_1 o1_1 =>
        (f23 N r_1).bind fun r_2 =>
        (f23 N o1_1).bind fun r_3 =>
        (f23 N o0_1).bind fun r_4 =>
        (cond (!(decide (r_2.2 = 0)))
            (some true)
            (some (!(decide (r_3.2 = 0))))).bind fun b =>
        (cond b
            (some true)
            (some (!(decide (r_4.2 = 0))))).bind fun b_1 =>
        (cond b_1
            (some true)
            ((f24 N r_2.1 r_3.1).bind fun r_5 =>
            some (!r_5))).bind fun b_2 =>
        (cond b_2
            (some true)
            (some (!(decide ((len r_2.1) = (len r_4.1)))))).bind fun b_3 =>
        cond b_3
          (some false)
          (iter (fun w => f6_L18 N (wi64 (1 + (wi64 a2))) (len r_2.1) r_4.1 r_2.1 w
            (fun t6 =>
              some t6)
            (fun (_ : Unit) =>
              some true)) N 0))) N (0, ([] : List (Int × (Int × Unit))), ([] : List (Int × (Int × Unit)))))
def c6 (N : Nat) : Callee := .pure (.pr (.val (.sl false (.pair (.int .i64) (.pair (.int .i64) .unit)))) (.pr (.val (.int .u8)) (.pr (.val (.int .u8)) .un))) [.bool] fun d => f6 N d.1 d.2.1 d.2.2.1
def F6_7 : SForm := ⟨[(29, (.val (.int .i64))), (8, (.val (.int .i64))), (10, (.ref 0)), (1, (.val (.int .u8))), (9, (.ref 1)), (27, (.val (.sl false (.pair (.int .i64) (.pair (.int .i64) .unit))))), (7, (.val (.sl false (.pair (.int .i64) (.pair (.int .i64) .unit))))), (28, (.val (.int .i64)))], [.row (.pair (.int .i64) (.pair (.int .i64) .unit)), .row (.pair (.int .i64) (.pair (.int .i64) .unit))]⟩
def G6_7 (N : Nat) : (R : Type) → F6_7.den → (AExit → St → Option R) → Option R := fun R d k => iter (fun kb => f6_L7 N d.1.2.1 d.1.2.2.2.1 d.1.2.2.2.2.2.1 d.1.2.2.2.2.2.2.1 d.1.2.2.2.2.2.2.2.1 kb
    (fun y2 y3 => k (.exit 0) (St.of [(8, (.data (.int .i64) d.1.2.1)), (10, (.ref 0 [] 0)), (9, (.ref 1 [] 0)), (7, (.data (.sl false (.pair (.int .i64) (.pair (.int .i64) .unit))) d.1.2.2.2.2.2.2.1))] [.row (.pair (.int .i64) (.pair (.int .i64) .unit)) y2 0, .row (.pair (.int .i64) (.pair (.int .i64) .unit)) y3 0]))) N (d.1.1, d.2.1, d.2.2.1)
def F6_18 : SForm := ⟨[(95, (.val (.int .i64))), (17, (.ref 0)), (8, (.val (.int .i64))), (13, (.ref 1)), (94, (.val (.int .i64)))], [.row (.int .i64), .row (.int .i64)]⟩
def G6_18 (N : Nat) : (R : Type) → F6_18.den → (AExit → St → Option R) → Option R := fun R d k => iter (fun kb => f6_L18 N d.1.2.2.1 d.1.2.2.2.2.1 d.2.1 d.2.2.1 kb
    (fun y0 => k .ret (St.of [(6, (.data .bool y0))] []))
    (fun _ => k (.exit 2) (St.of [] []))) N d.1.1
def lp6 (N : Nat) : Nat → Option LoopFn := fun r => cond (Nat.beq r 7) (some fun R sl os k => F6_7.take sl os fun d => G6_7 N R d k) (cond (Nat.beq r 18) (some fun R sl os k => F6_18.take sl os fun d => G6_18 N R d k) (none))
def x6 (N : Nat) : Ctx := { fuel := N, tt := getL ttL, mt := getL mtL, ntmps := 110, env := fun f => (getL [(9, [c9 N]), (22, [c22 N]), (23, [c23 N]), (24, [c24 N])] f).getD [], cut := getL [(7, ⟨[29, 8, 10, 1, 9, 27, 7, 28], [(10, none, .row (.pair (.int .i64) (.pair (.int .i64) .unit))), (9, none, .row (.pair (.int .i64) (.pair (.int .i64) .unit)))]⟩), (18, ⟨[95, 17, 8, 13, 94], []⟩)], exits := fun r => getL ((getL [(7, [(0, ⟨[8, 10, 9, 7], []⟩)]), (18, [(2, ⟨[], []⟩)])] r).getD []), res := ⟨[6], []⟩, own := fun _ => none, lp := lp6 N, eqs := fun T => memN T eqL }
noncomputable def b6 : Code := ((Go.Proofs.Try.f6).body).getD .skip
theorem s6_7 (N : Nat) {R : Type} (k : AExit → St → Option R) (t8 : Int) (t1 : Int) (t27 : List (Int × (Int × Unit))) (t7 : List (Int × (Int × Unit))) (t28 : Int) (kb : List (Nat × AVal) → List Obj → Option R) (x : Int × (List (Int × (Int × Unit))) × (List (Int × (Int × Unit)))) : codeK (x6 N) (loopAt 7 (loopsOf b6)) (St.of [(29, (.data (.int .i64) x.1)), (8, (.data (.int .i64) t8)), (10, (.ref 0 [] 0)), (1, (.data (.int .u8) t1)), (9, (.ref 1 [] 0)), (27, (.data (.sl false (.pair (.int .i64) (.pair (.int .i64) .unit))) t27)), (7, (.data (.sl false (.pair (.int .i64) (.pair (.int .i64) .unit))) t7)), (28, (.data (.int .i64) t28))] [.row (.pair (.int .i64) (.pair (.int .i64) .unit)) x.2.1 0, .row (.pair (.int .i64) (.pair (.int .i64) .unit)) x.2.2 0]) (kLoop (x6 N) 7 ⟨[29, 8, 10, 1, 9, 27, 7, 28], [(10, none, .row (.pair (.int .i64) (.pair (.int .i64) .unit))), (9, none, .row (.pair (.int .i64) (.pair (.int .i64) .unit)))]⟩ kb k) = f6_L7 N t8 t1 t27 t7 t28 (fun y => kb [(29, (.data (.int .i64) y.1)), (8, (.data (.int .i64) t8)), (10, (.ref 0 [] 0)), (1, (.data (.int .u8) t1)), (9, (.ref 1 [] 0)), (27, (.data (.sl false (.pair (.int .i64) (.pair (.int .i64) .unit))) t27)), (7, (.data (.sl false (.pair (.int .i64) (.pair (.int .i64) .unit))) t7)), (28, (.data (.int .i64) t28))] [.row (.pair (.int .i64) (.pair (.int .i64) .unit)) y.2.1 0, .row (.pair (.int .i64) (.pair (.int .i64) .unit)) y.2.2 0])
    (fun y2 y3 => k (.exit 0) (St.of [(8, (.data (.int .i64) t8)), (10, (.ref 0 [] 0)), (9, (.ref 1 [] 0)), (7, (.data (.sl false (.pair (.int .i64) (.pair (.int .i64) .unit))) t7))] [.row (.pair (.int .i64) (.pair (.int .i64) .unit)) y2 0, .row (.pair (.int .i64) (.pair (.int .i64) .unit)) y3 0])) x := by kernel_rfl
theorem l6_7 (N : Nat) : LoopOK (x6 N) (loopAt 7 (loopsOf b6)) :=
  loop_mk (G6_7 N) (by kernel_rfl) (by kernel_rfl) (by kernel_rfl) fun R k d =>
    loop_eq (st := fun (x : Int × (List (Int × (Int × Unit))) × (List (Int × (Int × Unit)))) => ([(29, (.data (.int .i64) x.1)), (8, (.data (.int .i64) d.1.2.1)), (10, (.ref 0 [] 0)), (1, (.data (.int .u8) d.1.2.2.2.1)), (9, (.ref 1 [] 0)), (27, (.data (.sl false (.pair (.int .i64) (.pair (.int .i64) .unit))) d.1.2.2.2.2.2.1)), (7, (.data (.sl false (.pair (.int .i64) (.pair (.int .i64) .unit))) d.1.2.2.2.2.2.2.1)), (28, (.data (.int .i64) d.1.2.2.2.2.2.2.2.1))], [.row (.pair (.int .i64) (.pair (.int .i64) .unit)) x.2.1 0, .row (.pair (.int .i64) (.pair (.int .i64) .unit)) x.2.2 0])) (s6_7 N k d.1.2.1 d.1.2.2.2.1 d.1.2.2.2.2.2.1 d.1.2.2.2.2.2.2.1 d.1.2.2.2.2.2.2.2.1) N (d.1.1, d.2.1, d.2.2.1)
theorem s6_18 (N : Nat) {R : Type} (k : AExit → St → Option R) (t8_1 : Int) (t94 : Int) (o0_2 : List Int) (o1_2 : List Int) (kb : List (Nat × AVal) → List Obj → Option R) (x : Int) : codeK (x6 N) (loopAt 18 (loopsOf b6)) (St.of [(95, (.data (.int .i64) x)), (17, (.ref 0 [] 0)), (8, (.data (.int .i64) t8_1)), (13, (.ref 1 [] 0)), (94, (.data (.int .i64) t94))] [.row (.int .i64) o0_2 0, .row (.int .i64) o1_2 0]) (kLoop (x6 N) 18 ⟨[95, 17, 8, 13, 94], []⟩ kb k) = f6_L18 N t8_1 t94 o0_2 o1_2 (fun y => kb [(95, (.data (.int .i64) y)), (17, (.ref 0 [] 0)), (8, (.data (.int .i64) t8_1)), (13, (.ref 1 [] 0)), (94, (.data (.int .i64) t94))] [.row (.int .i64) o0_2 0, .row (.int .i64) o1_2 0])
    (fun y0 => k .ret (St.of [(6, (.data .bool y0))] []))
    (fun _ => k (.exit 2) (St.of [] [])) x := by kernel_rfl
theorem l6_18 (N : Nat) : LoopOK (x6 N) (loopAt 18 (loopsOf b6)) :=
  loop_mk (G6_18 N) (by kernel_rfl) (by kernel_rfl) (by kernel_rfl) fun R k d =>
    loop_eq (st := fun (x : Int) => ([(95, (.data (.int .i64) x)), (17, (.ref 0 [] 0)), (8, (.data (.int .i64) d.1.2.2.1)), (13, (.ref 1 [] 0)), (94, (.data (.int .i64) d.1.2.2.2.2.1))], [.row (.int .i64) d.2.1 0, .row (.int .i64) d.2.2.1 0])) (s6_18 N k d.1.2.2.1 d.1.2.2.2.2.1 d.2.1 d.2.2.1) N d.1.1
theorem e6 (N : Nat) (a0 : List (Int × (Int × Unit))) (a1 : Int) (a2 : Int) : bodyK (x6 N) [.bool] [.tmp 6] b6 (entry (.pr (.val (.sl false (.pair (.int .i64) (.pair (.int .i64) .unit)))) (.pr (.val (.int .u8)) (.pr (.val (.int .u8)) .un))) (a0, (a1, (a2, ())))) = f6 N a0 a1 a2 := by kernel_rfl
theorem k6 (N : Nat) : CalleeOK Go.Proofs.Try.prog 6 (c6 N) :=
  fn_ok (fn := Go.Proofs.Try.f6) (body := b6) (c := x6 N) Go.Proofs.Try.func6 (by kernel_rfl) (by kernel_rfl) ⟨ttL_ok, mtL_ok, eqL_ok, env_cons (forall_mem1 (k9 N)) (env_cons (forall_mem1 (k22 N)) (env_cons (forall_mem1 (k23 N)) (env_cons (forall_mem1 (k24 N)) (env_nil))))⟩ mixed (by kernel_rfl) (Nat.le_of_ble_eq_true (by kernel_rfl)) (by kernel_rfl) (by decide)
    (loops_ok (by kernel_rfl : loopsOf b6 = [loopAt 7 (loopsOf b6), loopAt 18 (loopsOf b6)]) (.cons (l6_7 N) (.cons (l6_18 N) .nil))) fun d => e6 N d.1 d.2.1 d.2.2.1
/-! ### 27: keyhole/bucket.Fewest -/
def f27_L7 {R : Type} (N : Nat) (t1 : Int) (o0 : List Int) (kb : Int → Option R) (kx0 : Int → Option R) : Int → Option R :=
  fun t8 =>
    chk (inb o0 (wi64 (t8 - 1))) <|
    (idx o0 (wi64 (t8 - 1))).bind fun x =>
    cond (decide (t1 < x))
      (kb (wi64 (t8 + 1)))
      (kx0 t8)
def f27 (N : Nat) (a0 : List (Int × (Int × Unit))) (a1 : Int) : Option (Int × Int) :=
  (f23 N a0).bind fun r =>
  cond (!(decide (r.2 = 0)))
    (some (0, r.2))
    (cond (decide (a1 < 0))
      (some (0, 3))
      (iter (fun w => f27_L7 N a1 r.1 w
        (fun t8_1 =>
          some (t8_1, 0))) N 1))
def c27 (N : Nat) : Callee := .pure (.pr (.val (.sl false (.pair (.int .i64) (.pair (.int .i64) .unit)))) (.pr (.val (.int .i64)) .un)) [(.int .i64), (.int .i64)] fun d => f27 N d.1 d.2.1
def F27_7 : SForm := ⟨[(8, (.val (.int .i64))), (1, (.val (.int .i64))), (6, (.ref 0))], [.row (.int .i64)]⟩
def G27_7 (N : Nat) : (R : Type) → F27_7.den → (AExit → St → Option R) → Option R := fun R d k => iter (fun kb => f27_L7 N d.1.2.1 d.2.1 kb
    (fun y0 => k (.exit 0) (St.of [(8, (.data (.int .i64) y0))] []))) N d.1.1
def lp27 (N : Nat) : Nat → Option LoopFn := fun r => cond (Nat.beq r 7) (some fun R sl os k => F27_7.take sl os fun d => G27_7 N R d k) (none)
def x27 (N : Nat) : Ctx := { fuel := N, tt := getL ttL, mt := getL mtL, ntmps := 29, env := fun f => (getL [(23, [c23 N])] f).getD [], cut := getL [(7, ⟨[8, 1, 6], []⟩)], exits := fun r => getL ((getL [(7, [(0, ⟨[8], []⟩)])] r).getD []), res := ⟨[4, 5], []⟩, own := fun _ => none, lp := lp27 N, eqs := fun T => memN T eqL }
noncomputable def b27 : Code := ((Go.Proofs.Try.f27).body).getD .skip
theorem s27_7 (N : Nat) {R : Type} (k : AExit → St → Option R) (t1 : Int) (o0 : List Int) (kb : List (Nat × AVal) → List Obj → Option R) (x : Int) : codeK (x27 N) (loopAt 7 (loopsOf b27)) (St.of [(8, (.data (.int .i64) x)), (1, (.data (.int .i64) t1)), (6, (.ref 0 [] 0))] [.row (.int .i64) o0 0]) (kLoop (x27 N) 7 ⟨[8, 1, 6], []⟩ kb k) = f27_L7 N t1 o0 (fun y => kb [(8, (.data (.int .i64) y)), (1, (.data (.int .i64) t1)), (6, (.ref 0 [] 0))] [.row (.int .i64) o0 0])
    (fun y0 => k (.exit 0) (St.of [(8, (.data (.int .i64) y0))] [])) x := by kernel_rfl
theorem l27_7 (N : Nat) : LoopOK (x27 N) (loopAt 7 (loopsOf b27)) :=
  loop_mk (G27_7 N) (by kernel_rfl) (by kernel_rfl) (by kernel_rfl) fun R k d =>
    loop_eq (st := fun (x : Int) => ([(8, (.data (.int .i64) x)), (1, (.data (.int .i64) d.1.2.1)), (6, (.ref 0 [] 0))], [.row (.int .i64) d.2.1 0])) (s27_7 N k d.1.2.1 d.2.1) N d.1.1
theorem e27 (N : Nat) (a0 : List (Int × (Int × Unit))) (a1 : Int) : bodyK (x27 N) [(.int .i64), (.int .i64)] [.tmp 4, .tmp 5] b27 (entry (.pr (.val (.sl false (.pair (.int .i64) (.pair (.int .i64) .unit)))) (.pr (.val (.int .i64)) .un)) (a0, (a1, ()))) = f27 N a0 a1 := by kernel_rfl
theorem k27 (N : Nat) : CalleeOK Go.Proofs.Try.prog 27 (c27 N) :=
  fn_ok (fn := Go.Proofs.Try.f27) (body := b27) (c := x27 N) Go.Proofs.Try.func27 (by kernel_rfl) (by kernel_rfl) ⟨ttL_ok, mtL_ok, eqL_ok, env_cons (forall_mem1 (k23 N)) (env_nil)⟩ mixed (by kernel_rfl) (Nat.le_of_ble_eq_true (by kernel_rfl)) (by kernel_rfl) (by decide)
    (loops_ok (by kernel_rfl : loopsOf b27 = [loopAt 7 (loopsOf b27)]) (.cons (l27_7 N) .nil)) fun d => e27 N d.1 d.2.1
/-! ### 7: keyhole/keyholelaw44.BucketCurve -/
def f7_L9 {R : Type} (N : Nat) (t1 : Int) (t5 : List (Int × (Int × Unit))) (t54 : Int) (o0 : List Int) (kb : Int × Int → Option R) (kret : Bool → Option R) (kx0 : Int → Option R) : Int × Int → Option R :=
  fun (t55, t8) =>
    cond (decide (t55 < t54))
      ((f26 N t5 (wi64 (t55 + 1))).bind fun r_4 =>
      (cond (!(decide (r_4.2.2.2 = 0)))
          (some true)
          (chk (inb o0 t55) <|
          (idx o0 t55).bind fun x_2 =>
          some (!(decide (r_4.2.1 = x_2))))).bind fun b_3 =>
      (cond b_3
          (some true)
          ((cond (decide (0 < t55))
              (chk (inb o0 t55) <|
              (idx o0 t55).bind fun x_3 =>
              chk (inb o0 (wi64 (t55 - 1))) <|
              (idx o0 (wi64 (t55 - 1))).bind fun x_4 =>
              some (decide (x_4 < x_3)))
              (some false)).bind fun b_4 =>
          some b_4)).bind fun b_5 =>
      (cond b_5
          (some true)
          ((cond (decide (1 < t55))
              (chk (inb o0 (wi64 (t55 - 1))) <|
              (idx o0 (wi64 (t55 - 1))).bind fun x_5 =>
              chk (inb o0 t55) <|
              (idx o0 t55).bind fun x_6 =>
              chk (inb o0 (wi64 (t55 - 2))) <|
              (idx o0 (wi64 (t55 - 2))).bind fun x_7 =>
              chk (inb o0 (wi64 (t55 - 1))) <|
              (idx o0 (wi64 (t55 - 1))).bind fun x_8 =>
              some (decide ((wi64 (x_7 - x_8)) < (wi64 (x_5 - x_6)))))
              (some false)).bind fun b_6 =>
          some b_6)).bind fun b_7 =>
      cond b_7
        (kret false)
        ((cond (decide (t8 = 0))
            (chk (inb o0 t55) <|
            (idx o0 t55).bind fun x_9 =>
            some (decide (x_9 ≤ t1)))
            (some false)).bind fun b_8 =>
        cond b_8
          (kb ((wi64 (t55 + 1)), (wi64 (t55 + 1))))
          (kb ((wi64 (t55 + 1)), t8))))
      (kx0 t8)
def f7 (N : Nat) (a0 : List (Int × (Int × Unit))) (a1 : Int) : Option (Bool) :=
  (f9 N).bind fun r =>
  cond (!r)
    (some false)
    ((f22 N a0 10).bind fun r_1 =>
    (f23 N r_1).bind fun r_2 =>
    (cond (!(decide (r_2.2 = 0)))
        (some true)
        (some (!(decide ((len r_2.1) = (len r_1)))))).bind fun b =>
    (cond b
        (some true)
        (chk (inb r_2.1 (wi64 ((len r_2.1) - 1))) <|
        (idx r_2.1 (wi64 ((len r_2.1) - 1))).bind fun x =>
        some (!(decide (x = 0))))).bind fun b_1 =>
    (cond b_1
        (some true)
        (chk (inb r_2.1 0) <|
        (idx r_2.1 0).bind fun x_1 =>
        (f25 N r_1 0 (len r_1)).bind fun r_3 =>
        some (!(decide (x_1 = r_3))))).bind fun b_2 =>
    cond b_2
      (some false)
      (iter (fun w => f7_L9 N a1 r_1 (len r_2.1) r_2.1 w
        (fun t4 =>
          some t4)
        (fun t8_1 =>
          (f27 N r_1 a1).bind fun r_5 =>
          cond (decide (a1 < 0))
            ((cond (decide (r_5.1 = 0))
                (some (decide (r_5.2 = 3)))
                (some false)).bind fun b_9 =>
            some b_9)
            ((cond (decide (r_5.1 = t8_1))
                (some (decide (r_5.2 = 0)))
                (some false)).bind fun b_10 =>
            some b_10))) N (0, 0)))
def c7 (N : Nat) : Callee := .pure (.pr (.val (.sl false (.pair (.int .i64) (.pair (.int .i64) .unit)))) (.pr (.val (.int .i64)) .un)) [.bool] fun d => f7 N d.1 d.2.1
def F7_9 : SForm := ⟨[(55, (.val (.int .i64))), (1, (.val (.int .i64))), (6, (.ref 0)), (8, (.val (.int .i64))), (5, (.val (.sl false (.pair (.int .i64) (.pair (.int .i64) .unit))))), (54, (.val (.int .i64)))], [.row (.int .i64)]⟩
def G7_9 (N : Nat) : (R : Type) → F7_9.den → (AExit → St → Option R) → Option R := fun R d k => iter (fun kb => f7_L9 N d.1.2.1 d.1.2.2.2.2.1 d.1.2.2.2.2.2.1 d.2.1 kb
    (fun y0 => k .ret (St.of [(4, (.data .bool y0))] []))
    (fun y0 => k (.exit 0) (St.of [(8, (.data (.int .i64) y0)), (1, (.data (.int .i64) d.1.2.1)), (5, (.data (.sl false (.pair (.int .i64) (.pair (.int .i64) .unit))) d.1.2.2.2.2.1))] []))) N (d.1.1, d.1.2.2.2.1)
def lp7 (N : Nat) : Nat → Option LoopFn := fun r => cond (Nat.beq r 9) (some fun R sl os k => F7_9.take sl os fun d => G7_9 N R d k) (none)
def x7 (N : Nat) : Ctx := { fuel := N, tt := getL ttL, mt := getL mtL, ntmps := 155, env := fun f => (getL [(9, [c9 N]), (22, [c22 N]), (23, [c23 N]), (25, [c25 N]), (26, [c26 N]), (27, [c27 N])] f).getD [], cut := getL [(9, ⟨[55, 1, 6, 8, 5, 54], []⟩)], exits := fun r => getL ((getL [(9, [(0, ⟨[8, 1, 5], []⟩)])] r).getD []), res := ⟨[4], []⟩, own := fun _ => none, lp := lp7 N, eqs := fun T => memN T eqL }
noncomputable def b7 : Code := ((Go.Proofs.Try.f7).body).getD .skip
theorem s7_9 (N : Nat) {R : Type} (k : AExit → St → Option R) (t1 : Int) (t5 : List (Int × (Int × Unit))) (t54 : Int) (o0 : List Int) (kb : List (Nat × AVal) → List Obj → Option R) (x : Int × Int) : codeK (x7 N) (loopAt 9 (loopsOf b7)) (St.of [(55, (.data (.int .i64) x.1)), (1, (.data (.int .i64) t1)), (6, (.ref 0 [] 0)), (8, (.data (.int .i64) x.2)), (5, (.data (.sl false (.pair (.int .i64) (.pair (.int .i64) .unit))) t5)), (54, (.data (.int .i64) t54))] [.row (.int .i64) o0 0]) (kLoop (x7 N) 9 ⟨[55, 1, 6, 8, 5, 54], []⟩ kb k) = f7_L9 N t1 t5 t54 o0 (fun y => kb [(55, (.data (.int .i64) y.1)), (1, (.data (.int .i64) t1)), (6, (.ref 0 [] 0)), (8, (.data (.int .i64) y.2)), (5, (.data (.sl false (.pair (.int .i64) (.pair (.int .i64) .unit))) t5)), (54, (.data (.int .i64) t54))] [.row (.int .i64) o0 0])
    (fun y0 => k .ret (St.of [(4, (.data .bool y0))] []))
    (fun y0 => k (.exit 0) (St.of [(8, (.data (.int .i64) y0)), (1, (.data (.int .i64) t1)), (5, (.data (.sl false (.pair (.int .i64) (.pair (.int .i64) .unit))) t5))] [])) x := by kernel_rfl
theorem l7_9 (N : Nat) : LoopOK (x7 N) (loopAt 9 (loopsOf b7)) :=
  loop_mk (G7_9 N) (by kernel_rfl) (by kernel_rfl) (by kernel_rfl) fun R k d =>
    loop_eq (st := fun (x : Int × Int) => ([(55, (.data (.int .i64) x.1)), (1, (.data (.int .i64) d.1.2.1)), (6, (.ref 0 [] 0)), (8, (.data (.int .i64) x.2)), (5, (.data (.sl false (.pair (.int .i64) (.pair (.int .i64) .unit))) d.1.2.2.2.2.1)), (54, (.data (.int .i64) d.1.2.2.2.2.2.1))], [.row (.int .i64) d.2.1 0])) (s7_9 N k d.1.2.1 d.1.2.2.2.2.1 d.1.2.2.2.2.2.1 d.2.1) N (d.1.1, d.1.2.2.2.1)
theorem e7 (N : Nat) (a0 : List (Int × (Int × Unit))) (a1 : Int) : bodyK (x7 N) [.bool] [.tmp 4] b7 (entry (.pr (.val (.sl false (.pair (.int .i64) (.pair (.int .i64) .unit)))) (.pr (.val (.int .i64)) .un)) (a0, (a1, ()))) = f7 N a0 a1 := by kernel_rfl
theorem k7 (N : Nat) : CalleeOK Go.Proofs.Try.prog 7 (c7 N) :=
  fn_ok (fn := Go.Proofs.Try.f7) (body := b7) (c := x7 N) Go.Proofs.Try.func7 (by kernel_rfl) (by kernel_rfl) ⟨ttL_ok, mtL_ok, eqL_ok, env_cons (forall_mem1 (k9 N)) (env_cons (forall_mem1 (k22 N)) (env_cons (forall_mem1 (k23 N)) (env_cons (forall_mem1 (k25 N)) (env_cons (forall_mem1 (k26 N)) (env_cons (forall_mem1 (k27 N)) (env_nil))))))⟩ mixed (by kernel_rfl) (Nat.le_of_ble_eq_true (by kernel_rfl)) (by kernel_rfl) (by decide)
    (loops_ok (by kernel_rfl : loopsOf b7 = [loopAt 9 (loopsOf b7)]) (.cons (l7_9 N) .nil)) fun d => e7 N d.1 d.2.1
/-! ### 28: keyhole/keyholelaw44.least -/
def f28B_L7 {R : Type} (N : Nat) (r28 : (List (Int × (Int × Unit))) → Int → Int → Option (Int)) (t2 : Int) (t0 : List (Int × (Int × Unit))) (t1 : Int) (kb : Int × Int → Option R) (kx0 : Int → Option R) : Int × Int → Option R :=
  fun (t8, t7) =>
    cond (decide (t8 < t2))
      ((r28 t0 (wi64 (t1 - 1)) t8).bind fun r_1 =>
      (f25 N t0 t8 t2).bind fun r_2 =>
      cond (decide ((wi64 (r_1 + r_2)) < t7))
        (kb ((wi64 (t8 + 1)), (wi64 (r_1 + r_2))))
        (kb ((wi64 (t8 + 1)), t7)))
      (kx0 t7)
def f28B (N : Nat) (r28 : (List (Int × (Int × Unit))) → Int → Int → Option (Int)) (a0 : List (Int × (Int × Unit))) (a1 : Int) (a2 : Int) : Option (Int) :=
  cond (decide (a2 = 0))
    (some 0)
    ((f25 N a0 0 a2).bind fun r =>
    cond (decide (a1 ≤ 1))
      (some r)
      (iter (fun w => f28B_L7 N r28 a2 a0 a1 w
        (fun t7_1 =>
          some t7_1)) N (1, r)))
def c28B (N : Nat) (r28 : (List (Int × (Int × Unit))) → Int → Int → Option (Int)) : Callee := .pure (.pr (.val (.sl false (.pair (.int .i64) (.pair (.int .i64) .unit)))) (.pr (.val (.int .i64)) (.pr (.val (.int .i64)) .un))) [(.int .i64)] fun d => f28B N r28 d.1 d.2.1 d.2.2.1
def F28B_7 : SForm := ⟨[(8, (.val (.int .i64))), (7, (.val (.int .i64))), (2, (.val (.int .i64))), (0, (.val (.sl false (.pair (.int .i64) (.pair (.int .i64) .unit))))), (1, (.val (.int .i64)))], []⟩
def G28B_7 (N : Nat) (r28 : (List (Int × (Int × Unit))) → Int → Int → Option (Int)) : (R : Type) → F28B_7.den → (AExit → St → Option R) → Option R := fun R d k => iter (fun kb => f28B_L7 N r28 d.1.2.2.1 d.1.2.2.2.1 d.1.2.2.2.2.1 kb
    (fun y0 => k (.exit 0) (St.of [(7, (.data (.int .i64) y0))] []))) N (d.1.1, d.1.2.1)
def lp28B (N : Nat) (r28 : (List (Int × (Int × Unit))) → Int → Int → Option (Int)) : Nat → Option LoopFn := fun r => cond (Nat.beq r 7) (some fun R sl os k => F28B_7.take sl os fun d => G28B_7 N r28 R d k) (none)
def x28B (N : Nat) (r28 : (List (Int × (Int × Unit))) → Int → Int → Option (Int)) : Ctx := { fuel := N, tt := getL ttL, mt := getL mtL, ntmps := 38, env := fun f => (getL [(25, [c25 N]), (28, [(.pure (.pr (.val (.sl false (.pair (.int .i64) (.pair (.int .i64) .unit)))) (.pr (.val (.int .i64)) (.pr (.val (.int .i64)) .un))) [(.int .i64)] fun d => r28 d.1 d.2.1 d.2.2.1)])] f).getD [], cut := getL [(7, ⟨[8, 7, 2, 0, 1], []⟩)], exits := fun r => getL ((getL [(7, [(0, ⟨[7], []⟩)])] r).getD []), res := ⟨[6], []⟩, own := fun _ => none, lp := lp28B N r28, eqs := fun T => memN T eqL }
noncomputable def b28B : Code := ((Go.Proofs.Try.f28).body).getD .skip
theorem s28B_7 (N : Nat) (r28 : (List (Int × (Int × Unit))) → Int → Int → Option (Int)) {R : Type} (k : AExit → St → Option R) (t2 : Int) (t0 : List (Int × (Int × Unit))) (t1 : Int) (kb : List (Nat × AVal) → List Obj → Option R) (x : Int × Int) : codeK (x28B N r28) (loopAt 7 (loopsOf b28B)) (St.of [(8, (.data (.int .i64) x.1)), (7, (.data (.int .i64) x.2)), (2, (.data (.int .i64) t2)), (0, (.data (.sl false (.pair (.int .i64) (.pair (.int .i64) .unit))) t0)), (1, (.data (.int .i64) t1))] []) (kLoop (x28B N r28) 7 ⟨[8, 7, 2, 0, 1], []⟩ kb k) = f28B_L7 N r28 t2 t0 t1 (fun y => kb [(8, (.data (.int .i64) y.1)), (7, (.data (.int .i64) y.2)), (2, (.data (.int .i64) t2)), (0, (.data (.sl false (.pair (.int .i64) (.pair (.int .i64) .unit))) t0)), (1, (.data (.int .i64) t1))] [])
    (fun y0 => k (.exit 0) (St.of [(7, (.data (.int .i64) y0))] [])) x := by kernel_rfl
theorem l28B_7 (N : Nat) (r28 : (List (Int × (Int × Unit))) → Int → Int → Option (Int)) : LoopOK (x28B N r28) (loopAt 7 (loopsOf b28B)) :=
  loop_mk (G28B_7 N r28) (by kernel_rfl) (by kernel_rfl) (by kernel_rfl) fun R k d =>
    loop_eq (st := fun (x : Int × Int) => ([(8, (.data (.int .i64) x.1)), (7, (.data (.int .i64) x.2)), (2, (.data (.int .i64) d.1.2.2.1)), (0, (.data (.sl false (.pair (.int .i64) (.pair (.int .i64) .unit))) d.1.2.2.2.1)), (1, (.data (.int .i64) d.1.2.2.2.2.1))], [])) (s28B_7 N r28 k d.1.2.2.1 d.1.2.2.2.1 d.1.2.2.2.2.1) N (d.1.1, d.1.2.1)
theorem e28B (N : Nat) (r28 : (List (Int × (Int × Unit))) → Int → Int → Option (Int)) (a0 : List (Int × (Int × Unit))) (a1 : Int) (a2 : Int) : bodyK (x28B N r28) [(.int .i64)] [.tmp 6] b28B (entry (.pr (.val (.sl false (.pair (.int .i64) (.pair (.int .i64) .unit)))) (.pr (.val (.int .i64)) (.pr (.val (.int .i64)) .un))) (a0, (a1, (a2, ())))) = f28B N r28 a0 a1 a2 := by kernel_rfl
theorem k28B (N : Nat) (r28 : (List (Int × (Int × Unit))) → Int → Int → Option (Int)) (h28 : CalleeOK Go.Proofs.Try.prog 28 (.pure (.pr (.val (.sl false (.pair (.int .i64) (.pair (.int .i64) .unit)))) (.pr (.val (.int .i64)) (.pr (.val (.int .i64)) .un))) [(.int .i64)] fun d => r28 d.1 d.2.1 d.2.2.1)) : CalleeOK Go.Proofs.Try.prog 28 (c28B N r28) :=
  fn_ok (fn := Go.Proofs.Try.f28) (body := b28B) (c := x28B N r28) Go.Proofs.Try.func28 (by kernel_rfl) (by kernel_rfl) ⟨ttL_ok, mtL_ok, eqL_ok, env_cons (forall_mem1 (k25 N)) (env_cons (forall_mem1 (h28)) (env_nil))⟩ mixed (by kernel_rfl) (Nat.le_of_ble_eq_true (by kernel_rfl)) (by kernel_rfl) (by decide)
    (loops_ok (by kernel_rfl : loopsOf b28B = [loopAt 7 (loopsOf b28B)]) (.cons (l28B_7 N r28) .nil)) fun d => e28B N r28 d.1 d.2.1 d.2.2.1
def f28R (N : Nat) (M : Nat) : (List (Int × (Int × Unit))) → Int → Int → Option (Int) := Nat.rec (motive := fun _ => (List (Int × (Int × Unit))) → Int → Int → Option (Int)) (fun _ _ _ => none) (fun _ r => f28B N r) M
def f28 (N : Nat) (a0 : List (Int × (Int × Unit))) (a1 : Int) (a2 : Int) : Option (Int) := f28R N N a0 a1 a2
def c28 (N : Nat) : Callee := (.pure (.pr (.val (.sl false (.pair (.int .i64) (.pair (.int .i64) .unit)))) (.pr (.val (.int .i64)) (.pr (.val (.int .i64)) .un))) [(.int .i64)] fun d => f28 N d.1 d.2.1 d.2.2.1)
theorem k28 (N : Nat) : CalleeOK Go.Proofs.Try.prog 28 (c28 N) :=
  have h : ∀ M : Nat, CalleeOK Go.Proofs.Try.prog 28 (.pure (.pr (.val (.sl false (.pair (.int .i64) (.pair (.int .i64) .unit)))) (.pr (.val (.int .i64)) (.pr (.val (.int .i64)) .un))) [(.int .i64)] fun d => f28R N M d.1 d.2.1 d.2.2.1) := fun M => Nat.rec (motive := fun M => CalleeOK Go.Proofs.Try.prog 28 (.pure (.pr (.val (.sl false (.pair (.int .i64) (.pair (.int .i64) .unit)))) (.pr (.val (.int .i64)) (.pr (.val (.int .i64)) .un))) [(.int .i64)] fun d => f28R N M d.1 d.2.1 d.2.2.1)) (callee_none fun _ => rfl) (fun M ih => k28B N _ ih) M
  h N
/-! ### 44: cmp.isNaN[int] -/
def f44 (N : Nat) (a0 : Int) : Option (Bool) :=
  some (!(decide (a0 = a0)))
def c44 (N : Nat) : Callee := .pure (.pr (.val (.int .i64)) .un) [.bool] fun d => f44 N d.1
def lp44 (N : Nat) : Nat → Option LoopFn := fun r => none
def x44 (N : Nat) : Ctx := { fuel := N, tt := getL ttL, mt := getL mtL, ntmps := 6, env := fun f => (getL [] f).getD [], cut := getL [], exits := fun r => getL ((getL [] r).getD []), res := ⟨[2], []⟩, own := fun _ => none, lp := lp44 N, eqs := fun T => memN T eqL }
noncomputable def b44 : Code := ((Go.Proofs.Try.f44).body).getD .skip
theorem e44 (N : Nat) (a0 : Int) : bodyK (x44 N) [.bool] [.tmp 2] b44 (entry (.pr (.val (.int .i64)) .un) (a0, ())) = f44 N a0 := by kernel_rfl
theorem k44 (N : Nat) : CalleeOK Go.Proofs.Try.prog 44 (c44 N) :=
  fn_ok (fn := Go.Proofs.Try.f44) (body := b44) (c := x44 N) Go.Proofs.Try.func44 (by kernel_rfl) (by kernel_rfl) ⟨ttL_ok, mtL_ok, eqL_ok, env_nil⟩ mixed (by kernel_rfl) (Nat.le_of_ble_eq_true (by kernel_rfl)) (by kernel_rfl) (by decide)
    (loops_ok (by kernel_rfl : loopsOf b44 = []) .nil) fun d => e44 N d.1
/-! ### 40: cmp.Compare[int] -/
def f40 (N : Nat) (a0 : Int) (a1 : Int) : Option (Int) :=
  (f44 N a0).bind fun r =>
  (f44 N a1).bind fun r_1 =>
  cond r
    (cond r_1
      (some 0)
      (some (-1)))
    (cond r_1
      (some 1)
      (cond (decide (a0 < a1))
        (some (-1))
        (cond (decide (a1 < a0))
          (some 1)
          (some 0))))
def c40 (N : Nat) : Callee := .pure (.pr (.val (.int .i64)) (.pr (.val (.int .i64)) .un)) [(.int .i64)] fun d => f40 N d.1 d.2.1
def lp40 (N : Nat) : Nat → Option LoopFn := fun r => none
def x40 (N : Nat) : Ctx := { fuel := N, tt := getL ttL, mt := getL mtL, ntmps := 20, env := fun f => (getL [(44, [c44 N])] f).getD [], cut := getL [], exits := fun r => getL ((getL [] r).getD []), res := ⟨[4], []⟩, own := fun _ => none, lp := lp40 N, eqs := fun T => memN T eqL }
noncomputable def b40 : Code := ((Go.Proofs.Try.f40).body).getD .skip
theorem e40 (N : Nat) (a0 : Int) (a1 : Int) : bodyK (x40 N) [(.int .i64)] [.tmp 4] b40 (entry (.pr (.val (.int .i64)) (.pr (.val (.int .i64)) .un)) (a0, (a1, ()))) = f40 N a0 a1 := by kernel_rfl
theorem k40 (N : Nat) : CalleeOK Go.Proofs.Try.prog 40 (c40 N) :=
  fn_ok (fn := Go.Proofs.Try.f40) (body := b40) (c := x40 N) Go.Proofs.Try.func40 (by kernel_rfl) (by kernel_rfl) ⟨ttL_ok, mtL_ok, eqL_ok, env_cons (forall_mem1 (k44 N)) (env_nil)⟩ mixed (by kernel_rfl) (Nat.le_of_ble_eq_true (by kernel_rfl)) (by kernel_rfl) (by decide)
    (loops_ok (by kernel_rfl : loopsOf b40 = []) .nil) fun d => e40 N d.1 d.2.1
/-! ### 29: slices.Compare[[]int,int] -/
def f29_L2 {R : Type} (N : Nat) (t1 : List Int) (t9 : List Int) (t0 : List Int) (t10 : Int) (kb : Int → Option R) (kret : Int → Option R) (kx0 : Unit → Option R) : Int → Option R :=
  fun t11 =>
    cond (decide (t11 < t10))
      ((idx t9 t11).bind fun x =>
      cond (decide ((len t1) ≤ t11))
        (kret 1)
        ((idx t1 t11).bind fun x_1 =>
        (f40 N x x_1).bind fun r =>
        cond (!(decide (r = 0)))
          (kret r)
          (kb (wi64 (t11 + 1)))))
      (kx0 ())
def f29 (N : Nat) (a0 : List Int) (a1 : List Int) : Option (Int) :=
  iter (fun w => f29_L2 N a1 a0 a0 (len a0) w
    (fun t4 =>
      some t4)
    (fun (_ : Unit) =>
      cond (decide ((len a0) < (len a1)))
        (some (-1))
        (some 0))) N 0
def c29 (N : Nat) : Callee := .pure (.pr (.val (.sl false (.int .i64))) (.pr (.val (.sl false (.int .i64))) .un)) [(.int .i64)] fun d => f29 N d.1 d.2.1
def F29_2 : SForm := ⟨[(11, (.val (.int .i64))), (1, (.val (.sl false (.int .i64)))), (9, (.val (.sl false (.int .i64)))), (0, (.val (.sl false (.int .i64)))), (10, (.val (.int .i64)))], []⟩
def G29_2 (N : Nat) : (R : Type) → F29_2.den → (AExit → St → Option R) → Option R := fun R d k => iter (fun kb => f29_L2 N d.1.2.1 d.1.2.2.1 d.1.2.2.2.1 d.1.2.2.2.2.1 kb
    (fun y0 => k .ret (St.of [(4, (.data (.int .i64) y0))] []))
    (fun _ => k (.exit 0) (St.of [(1, (.data (.sl false (.int .i64)) d.1.2.1)), (0, (.data (.sl false (.int .i64)) d.1.2.2.2.1))] []))) N d.1.1
def lp29 (N : Nat) : Nat → Option LoopFn := fun r => cond (Nat.beq r 2) (some fun R sl os k => F29_2.take sl os fun d => G29_2 N R d k) (none)
def x29 (N : Nat) : Ctx := { fuel := N, tt := getL ttL, mt := getL mtL, ntmps := 36, env := fun f => (getL [(40, [c40 N])] f).getD [], cut := getL [(2, ⟨[11, 1, 9, 0, 10], []⟩)], exits := fun r => getL ((getL [(2, [(0, ⟨[1, 0], []⟩)])] r).getD []), res := ⟨[4], []⟩, own := fun _ => none, lp := lp29 N, eqs := fun T => memN T eqL }
noncomputable def b29 : Code := ((Go.Proofs.Try.f29).body).getD .skip
theorem s29_2 (N : Nat) {R : Type} (k : AExit → St → Option R) (t1 : List Int) (t9 : List Int) (t0 : List Int) (t10 : Int) (kb : List (Nat × AVal) → List Obj → Option R) (x : Int) : codeK (x29 N) (loopAt 2 (loopsOf b29)) (St.of [(11, (.data (.int .i64) x)), (1, (.data (.sl false (.int .i64)) t1)), (9, (.data (.sl false (.int .i64)) t9)), (0, (.data (.sl false (.int .i64)) t0)), (10, (.data (.int .i64) t10))] []) (kLoop (x29 N) 2 ⟨[11, 1, 9, 0, 10], []⟩ kb k) = f29_L2 N t1 t9 t0 t10 (fun y => kb [(11, (.data (.int .i64) y)), (1, (.data (.sl false (.int .i64)) t1)), (9, (.data (.sl false (.int .i64)) t9)), (0, (.data (.sl false (.int .i64)) t0)), (10, (.data (.int .i64) t10))] [])
    (fun y0 => k .ret (St.of [(4, (.data (.int .i64) y0))] []))
    (fun _ => k (.exit 0) (St.of [(1, (.data (.sl false (.int .i64)) t1)), (0, (.data (.sl false (.int .i64)) t0))] [])) x := by kernel_rfl
theorem l29_2 (N : Nat) : LoopOK (x29 N) (loopAt 2 (loopsOf b29)) :=
  loop_mk (G29_2 N) (by kernel_rfl) (by kernel_rfl) (by kernel_rfl) fun R k d =>
    loop_eq (st := fun (x : Int) => ([(11, (.data (.int .i64) x)), (1, (.data (.sl false (.int .i64)) d.1.2.1)), (9, (.data (.sl false (.int .i64)) d.1.2.2.1)), (0, (.data (.sl false (.int .i64)) d.1.2.2.2.1)), (10, (.data (.int .i64) d.1.2.2.2.2.1))], [])) (s29_2 N k d.1.2.1 d.1.2.2.1 d.1.2.2.2.1 d.1.2.2.2.2.1) N d.1.1
theorem e29 (N : Nat) (a0 : List Int) (a1 : List Int) : bodyK (x29 N) [(.int .i64)] [.tmp 4] b29 (entry (.pr (.val (.sl false (.int .i64))) (.pr (.val (.sl false (.int .i64))) .un)) (a0, (a1, ()))) = f29 N a0 a1 := by kernel_rfl
theorem k29 (N : Nat) : CalleeOK Go.Proofs.Try.prog 29 (c29 N) :=
  fn_ok (fn := Go.Proofs.Try.f29) (body := b29) (c := x29 N) Go.Proofs.Try.func29 (by kernel_rfl) (by kernel_rfl) ⟨ttL_ok, mtL_ok, eqL_ok, env_cons (forall_mem1 (k40 N)) (env_nil)⟩ mixed (by kernel_rfl) (Nat.le_of_ble_eq_true (by kernel_rfl)) (by kernel_rfl) (by decide)
    (loops_ok (by kernel_rfl : loopsOf b29 = [loopAt 2 (loopsOf b29)]) (.cons (l29_2 N) .nil)) fun d => e29 N d.1 d.2.1
-- FAILS 8 keyhole/keyholelaw44.BucketBest: [Go.Op.binOp Go.BinOp.shl (OfNat.ofNat.{0} Nat 3 (instOfNatNat 3)) (Go.Operand.const (Go.Value.int Go.IntKind.i64 (OfNat.ofNat.{0} Int 1 (instOfNat 1)))) (Go.Operand.tmp (OfNat.ofNat.{0} Nat 101 (instOfNatNat 101))) (OfNat.ofNat.{0} Nat 3 (instOfNatNat 3)), Go.Op.binOp Go.BinOp.shr (OfNat.ofNat.{0} Nat 3 (instOfNatNat 3)) (Go.Operand.tmp (OfNat.ofNat.{0} Nat 118 (instOfNatNat 118))) (Go.Operand.tmp (OfNat.ofNat.{0} Nat 119 (instOfNatNat 119))) (OfNat.ofNat.{0} Nat 3 (instOfNatNat 3))]
/-! ### 8: keyhole/keyholelaw44.BucketBest -/
def f8_L15 {R : Type} (N : Nat) (t5_1 : List (Int × (Int × Unit))) (t12 : Int) (t7_1 : Int) (t1_1 : Int) (t102_1 : Int) (t103_1 : Int) (t108 : Int) (o1 : List Int) (kb : Int × List Int → Option R) (kx2 : (List Int) → Option R) : Int × List Int → Option R :=
  fun (t109, o0_1) =>
    cond (decide (t109 < t108))
      ((cond (decide (t109 = (wi64 ((len t5_1) - 1))))
          (some true)
          (cond (decide (t109 < 0))
            (none /- Go.Op.binOp Go.BinOp.shr (OfNat.ofNat.{0} Nat 3 (instOfNatNat 3)) (Go.Operand.tmp (OfNat.ofNat.{0} Nat 118 (instOfNatNat 118))) (Go.Operand.tmp (OfNat.ofNat.{0} Nat 119 (instOfNatNat 119))) (OfNat.ofNat.{0} Nat 3 (instOfNatNat 3)) -/)
            (some (decide ((wi64 (((((BitVec.ofInt 64 (Int.fdiv t12 (Int.pow 2 (min (Int.toNat t109) 64)))).and (BitVec.ofInt 64 1)).toNat) : Nat) : Int)) = 1))))).bind fun b_10 =>
      cond b_10
        ((idx t5_1 t109).bind fun x =>
        chk (decide ((o0_1.length.succ) ≤ room)) <|
        kb ((wi64 (t109 + 1)), (o0_1 ++ (x.1 :: ([] : List Int)))))
        (kb ((wi64 (t109 + 1)), o0_1)))
      (kx2 o0_1)
def f8_L11 {R : Type} (N : Nat) (t5 : List (Int × (Int × Unit))) (t7 : Int) (t1 : Int) (t102 : Int) (o0 : List Int) (kb : Int → Option R) (kret : Bool → Option R) (kx0 : Unit → Option R) : Int → Option R :=
  fun t103 =>
    cond (decide (t103 < t102))
      (iter (fun w => f8_L15 N t5 t103 t7 t1 t102 t103 (len t5) o0 w
        (fun o1_1 =>
          (f11 N t5 o1_1).bind fun r_7 =>
          (cond (decide ((len o1_1) ≤ t1))
              ((cond (decide (r_7.1 < t7))
                  (some true)
                  ((cond (decide (r_7.1 = t7))
                      ((cond (decide ((len o1_1) < (len o0)))
                          (some true)
                          ((cond (decide ((len o1_1) = (len o0)))
                              ((f29 N o1_1 o0).bind fun r_8 =>
                              some (decide (r_8 < 0)))
                              (some false)).bind fun b_11 =>
                          some b_11)).bind fun b_12 =>
                      some b_12)
                      (some false)).bind fun b_13 =>
                  some b_13)).bind fun b_14 =>
              some b_14)
              (some false)).bind fun b_15 =>
          cond b_15
            (kret false)
            (kb (wi64 (t103 + 1))))) N (0, ([] : List Int)))
      (kx0 ())
def f8 (N : Nat) (a0 : List (Int × (Int × Unit))) (a1 : Int) : Option (Bool) :=
  (f9 N).bind fun r =>
  cond (!r)
    (some false)
    ((f22 N a0 7).bind fun r_1 =>
    (f26 N r_1 a1).bind fun r_2 =>
    (cond (decide (a1 < 1))
        (some true)
        (some (decide (32 < a1)))).bind fun b =>
    cond b
      ((cond (decide (r_2.2.2.2 = 3))
          (some (decide ((len r_2.1) = 0)))
          (some false)).bind fun b_1 =>
      (cond b_1
          (some (decide (r_2.2.1 = 0)))
          (some false)).bind fun b_2 =>
      (cond b_2
          (some (decide ((len r_2.2.2.1) = 0)))
          (some false)).bind fun b_3 =>
      some b_3)
      ((f11 N r_1 r_2.1).bind fun r_3 =>
      (cond (!(decide (r_2.2.2.2 = 0)))
          (some true)
          (some (!(decide (r_3.2 = 0))))).bind fun b_4 =>
      (cond b_4
          (some true)
          (some (decide (a1 < (len r_2.1))))).bind fun b_5 =>
      (cond b_5
          (some true)
          (some (!(decide (r_2.2.1 = r_3.1))))).bind fun b_6 =>
      (cond b_6
          (some true)
          ((f28 N r_1 a1 (len r_1)).bind fun r_4 =>
          some (!(decide (r_2.2.1 = r_4))))).bind fun b_7 =>
      (cond b_7
          (some true)
          ((f18 N r_1 a1 r_2.2.2.1 r_2.2.1).bind fun r_5 =>
          some (!(decide (r_5 = 0))))).bind fun b_8 =>
      (cond b_8
          (some true)
          ((f19 N r_1 a1 r_2.2.2.1 r_2.2.1).bind fun r_6 =>
          some (!(decide (r_6 = 0))))).bind fun b_9 =>
      cond b_9
        (some false)
        (cond (decide ((wi64 ((len r_1) - 1)) < 0))
          (none /- Go.Op.binOp Go.BinOp.shl (OfNat.ofNat.{0} Nat 3 (instOfNatNat 3)) (Go.Operand.const (Go.Value.int Go.IntKind.i64 (OfNat.ofNat.{0} Int 1 (instOfNat 1)))) (Go.Operand.tmp (OfNat.ofNat.{0} Nat 101 (instOfNatNat 101))) (OfNat.ofNat.{0} Nat 3 (instOfNatNat 3)) -/)
          (iter (fun w => f8_L11 N r_1 r_2.2.1 a1 (wi64 (1 * (2 ^ (min (Int.toNat (wi64 ((len r_1) - 1))) 64)))) r_2.1 w
            (fun t4 =>
              some t4)
            (fun (_ : Unit) =>
              some true)) N 0))))
def c8 (N : Nat) : Callee := .pure (.pr (.val (.sl false (.pair (.int .i64) (.pair (.int .i64) .unit)))) (.pr (.val (.int .i64)) .un)) [.bool] fun d => f8 N d.1 d.2.1
def F8_15 : SForm := ⟨[(109, (.val (.int .i64))), (5, (.val (.sl false (.pair (.int .i64) (.pair (.int .i64) .unit))))), (13, (.ref 0)), (12, (.val (.int .i64))), (6, (.ref 1)), (7, (.val (.int .i64))), (1, (.val (.int .i64))), (102, (.val (.int .i64))), (103, (.val (.int .i64))), (108, (.val (.int .i64)))], [.row (.int .i64), .row (.int .i64)]⟩
def G8_15 (N : Nat) : (R : Type) → F8_15.den → (AExit → St → Option R) → Option R := fun R d k => iter (fun kb => f8_L15 N d.1.2.1 d.1.2.2.2.1 d.1.2.2.2.2.2.1 d.1.2.2.2.2.2.2.1 d.1.2.2.2.2.2.2.2.1 d.1.2.2.2.2.2.2.2.2.1 d.1.2.2.2.2.2.2.2.2.2.1 d.2.2.1 kb
    (fun y6 => k (.exit 2) (St.of [(5, (.data (.sl false (.pair (.int .i64) (.pair (.int .i64) .unit))) d.1.2.1)), (6, (.ref 0 [] 0)), (7, (.data (.int .i64) d.1.2.2.2.2.2.1)), (1, (.data (.int .i64) d.1.2.2.2.2.2.2.1)), (102, (.data (.int .i64) d.1.2.2.2.2.2.2.2.1)), (103, (.data (.int .i64) d.1.2.2.2.2.2.2.2.2.1)), (13, (.ref 1 [] 0))] [.row (.int .i64) d.2.2.1 0, .row (.int .i64) y6 0]))) N (d.1.1, d.2.1)
def F8_11 : SForm := ⟨[(5, (.val (.sl false (.pair (.int .i64) (.pair (.int .i64) .unit))))), (103, (.val (.int .i64))), (6, (.ref 0)), (7, (.val (.int .i64))), (1, (.val (.int .i64))), (102, (.val (.int .i64)))], [.row (.int .i64)]⟩
def G8_11 (N : Nat) : (R : Type) → F8_11.den → (AExit → St → Option R) → Option R := fun R d k => iter (fun kb => f8_L11 N d.1.1 d.1.2.2.2.1 d.1.2.2.2.2.1 d.1.2.2.2.2.2.1 d.2.1 kb
    (fun y0 => k .ret (St.of [(4, (.data .bool y0))] []))
    (fun _ => k (.exit 0) (St.of [] []))) N d.1.2.1
def lp8 (N : Nat) : Nat → Option LoopFn := fun r => cond (Nat.beq r 15) (some fun R sl os k => F8_15.take sl os fun d => G8_15 N R d k) (cond (Nat.beq r 11) (some fun R sl os k => F8_11.take sl os fun d => G8_11 N R d k) (none))
def x8 (N : Nat) : Ctx := { fuel := N, tt := getL ttL, mt := getL mtL, ntmps := 174, env := fun f => (getL [(9, [c9 N]), (22, [c22 N]), (26, [c26 N]), (11, [c11 N]), (28, [c28 N]), (18, [c18 N]), (19, [c19 N]), (29, [c29 N])] f).getD [], cut := getL [(11, ⟨[5, 103, 6, 7, 1, 102], []⟩), (15, ⟨[109, 5, 13, 12, 6, 7, 1, 102, 103, 108], []⟩)], exits := fun r => getL ((getL [(11, [(0, ⟨[], []⟩)]), (15, [(2, ⟨[5, 6, 7, 1, 102, 103, 13], []⟩)])] r).getD []), res := ⟨[4], []⟩, own := fun _ => none, lp := lp8 N, eqs := fun T => memN T eqL }
noncomputable def b8 : Code := ((Go.Proofs.Try.f8).body).getD .skip
theorem s8_15 (N : Nat) {R : Type} (k : AExit → St → Option R) (t5_1 : List (Int × (Int × Unit))) (t12 : Int) (t7_1 : Int) (t1_1 : Int) (t102_1 : Int) (t103_1 : Int) (t108 : Int) (o1 : List Int) (kb : List (Nat × AVal) → List Obj → Option R) (x : Int × List Int) : codeK (x8 N) (loopAt 15 (loopsOf b8)) (St.of [(109, (.data (.int .i64) x.1)), (5, (.data (.sl false (.pair (.int .i64) (.pair (.int .i64) .unit))) t5_1)), (13, (.ref 0 [] 0)), (12, (.data (.int .i64) t12)), (6, (.ref 1 [] 0)), (7, (.data (.int .i64) t7_1)), (1, (.data (.int .i64) t1_1)), (102, (.data (.int .i64) t102_1)), (103, (.data (.int .i64) t103_1)), (108, (.data (.int .i64) t108))] [.row (.int .i64) x.2 0, .row (.int .i64) o1 0]) (kLoop (x8 N) 15 ⟨[109, 5, 13, 12, 6, 7, 1, 102, 103, 108], []⟩ kb k) = f8_L15 N t5_1 t12 t7_1 t1_1 t102_1 t103_1 t108 o1 (fun y => kb [(109, (.data (.int .i64) y.1)), (5, (.data (.sl false (.pair (.int .i64) (.pair (.int .i64) .unit))) t5_1)), (13, (.ref 0 [] 0)), (12, (.data (.int .i64) t12)), (6, (.ref 1 [] 0)), (7, (.data (.int .i64) t7_1)), (1, (.data (.int .i64) t1_1)), (102, (.data (.int .i64) t102_1)), (103, (.data (.int .i64) t103_1)), (108, (.data (.int .i64) t108))] [.row (.int .i64) y.2 0, .row (.int .i64) o1 0])
    (fun y6 => k (.exit 2) (St.of [(5, (.data (.sl false (.pair (.int .i64) (.pair (.int .i64) .unit))) t5_1)), (6, (.ref 0 [] 0)), (7, (.data (.int .i64) t7_1)), (1, (.data (.int .i64) t1_1)), (102, (.data (.int .i64) t102_1)), (103, (.data (.int .i64) t103_1)), (13, (.ref 1 [] 0))] [.row (.int .i64) o1 0, .row (.int .i64) y6 0])) x := by kernel_rfl
theorem l8_15 (N : Nat) : LoopOK (x8 N) (loopAt 15 (loopsOf b8)) :=
  loop_mk (G8_15 N) (by kernel_rfl) (by kernel_rfl) (by kernel_rfl) fun R k d =>
    loop_eq (st := fun (x : Int × List Int) => ([(109, (.data (.int .i64) x.1)), (5, (.data (.sl false (.pair (.int .i64) (.pair (.int .i64) .unit))) d.1.2.1)), (13, (.ref 0 [] 0)), (12, (.data (.int .i64) d.1.2.2.2.1)), (6, (.ref 1 [] 0)), (7, (.data (.int .i64) d.1.2.2.2.2.2.1)), (1, (.data (.int .i64) d.1.2.2.2.2.2.2.1)), (102, (.data (.int .i64) d.1.2.2.2.2.2.2.2.1)), (103, (.data (.int .i64) d.1.2.2.2.2.2.2.2.2.1)), (108, (.data (.int .i64) d.1.2.2.2.2.2.2.2.2.2.1))], [.row (.int .i64) x.2 0, .row (.int .i64) d.2.2.1 0])) (s8_15 N k d.1.2.1 d.1.2.2.2.1 d.1.2.2.2.2.2.1 d.1.2.2.2.2.2.2.1 d.1.2.2.2.2.2.2.2.1 d.1.2.2.2.2.2.2.2.2.1 d.1.2.2.2.2.2.2.2.2.2.1 d.2.2.1) N (d.1.1, d.2.1)
theorem s8_11 (N : Nat) {R : Type} (k : AExit → St → Option R) (t5 : List (Int × (Int × Unit))) (t7 : Int) (t1 : Int) (t102 : Int) (o0 : List Int) (kb : List (Nat × AVal) → List Obj → Option R) (x : Int) : codeK (x8 N) (loopAt 11 (loopsOf b8)) (St.of [(5, (.data (.sl false (.pair (.int .i64) (.pair (.int .i64) .unit))) t5)), (103, (.data (.int .i64) x)), (6, (.ref 0 [] 0)), (7, (.data (.int .i64) t7)), (1, (.data (.int .i64) t1)), (102, (.data (.int .i64) t102))] [.row (.int .i64) o0 0]) (kLoop (x8 N) 11 ⟨[5, 103, 6, 7, 1, 102], []⟩ kb k) = f8_L11 N t5 t7 t1 t102 o0 (fun y => kb [(5, (.data (.sl false (.pair (.int .i64) (.pair (.int .i64) .unit))) t5)), (103, (.data (.int .i64) y)), (6, (.ref 0 [] 0)), (7, (.data (.int .i64) t7)), (1, (.data (.int .i64) t1)), (102, (.data (.int .i64) t102))] [.row (.int .i64) o0 0])
    (fun y0 => k .ret (St.of [(4, (.data .bool y0))] []))
    (fun _ => k (.exit 0) (St.of [] [])) x := by kernel_rfl
theorem l8_11 (N : Nat) : LoopOK (x8 N) (loopAt 11 (loopsOf b8)) :=
  loop_mk (G8_11 N) (by kernel_rfl) (by kernel_rfl) (by kernel_rfl) fun R k d =>
    loop_eq (st := fun (x : Int) => ([(5, (.data (.sl false (.pair (.int .i64) (.pair (.int .i64) .unit))) d.1.1)), (103, (.data (.int .i64) x)), (6, (.ref 0 [] 0)), (7, (.data (.int .i64) d.1.2.2.2.1)), (1, (.data (.int .i64) d.1.2.2.2.2.1)), (102, (.data (.int .i64) d.1.2.2.2.2.2.1))], [.row (.int .i64) d.2.1 0])) (s8_11 N k d.1.1 d.1.2.2.2.1 d.1.2.2.2.2.1 d.1.2.2.2.2.2.1 d.2.1) N d.1.2.1
theorem e8 (N : Nat) (a0 : List (Int × (Int × Unit))) (a1 : Int) : bodyK (x8 N) [.bool] [.tmp 4] b8 (entry (.pr (.val (.sl false (.pair (.int .i64) (.pair (.int .i64) .unit)))) (.pr (.val (.int .i64)) .un)) (a0, (a1, ()))) = f8 N a0 a1 := by kernel_rfl
theorem k8 (N : Nat) : CalleeOK Go.Proofs.Try.prog 8 (c8 N) :=
  fn_ok (fn := Go.Proofs.Try.f8) (body := b8) (c := x8 N) Go.Proofs.Try.func8 (by kernel_rfl) (by kernel_rfl) ⟨ttL_ok, mtL_ok, eqL_ok, env_cons (forall_mem1 (k9 N)) (env_cons (forall_mem1 (k22 N)) (env_cons (forall_mem1 (k26 N)) (env_cons (forall_mem1 (k11 N)) (env_cons (forall_mem1 (k28 N)) (env_cons (forall_mem1 (k18 N)) (env_cons (forall_mem1 (k19 N)) (env_cons (forall_mem1 (k29 N)) (env_nil))))))))⟩ mixed (by kernel_rfl) (Nat.le_of_ble_eq_true (by kernel_rfl)) (by kernel_rfl) (by decide)
    (loops_ok (by kernel_rfl : loopsOf b8 = [loopAt 11 (loopsOf b8), loopAt 15 (loopsOf b8)]) (.cons (l8_11 N) (.cons (l8_15 N) .nil))) fun d => e8 N d.1 d.2.1

end
end Go.Kz
