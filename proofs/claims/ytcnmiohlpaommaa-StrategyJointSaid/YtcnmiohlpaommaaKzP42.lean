/-
  The functions of the program as plain functions on lists and numbers, and the proofs that the program computes them. Printed by a program.
-/
import Derived.Test.YtcnmiohlpaommaaKzAN
import Derived.Test.YtcnmiohlpaommaaProg
set_option linter.unusedSimpArgs false
set_option maxRecDepth 100000
set_option linter.unusedVariables false
namespace Go.Kz
open Go.Proofs

def ttL : List (Nat × Ty) := [(2, (.int .i64)), (3, (.int .i64)), (4, .bool), (5, (.int .u8)), (6, (.int .u8)), (7, (.pair (.int .i64) (.pair (.int .i64) (.pair .bool (.pair (.int .u8) .unit))))), (8, (.pair (.int .i64) (.pair (.int .i64) (.pair .bool (.pair (.int .u8) .unit))))), (9, .str), (10, .str), (11, .str), (12, (.int .u64)), (13, (.pair .str (.pair (.int .u64) .unit))), (14, (.pair .str (.pair (.int .u64) .unit))), (21, (.int .i32)), (22, (.sl false (.sl false (.int .i64)))), (23, (.pair (.int .i64) (.pair (.sl false (.sl false (.int .i64))) .unit))), (24, (.pair (.int .i64) (.pair (.sl false (.sl false (.int .i64))) .unit))), (25, (.sl false (.pair (.int .i64) (.pair (.sl false (.int .i64)) .unit)))), (26, (.sl false (.pair (.int .i64) (.pair (.sl false (.int .i64)) .unit)))), (29, (.int .i64)), (31, (.sl false (.int .i64))), (38, (.sl false (.pair (.int .i64) (.pair (.int .i64) .unit)))), (42, (.pair (.int .i64) (.pair (.sl false (.int .i64)) .unit))), (43, (.pair (.int .i64) (.pair (.sl false (.int .i64)) .unit))), (48, (.sl false (.sl false (.int .i64)))), (58, (.pair (.int .i64) (.pair (.int .i64) .unit))), (59, (.pair (.int .i64) (.pair (.int .i64) .unit))), (69, (.sl false (.sl false (.pair (.int .i64) (.pair (.int .i64) .unit))))), (74, (.int .u64)), (75, (.arr 62 (.int .u64))), (93, (.int .u32)), (94, (.int .u8)), (95, (.int .u8)), (98, (.int .i32)), (99, (.int .i32))]
def mtL : List (Nat × Ty × Ty) := [(78, (.int .i64), (.int .i64))]
def eqL : List Nat := [7, 8, 58, 59]
theorem ttL_ok : TtOK Try.prog (getL ttL) := ttB_ok (by kernel_rfl)
theorem mtL_ok : MtOK Try.prog (getL mtL) := mtB_ok (by kernel_rfl)
theorem eqL_ok : EqsOK Try.prog (fun T => memN T eqL) := eqsB_ok (by kernel_rfl)
theorem mixed : Try.prog.follows .mixedOrders = true := by kernel_rfl

/-! ### 39: keyhole/keyholelaw42.example -/
def f39 (N : Nat) : Option ((Int × (List (List Int) × Unit)) × (List (Int × (List Int × Unit)))) :=
  some ((4, (((0 :: (0 :: (1 :: (1 :: ([] : List Int))))) :: ((0 :: (1 :: (1 :: (0 :: ([] : List Int))))) :: ([] : List (List Int)))), ())), ((0, ((1 :: ((-1) :: ([] : List Int))), ())) :: ((1, (((-1) :: ((-1) :: ([] : List Int))), ())) :: ([] : List (Int × (List Int × Unit))))))
def c39 (N : Nat) : Callee := .pure .un [(.pair (.int .i64) (.pair (.sl true (.sl false (.int .i64))) .unit)), (.sl true (.pair (.int .i64) (.pair (.sl false (.int .i64)) .unit)))] fun d => f39 N 
def lp39 (N : Nat) : Nat → Option LoopFn := fun r => none
def x39 (N : Nat) : Ctx := { fuel := N, tt := getL ttL, mt := getL mtL, ntmps := 11, env := fun f => (getL [] f).getD [], cut := getL [], exits := fun r => getL ((getL [] r).getD []), res := ⟨[0, 1], []⟩, own := fun _ => none, lp := lp39 N, eqs := fun T => memN T eqL }
noncomputable def b39 : Code := ((Go.Proofs.Try.f39).body).getD .skip
theorem e39 (N : Nat) : bodyK (x39 N) [(.pair (.int .i64) (.pair (.sl true (.sl false (.int .i64))) .unit)), (.sl true (.pair (.int .i64) (.pair (.sl false (.int .i64)) .unit)))] [.cell 0 24, .tmp 1] b39 (entry .un ()) = f39 N := by kernel_rfl
theorem k39 (N : Nat) : CalleeOK Go.Proofs.Try.prog 39 (c39 N) :=
  fn_ok (fn := Go.Proofs.Try.f39) (body := b39) (c := x39 N) Go.Proofs.Try.func39 (by kernel_rfl) (by kernel_rfl) ⟨ttL_ok, mtL_ok, eqL_ok, env_nil⟩ mixed (by kernel_rfl) (Nat.le_of_ble_eq_true (by kernel_rfl)) (by kernel_rfl) (by decide)
    (loops_ok (by kernel_rfl : loopsOf b39 = []) .nil) fun d => e39 N 
/-! ### 44: keyhole/partition.Valid -/
def f44_L3 {R : Type} (N : Nat) (t6 : List Int) (t7 : Int) (kb : Int × Int → Option R) (kret : Bool → Option R) (kx0 : Unit → Option R) : Int × Int → Option R :=
  fun (t8, t3) =>
    cond (decide (t8 < t7))
      ((idx t6 t8).bind fun x =>
      (cond (decide (x < 0))
          (some true)
          (some (decide (t3 < x)))).bind fun b =>
      cond b
        (kret false)
        (kb ((wi64 (t8 + 1)), (maxI t3 (wi64 (x + 1))))))
      (kx0 ())
def f44 (N : Nat) (a0 : List Int) : Option (Bool) :=
  iter (fun w => f44_L3 N a0 (len a0) w
    (fun t2 =>
      some t2)
    (fun (_ : Unit) =>
      some true)) N (0, 0)
def c44 (N : Nat) : Callee := .pure (.pr (.val (.sl false (.int .i64))) .un) [.bool] fun d => f44 N d.1
def F44_3 : SForm := ⟨[(8, (.val (.int .i64))), (3, (.val (.int .i64))), (6, (.val (.sl false (.int .i64)))), (7, (.val (.int .i64)))], []⟩
def G44_3 (N : Nat) : (R : Type) → F44_3.den → (AExit → St → Option R) → Option R := fun R d k => iter (fun kb => f44_L3 N d.1.2.2.1 d.1.2.2.2.1 kb
    (fun y0 => k .ret (St.of [(2, (.data .bool y0))] []))
    (fun _ => k (.exit 0) (St.of [] []))) N (d.1.1, d.1.2.1)
def lp44 (N : Nat) : Nat → Option LoopFn := fun r => cond (Nat.beq r 3) (some fun R sl os k => F44_3.take sl os fun d => G44_3 N R d k) (none)
def x44 (N : Nat) : Ctx := { fuel := N, tt := getL ttL, mt := getL mtL, ntmps := 24, env := fun f => (getL [] f).getD [], cut := getL [(3, ⟨[8, 3, 6, 7], []⟩)], exits := fun r => getL ((getL [(3, [(0, ⟨[], []⟩)])] r).getD []), res := ⟨[2], []⟩, own := fun _ => none, lp := lp44 N, eqs := fun T => memN T eqL }
noncomputable def b44 : Code := ((Go.Proofs.Try.f44).body).getD .skip
theorem s44_3 (N : Nat) {R : Type} (k : AExit → St → Option R) (t6 : List Int) (t7 : Int) (kb : List (Nat × AVal) → List Obj → Option R) (x : Int × Int) : codeK (x44 N) (loopAt 3 (loopsOf b44)) (St.of [(8, (.data (.int .i64) x.1)), (3, (.data (.int .i64) x.2)), (6, (.data (.sl false (.int .i64)) t6)), (7, (.data (.int .i64) t7))] []) (kLoop (x44 N) 3 ⟨[8, 3, 6, 7], []⟩ kb k) = f44_L3 N t6 t7 (fun y => kb [(8, (.data (.int .i64) y.1)), (3, (.data (.int .i64) y.2)), (6, (.data (.sl false (.int .i64)) t6)), (7, (.data (.int .i64) t7))] [])
    (fun y0 => k .ret (St.of [(2, (.data .bool y0))] []))
    (fun _ => k (.exit 0) (St.of [] [])) x := by kernel_rfl
theorem l44_3 (N : Nat) : LoopOK (x44 N) (loopAt 3 (loopsOf b44)) :=
  loop_mk (G44_3 N) (by kernel_rfl) (by kernel_rfl) (by kernel_rfl) fun R k d =>
    loop_eq (st := fun (x : Int × Int) => ([(8, (.data (.int .i64) x.1)), (3, (.data (.int .i64) x.2)), (6, (.data (.sl false (.int .i64)) d.1.2.2.1)), (7, (.data (.int .i64) d.1.2.2.2.1))], [])) (s44_3 N k d.1.2.2.1 d.1.2.2.2.1) N (d.1.1, d.1.2.1)
theorem e44 (N : Nat) (a0 : List Int) : bodyK (x44 N) [.bool] [.tmp 2] b44 (entry (.pr (.val (.sl false (.int .i64))) .un) (a0, ())) = f44 N a0 := by kernel_rfl
theorem k44 (N : Nat) : CalleeOK Go.Proofs.Try.prog 44 (c44 N) :=
  fn_ok (fn := Go.Proofs.Try.f44) (body := b44) (c := x44 N) Go.Proofs.Try.func44 (by kernel_rfl) (by kernel_rfl) ⟨ttL_ok, mtL_ok, eqL_ok, env_nil⟩ mixed (by kernel_rfl) (Nat.le_of_ble_eq_true (by kernel_rfl)) (by kernel_rfl) (by decide)
    (loops_ok (by kernel_rfl : loopsOf b44 = [loopAt 3 (loopsOf b44)]) (.cons (l44_3 N) .nil)) fun d => e44 N d.1
/-! ### 17: keyhole/strategy.CheckMenu -/
def f17_L4 {R : Type} (N : Nat) (t20 : List (List Int)) (t21 : Int) (o0 : (Int × (List (List Int) × Unit))) (kb : Int → Option R) (kret : Int → Option R) (kx0 : Unit → Option R) : Int → Option R :=
  fun t22 =>
    cond (decide (t22 < t21))
      ((idx t20 t22).bind fun x =>
      (cond (!(decide ((len x) = o0.1)))
          (some true)
          ((f44 N x).bind fun r =>
          some (!r))).bind fun b_2 =>
      cond b_2
        (kret 1)
        (kb (wi64 (t22 + 1))))
      (kx0 ())
def f17 (N : Nat) (a0 : (Int × (List (List Int) × Unit))) : Option (Int) :=
  (cond (decide (a0.1 < 1))
      (some true)
      (some (decide (62 < a0.1)))).bind fun b =>
  (cond b
      (some true)
      (some (decide (8 < (len a0.2.1))))).bind fun b_1 =>
  cond b_1
    (some 1)
    (iter (fun w => f17_L4 N a0.2.1 (len a0.2.1) a0 w
      (fun t2 =>
        some t2)
      (fun (_ : Unit) =>
        some 0)) N 0)
def c17 (N : Nat) : Callee := .pure (.pr (.val (.pair (.int .i64) (.pair (.sl false (.sl false (.int .i64))) .unit))) .un) [(.int .i64)] fun d => f17 N d.1
def F17_4 : SForm := ⟨[(22, (.val (.int .i64))), (1, (.bptr 0 [])), (20, (.val (.sl false (.sl false (.int .i64))))), (21, (.val (.int .i64)))], [.cell (.val (.pair (.int .i64) (.pair (.sl false (.sl false (.int .i64))) .unit)))]⟩
def G17_4 (N : Nat) : (R : Type) → F17_4.den → (AExit → St → Option R) → Option R := fun R d k => iter (fun kb => f17_L4 N d.1.2.2.1 d.1.2.2.2.1 d.2.1 kb
    (fun y0 => k .ret (St.of [(2, (.data (.int .i64) y0))] []))
    (fun _ => k (.exit 0) (St.of [] []))) N d.1.1
def lp17 (N : Nat) : Nat → Option LoopFn := fun r => cond (Nat.beq r 4) (some fun R sl os k => F17_4.take sl os fun d => G17_4 N R d k) (none)
def x17 (N : Nat) : Ctx := { fuel := N, tt := getL ttL, mt := getL mtL, ntmps := 37, env := fun f => (getL [(44, [c44 N])] f).getD [], cut := getL [(4, ⟨[22, 1, 20, 21], []⟩)], exits := fun r => getL ((getL [(4, [(0, ⟨[], []⟩)])] r).getD []), res := ⟨[2], []⟩, own := fun _ => none, lp := lp17 N, eqs := fun T => memN T eqL }
noncomputable def b17 : Code := ((Go.Proofs.Try.f17).body).getD .skip
theorem s17_4 (N : Nat) {R : Type} (k : AExit → St → Option R) (t20 : List (List Int)) (t21 : Int) (o0 : (Int × (List (List Int) × Unit))) (kb : List (Nat × AVal) → List Obj → Option R) (x : Int) : codeK (x17 N) (loopAt 4 (loopsOf b17)) (St.of [(22, (.data (.int .i64) x)), (1, (.bptr 0 [])), (20, (.data (.sl false (.sl false (.int .i64))) t20)), (21, (.data (.int .i64) t21))] [.cell (.data (.pair (.int .i64) (.pair (.sl false (.sl false (.int .i64))) .unit)) o0)]) (kLoop (x17 N) 4 ⟨[22, 1, 20, 21], []⟩ kb k) = f17_L4 N t20 t21 o0 (fun y => kb [(22, (.data (.int .i64) y)), (1, (.bptr 0 [])), (20, (.data (.sl false (.sl false (.int .i64))) t20)), (21, (.data (.int .i64) t21))] [.cell (.data (.pair (.int .i64) (.pair (.sl false (.sl false (.int .i64))) .unit)) o0)])
    (fun y0 => k .ret (St.of [(2, (.data (.int .i64) y0))] []))
    (fun _ => k (.exit 0) (St.of [] [])) x := by kernel_rfl
theorem l17_4 (N : Nat) : LoopOK (x17 N) (loopAt 4 (loopsOf b17)) :=
  loop_mk (G17_4 N) (by kernel_rfl) (by kernel_rfl) (by kernel_rfl) fun R k d =>
    loop_eq (st := fun (x : Int) => ([(22, (.data (.int .i64) x)), (1, (.bptr 0 [])), (20, (.data (.sl false (.sl false (.int .i64))) d.1.2.2.1)), (21, (.data (.int .i64) d.1.2.2.2.1))], [.cell (.data (.pair (.int .i64) (.pair (.sl false (.sl false (.int .i64))) .unit)) d.2.1)])) (s17_4 N k d.1.2.2.1 d.1.2.2.2.1 d.2.1) N d.1.1
theorem e17 (N : Nat) (a0 : (Int × (List (List Int) × Unit))) : bodyK (x17 N) [(.int .i64)] [.tmp 2] b17 (entry (.pr (.val (.pair (.int .i64) (.pair (.sl false (.sl false (.int .i64))) .unit))) .un) (a0, ())) = f17 N a0 := by kernel_rfl
theorem k17 (N : Nat) : CalleeOK Go.Proofs.Try.prog 17 (c17 N) :=
  fn_ok (fn := Go.Proofs.Try.f17) (body := b17) (c := x17 N) Go.Proofs.Try.func17 (by kernel_rfl) (by kernel_rfl) ⟨ttL_ok, mtL_ok, eqL_ok, env_cons (forall_mem1 (k44 N)) (env_nil)⟩ mixed (by kernel_rfl) (Nat.le_of_ble_eq_true (by kernel_rfl)) (by kernel_rfl) (by decide)
    (loops_ok (by kernel_rfl : loopsOf b17 = [loopAt 4 (loopsOf b17)]) (.cons (l17_4 N) .nil)) fun d => e17 N d.1
/-! ### 52: keyhole/partition.Sizes -/
def f52_L5 {R : Type} (N : Nat) (t9 : List Int) (t10 : Int) (kb : Int × List Int → Option R) (kx0 : (List Int) → Option R) : Int × List Int → Option R :=
  fun (t11, o0) =>
    cond (decide (t11 < t10))
      ((idx t9 t11).bind fun x =>
      cond (decide (x = (len o0)))
        (chk (decide ((o0.length.succ) ≤ room)) <|
        chk (inb (o0 ++ (0 :: ([] : List Int))) x) <|
        (idx (o0 ++ (0 :: ([] : List Int))) x).bind fun x_1 =>
        chk (inb (o0 ++ (0 :: ([] : List Int))) x) <|
        (idx (o0 ++ (0 :: ([] : List Int))) x).bind fun x_2 =>
        (idx (o0 ++ (0 :: ([] : List Int))) x).bind fun x_3 =>
        kb ((wi64 (t11 + 1)), (setI (o0 ++ (0 :: ([] : List Int))) x (wi64 (x_1 + 1)))))
        (chk (inb o0 x) <|
        (idx o0 x).bind fun x_4 =>
        chk (inb o0 x) <|
        (idx o0 x).bind fun x_5 =>
        (idx o0 x).bind fun x_6 =>
        kb ((wi64 (t11 + 1)), (setI o0 x (wi64 (x_4 + 1))))))
      (kx0 o0)
def f52 (N : Nat) (a0 : List Int) : Option (List Int) :=
  (f44 N a0).bind fun r =>
  cond (!r)
    (some ([] : List Int))
    (iter (fun w => f52_L5 N a0 (len a0) w
      (fun o0_1 =>
        some o0_1)) N (0, ([] : List Int)))
def c52 (N : Nat) : Callee := .pure (.pr (.val (.sl false (.int .i64))) .un) [(.sl true (.int .i64))] fun d => f52 N d.1
def F52_5 : SForm := ⟨[(11, (.val (.int .i64))), (3, (.ref 0)), (9, (.val (.sl false (.int .i64)))), (10, (.val (.int .i64)))], [.row (.int .i64)]⟩
def G52_5 (N : Nat) : (R : Type) → F52_5.den → (AExit → St → Option R) → Option R := fun R d k => iter (fun kb => f52_L5 N d.1.2.2.1 d.1.2.2.2.1 kb
    (fun y0 => k (.exit 0) (St.of [(3, (.ref 0 [] 0))] [.row (.int .i64) y0 0]))) N (d.1.1, d.2.1)
def lp52 (N : Nat) : Nat → Option LoopFn := fun r => cond (Nat.beq r 5) (some fun R sl os k => F52_5.take sl os fun d => G52_5 N R d k) (none)
def x52 (N : Nat) : Ctx := { fuel := N, tt := getL ttL, mt := getL mtL, ntmps := 30, env := fun f => (getL [(44, [c44 N])] f).getD [], cut := getL [(5, ⟨[11, 3, 9, 10], [(3, none, .row (.int .i64))]⟩)], exits := fun r => getL ((getL [(5, [(0, ⟨[3], []⟩)])] r).getD []), res := ⟨[2], []⟩, own := fun _ => none, lp := lp52 N, eqs := fun T => memN T eqL }
noncomputable def b52 : Code := ((Go.Proofs.Try.f52).body).getD .skip
theorem s52_5 (N : Nat) {R : Type} (k : AExit → St → Option R) (t9 : List Int) (t10 : Int) (kb : List (Nat × AVal) → List Obj → Option R) (x : Int × List Int) : codeK (x52 N) (loopAt 5 (loopsOf b52)) (St.of [(11, (.data (.int .i64) x.1)), (3, (.ref 0 [] 0)), (9, (.data (.sl false (.int .i64)) t9)), (10, (.data (.int .i64) t10))] [.row (.int .i64) x.2 0]) (kLoop (x52 N) 5 ⟨[11, 3, 9, 10], [(3, none, .row (.int .i64))]⟩ kb k) = f52_L5 N t9 t10 (fun y => kb [(11, (.data (.int .i64) y.1)), (3, (.ref 0 [] 0)), (9, (.data (.sl false (.int .i64)) t9)), (10, (.data (.int .i64) t10))] [.row (.int .i64) y.2 0])
    (fun y0 => k (.exit 0) (St.of [(3, (.ref 0 [] 0))] [.row (.int .i64) y0 0])) x := by kernel_rfl
theorem l52_5 (N : Nat) : LoopOK (x52 N) (loopAt 5 (loopsOf b52)) :=
  loop_mk (G52_5 N) (by kernel_rfl) (by kernel_rfl) (by kernel_rfl) fun R k d =>
    loop_eq (st := fun (x : Int × List Int) => ([(11, (.data (.int .i64) x.1)), (3, (.ref 0 [] 0)), (9, (.data (.sl false (.int .i64)) d.1.2.2.1)), (10, (.data (.int .i64) d.1.2.2.2.1))], [.row (.int .i64) x.2 0])) (s52_5 N k d.1.2.2.1 d.1.2.2.2.1) N (d.1.1, d.2.1)
theorem e52 (N : Nat) (a0 : List Int) : bodyK (x52 N) [(.sl true (.int .i64))] [.tmp 2] b52 (entry (.pr (.val (.sl false (.int .i64))) .un) (a0, ())) = f52 N a0 := by kernel_rfl
theorem k52 (N : Nat) : CalleeOK Go.Proofs.Try.prog 52 (c52 N) :=
  fn_ok (fn := Go.Proofs.Try.f52) (body := b52) (c := x52 N) Go.Proofs.Try.func52 (by kernel_rfl) (by kernel_rfl) ⟨ttL_ok, mtL_ok, eqL_ok, env_cons (forall_mem1 (k44 N)) (env_nil)⟩ mixed (by kernel_rfl) (Nat.le_of_ble_eq_true (by kernel_rfl)) (by kernel_rfl) (by decide)
    (loops_ok (by kernel_rfl : loopsOf b52 = [loopAt 5 (loopsOf b52)]) (.cons (l52_5 N) .nil)) fun d => e52 N d.1
/-! ### 45: keyhole/partition.Count -/
def f45 (N : Nat) (a0 : List Int) : Option (Int) :=
  (f52 N a0).bind fun r =>
  some (len r)
def c45 (N : Nat) : Callee := .pure (.pr (.val (.sl false (.int .i64))) .un) [(.int .i64)] fun d => f45 N d.1
def lp45 (N : Nat) : Nat → Option LoopFn := fun r => none
def x45 (N : Nat) : Ctx := { fuel := N, tt := getL ttL, mt := getL mtL, ntmps := 6, env := fun f => (getL [(52, [c52 N])] f).getD [], cut := getL [], exits := fun r => getL ((getL [] r).getD []), res := ⟨[2], []⟩, own := fun _ => none, lp := lp45 N, eqs := fun T => memN T eqL }
noncomputable def b45 : Code := ((Go.Proofs.Try.f45).body).getD .skip
theorem e45 (N : Nat) (a0 : List Int) : bodyK (x45 N) [(.int .i64)] [.tmp 2] b45 (entry (.pr (.val (.sl false (.int .i64))) .un) (a0, ())) = f45 N a0 := by kernel_rfl
theorem k45 (N : Nat) : CalleeOK Go.Proofs.Try.prog 45 (c45 N) :=
  fn_ok (fn := Go.Proofs.Try.f45) (body := b45) (c := x45 N) Go.Proofs.Try.func45 (by kernel_rfl) (by kernel_rfl) ⟨ttL_ok, mtL_ok, eqL_ok, env_cons (forall_mem1 (k52 N)) (env_nil)⟩ mixed (by kernel_rfl) (Nat.le_of_ble_eq_true (by kernel_rfl)) (by kernel_rfl) (by decide)
    (loops_ok (by kernel_rfl : loopsOf b45 = []) .nil) fun d => e45 N d.1
/-! ### 19: keyhole/strategy.Check -/
def f19_L14 {R : Type} (N : Nat) (t1_1 : List (Int × (List Int × Unit))) (t6 : Int) (t48 : List Int) (t18_1 : List (Int × (List Int × Unit))) (t19_1 : Int) (t20_1 : Int) (t49 : Int) (o0_1 : (Int × (List (List Int) × Unit))) (kb : Int → Option R) (kret : Int → Option R) (kx2 : Unit → Option R) : Int → Option R :=
  fun t50 =>
    cond (decide (t50 < t49))
      ((idx t48 t50).bind fun x_2 =>
      (cond (!(decide (x_2 = (-1))))
          ((cond (decide (x_2 ≤ t6))
              (some true)
              (some (decide ((len t1_1) ≤ x_2)))).bind fun b_1 =>
          some b_1)
          (some false)).bind fun b_2 =>
      cond b_2
        (kret 10)
        (kb (wi64 (t50 + 1))))
      (kx2 ())
def f19_L7 {R : Type} (N : Nat) (t1 : List (Int × (List Int × Unit))) (t18 : List (Int × (List Int × Unit))) (t19 : Int) (o0 : (Int × (List (List Int) × Unit))) (kb : Int → Option R) (kret : Int → Option R) (kx0 : Unit → Option R) : Int → Option R :=
  fun t20 =>
    cond (decide (t20 < t19))
      ((idx t18 t20).bind fun x =>
      (cond (decide (x.1 < 0))
          (some true)
          (some (decide ((len o0.2.1) ≤ x.1)))).bind fun b =>
      cond b
        (kret 3)
        ((idx o0.2.1 x.1).bind fun x_1 =>
        (f45 N x_1).bind fun r_1 =>
        cond (!(decide ((len x.2.1) = r_1)))
          (kret 2)
          (iter (fun w => f19_L14 N t1 t20 x.2.1 t18 t19 t20 (len x.2.1) o0 w
            (fun t4 =>
              kret t4)
            (fun (_ : Unit) =>
              kb (wi64 (t20 + 1)))) N 0)))
      (kx0 ())
def f19 (N : Nat) (a0 : (Int × (List (List Int) × Unit))) (a1 : List (Int × (List Int × Unit))) : Option (Int) :=
  (f17 N a0).bind fun r =>
  cond (!(decide (r = 0)))
    (some r)
    (cond (decide (256 < (len a1)))
      (some 4)
      (iter (fun w => f19_L7 N a1 a1 (len a1) a0 w
        (fun t4_1 =>
          some t4_1)
        (fun (_ : Unit) =>
          some 0)) N 0))
def c19 (N : Nat) : Callee := .pure (.pr (.val (.pair (.int .i64) (.pair (.sl false (.sl false (.int .i64))) .unit))) (.pr (.val (.sl false (.pair (.int .i64) (.pair (.sl false (.int .i64)) .unit)))) .un)) [(.int .i64)] fun d => f19 N d.1 d.2.1
def F19_14 : SForm := ⟨[(50, (.val (.int .i64))), (1, (.val (.sl false (.pair (.int .i64) (.pair (.sl false (.int .i64)) .unit))))), (6, (.val (.int .i64))), (48, (.val (.sl false (.int .i64)))), (2, (.bptr 0 [])), (18, (.val (.sl false (.pair (.int .i64) (.pair (.sl false (.int .i64)) .unit))))), (19, (.val (.int .i64))), (20, (.val (.int .i64))), (49, (.val (.int .i64)))], [.cell (.val (.pair (.int .i64) (.pair (.sl false (.sl false (.int .i64))) .unit)))]⟩
def G19_14 (N : Nat) : (R : Type) → F19_14.den → (AExit → St → Option R) → Option R := fun R d k => iter (fun kb => f19_L14 N d.1.2.1 d.1.2.2.1 d.1.2.2.2.1 d.1.2.2.2.2.2.1 d.1.2.2.2.2.2.2.1 d.1.2.2.2.2.2.2.2.1 d.1.2.2.2.2.2.2.2.2.1 d.2.1 kb
    (fun y0 => k .ret (St.of [(4, (.data (.int .i64) y0))] []))
    (fun _ => k (.exit 2) (St.of [(1, (.data (.sl false (.pair (.int .i64) (.pair (.sl false (.int .i64)) .unit))) d.1.2.1)), (2, (.bptr 0 [])), (18, (.data (.sl false (.pair (.int .i64) (.pair (.sl false (.int .i64)) .unit))) d.1.2.2.2.2.2.1)), (19, (.data (.int .i64) d.1.2.2.2.2.2.2.1)), (20, (.data (.int .i64) d.1.2.2.2.2.2.2.2.1))] [.cell (.data (.pair (.int .i64) (.pair (.sl false (.sl false (.int .i64))) .unit)) d.2.1)]))) N d.1.1
def F19_7 : SForm := ⟨[(1, (.val (.sl false (.pair (.int .i64) (.pair (.sl false (.int .i64)) .unit))))), (20, (.val (.int .i64))), (2, (.bptr 0 [])), (18, (.val (.sl false (.pair (.int .i64) (.pair (.sl false (.int .i64)) .unit))))), (19, (.val (.int .i64)))], [.cell (.val (.pair (.int .i64) (.pair (.sl false (.sl false (.int .i64))) .unit)))]⟩
def G19_7 (N : Nat) : (R : Type) → F19_7.den → (AExit → St → Option R) → Option R := fun R d k => iter (fun kb => f19_L7 N d.1.1 d.1.2.2.2.1 d.1.2.2.2.2.1 d.2.1 kb
    (fun y0 => k .ret (St.of [(4, (.data (.int .i64) y0))] []))
    (fun _ => k (.exit 0) (St.of [] []))) N d.1.2.1
def lp19 (N : Nat) : Nat → Option LoopFn := fun r => cond (Nat.beq r 14) (some fun R sl os k => F19_14.take sl os fun d => G19_14 N R d k) (cond (Nat.beq r 7) (some fun R sl os k => F19_7.take sl os fun d => G19_7 N R d k) (none))
def x19 (N : Nat) : Ctx := { fuel := N, tt := getL ttL, mt := getL mtL, ntmps := 69, env := fun f => (getL [(17, [c17 N]), (45, [c45 N])] f).getD [], cut := getL [(7, ⟨[1, 20, 2, 18, 19], []⟩), (14, ⟨[50, 1, 6, 48, 2, 18, 19, 20, 49], []⟩)], exits := fun r => getL ((getL [(7, [(0, ⟨[], []⟩)]), (14, [(2, ⟨[1, 2, 18, 19, 20], []⟩)])] r).getD []), res := ⟨[4], []⟩, own := fun _ => none, lp := lp19 N, eqs := fun T => memN T eqL }
noncomputable def b19 : Code := ((Go.Proofs.Try.f19).body).getD .skip
theorem s19_14 (N : Nat) {R : Type} (k : AExit → St → Option R) (t1_1 : List (Int × (List Int × Unit))) (t6 : Int) (t48 : List Int) (t18_1 : List (Int × (List Int × Unit))) (t19_1 : Int) (t20_1 : Int) (t49 : Int) (o0_1 : (Int × (List (List Int) × Unit))) (kb : List (Nat × AVal) → List Obj → Option R) (x : Int) : codeK (x19 N) (loopAt 14 (loopsOf b19)) (St.of [(50, (.data (.int .i64) x)), (1, (.data (.sl false (.pair (.int .i64) (.pair (.sl false (.int .i64)) .unit))) t1_1)), (6, (.data (.int .i64) t6)), (48, (.data (.sl false (.int .i64)) t48)), (2, (.bptr 0 [])), (18, (.data (.sl false (.pair (.int .i64) (.pair (.sl false (.int .i64)) .unit))) t18_1)), (19, (.data (.int .i64) t19_1)), (20, (.data (.int .i64) t20_1)), (49, (.data (.int .i64) t49))] [.cell (.data (.pair (.int .i64) (.pair (.sl false (.sl false (.int .i64))) .unit)) o0_1)]) (kLoop (x19 N) 14 ⟨[50, 1, 6, 48, 2, 18, 19, 20, 49], []⟩ kb k) = f19_L14 N t1_1 t6 t48 t18_1 t19_1 t20_1 t49 o0_1 (fun y => kb [(50, (.data (.int .i64) y)), (1, (.data (.sl false (.pair (.int .i64) (.pair (.sl false (.int .i64)) .unit))) t1_1)), (6, (.data (.int .i64) t6)), (48, (.data (.sl false (.int .i64)) t48)), (2, (.bptr 0 [])), (18, (.data (.sl false (.pair (.int .i64) (.pair (.sl false (.int .i64)) .unit))) t18_1)), (19, (.data (.int .i64) t19_1)), (20, (.data (.int .i64) t20_1)), (49, (.data (.int .i64) t49))] [.cell (.data (.pair (.int .i64) (.pair (.sl false (.sl false (.int .i64))) .unit)) o0_1)])
    (fun y0 => k .ret (St.of [(4, (.data (.int .i64) y0))] []))
    (fun _ => k (.exit 2) (St.of [(1, (.data (.sl false (.pair (.int .i64) (.pair (.sl false (.int .i64)) .unit))) t1_1)), (2, (.bptr 0 [])), (18, (.data (.sl false (.pair (.int .i64) (.pair (.sl false (.int .i64)) .unit))) t18_1)), (19, (.data (.int .i64) t19_1)), (20, (.data (.int .i64) t20_1))] [.cell (.data (.pair (.int .i64) (.pair (.sl false (.sl false (.int .i64))) .unit)) o0_1)])) x := by kernel_rfl
theorem l19_14 (N : Nat) : LoopOK (x19 N) (loopAt 14 (loopsOf b19)) :=
  loop_mk (G19_14 N) (by kernel_rfl) (by kernel_rfl) (by kernel_rfl) fun R k d =>
    loop_eq (st := fun (x : Int) => ([(50, (.data (.int .i64) x)), (1, (.data (.sl false (.pair (.int .i64) (.pair (.sl false (.int .i64)) .unit))) d.1.2.1)), (6, (.data (.int .i64) d.1.2.2.1)), (48, (.data (.sl false (.int .i64)) d.1.2.2.2.1)), (2, (.bptr 0 [])), (18, (.data (.sl false (.pair (.int .i64) (.pair (.sl false (.int .i64)) .unit))) d.1.2.2.2.2.2.1)), (19, (.data (.int .i64) d.1.2.2.2.2.2.2.1)), (20, (.data (.int .i64) d.1.2.2.2.2.2.2.2.1)), (49, (.data (.int .i64) d.1.2.2.2.2.2.2.2.2.1))], [.cell (.data (.pair (.int .i64) (.pair (.sl false (.sl false (.int .i64))) .unit)) d.2.1)])) (s19_14 N k d.1.2.1 d.1.2.2.1 d.1.2.2.2.1 d.1.2.2.2.2.2.1 d.1.2.2.2.2.2.2.1 d.1.2.2.2.2.2.2.2.1 d.1.2.2.2.2.2.2.2.2.1 d.2.1) N d.1.1
theorem s19_7 (N : Nat) {R : Type} (k : AExit → St → Option R) (t1 : List (Int × (List Int × Unit))) (t18 : List (Int × (List Int × Unit))) (t19 : Int) (o0 : (Int × (List (List Int) × Unit))) (kb : List (Nat × AVal) → List Obj → Option R) (x : Int) : codeK (x19 N) (loopAt 7 (loopsOf b19)) (St.of [(1, (.data (.sl false (.pair (.int .i64) (.pair (.sl false (.int .i64)) .unit))) t1)), (20, (.data (.int .i64) x)), (2, (.bptr 0 [])), (18, (.data (.sl false (.pair (.int .i64) (.pair (.sl false (.int .i64)) .unit))) t18)), (19, (.data (.int .i64) t19))] [.cell (.data (.pair (.int .i64) (.pair (.sl false (.sl false (.int .i64))) .unit)) o0)]) (kLoop (x19 N) 7 ⟨[1, 20, 2, 18, 19], []⟩ kb k) = f19_L7 N t1 t18 t19 o0 (fun y => kb [(1, (.data (.sl false (.pair (.int .i64) (.pair (.sl false (.int .i64)) .unit))) t1)), (20, (.data (.int .i64) y)), (2, (.bptr 0 [])), (18, (.data (.sl false (.pair (.int .i64) (.pair (.sl false (.int .i64)) .unit))) t18)), (19, (.data (.int .i64) t19))] [.cell (.data (.pair (.int .i64) (.pair (.sl false (.sl false (.int .i64))) .unit)) o0)])
    (fun y0 => k .ret (St.of [(4, (.data (.int .i64) y0))] []))
    (fun _ => k (.exit 0) (St.of [] [])) x := by kernel_rfl
theorem l19_7 (N : Nat) : LoopOK (x19 N) (loopAt 7 (loopsOf b19)) :=
  loop_mk (G19_7 N) (by kernel_rfl) (by kernel_rfl) (by kernel_rfl) fun R k d =>
    loop_eq (st := fun (x : Int) => ([(1, (.data (.sl false (.pair (.int .i64) (.pair (.sl false (.int .i64)) .unit))) d.1.1)), (20, (.data (.int .i64) x)), (2, (.bptr 0 [])), (18, (.data (.sl false (.pair (.int .i64) (.pair (.sl false (.int .i64)) .unit))) d.1.2.2.2.1)), (19, (.data (.int .i64) d.1.2.2.2.2.1))], [.cell (.data (.pair (.int .i64) (.pair (.sl false (.sl false (.int .i64))) .unit)) d.2.1)])) (s19_7 N k d.1.1 d.1.2.2.2.1 d.1.2.2.2.2.1 d.2.1) N d.1.2.1
theorem e19 (N : Nat) (a0 : (Int × (List (List Int) × Unit))) (a1 : List (Int × (List Int × Unit))) : bodyK (x19 N) [(.int .i64)] [.tmp 4] b19 (entry (.pr (.val (.pair (.int .i64) (.pair (.sl false (.sl false (.int .i64))) .unit))) (.pr (.val (.sl false (.pair (.int .i64) (.pair (.sl false (.int .i64)) .unit)))) .un)) (a0, (a1, ()))) = f19 N a0 a1 := by kernel_rfl
theorem k19 (N : Nat) : CalleeOK Go.Proofs.Try.prog 19 (c19 N) :=
  fn_ok (fn := Go.Proofs.Try.f19) (body := b19) (c := x19 N) Go.Proofs.Try.func19 (by kernel_rfl) (by kernel_rfl) ⟨ttL_ok, mtL_ok, eqL_ok, env_cons (forall_mem1 (k17 N)) (env_cons (forall_mem1 (k45 N)) (env_nil))⟩ mixed (by kernel_rfl) (Nat.le_of_ble_eq_true (by kernel_rfl)) (by kernel_rfl) (by decide)
    (loops_ok (by kernel_rfl : loopsOf b19 = [loopAt 7 (loopsOf b19), loopAt 14 (loopsOf b19)]) (.cons (l19_7 N) (.cons (l19_14 N) .nil))) fun d => e19 N d.1 d.2.1
/-! ### 48: keyhole/strategy.run -/
def f48_L3 {R : Type} (N : Nat) (t2 : Int) (t1 : List (Int × (List Int × Unit))) (o1 : (Int × (List (List Int) × Unit))) (kb : Int × (List (Int × (Int × Unit))) → Option R) (kx0 : (List (Int × (Int × Unit))) → Option R) : Int × (List (Int × (Int × Unit))) → Option R :=
  fun (t8, o0) =>
    (cond (!(decide (t8 = (-1))))
        (some (decide (t8 < (len t1))))
        (some false)).bind fun b =>
    cond b
      ((idx t1 t8).bind fun x =>
      (idx o1.2.1 x.1).bind fun x_1 =>
      (idx x_1 t2).bind fun x_2 =>
      chk (decide ((o0.length.succ) ≤ room)) <|
      (idx x.2.1 x_2).bind fun x_3 =>
      kb (x_3, (o0 ++ ((x.1, (x_2, ())) :: ([] : List (Int × (Int × Unit)))))))
      (kx0 o0)
def f48 (N : Nat) (a0 : (Int × (List (List Int) × Unit))) (a1 : List (Int × (List Int × Unit))) (a2 : Int) : Option (List (Int × (Int × Unit))) :=
  iter (fun w => f48_L3 N a2 a1 a0 w
    (fun o0_1 =>
      some o0_1)) N (0, ([] : List (Int × (Int × Unit))))
def c48 (N : Nat) : Callee := .pure (.pr (.val (.pair (.int .i64) (.pair (.sl false (.sl false (.int .i64))) .unit))) (.pr (.val (.sl false (.pair (.int .i64) (.pair (.sl false (.int .i64)) .unit)))) (.pr (.val (.int .i64)) .un))) [(.sl true (.pair (.int .i64) (.pair (.int .i64) .unit)))] fun d => f48 N d.1 d.2.1 d.2.2.1
def F48_3 : SForm := ⟨[(7, (.ref 0)), (2, (.val (.int .i64))), (3, (.bptr 1 [])), (8, (.val (.int .i64))), (1, (.val (.sl false (.pair (.int .i64) (.pair (.sl false (.int .i64)) .unit)))))], [.row (.pair (.int .i64) (.pair (.int .i64) .unit)), .cell (.val (.pair (.int .i64) (.pair (.sl false (.sl false (.int .i64))) .unit)))]⟩
def G48_3 (N : Nat) : (R : Type) → F48_3.den → (AExit → St → Option R) → Option R := fun R d k => iter (fun kb => f48_L3 N d.1.2.1 d.1.2.2.2.2.1 d.2.2.1 kb
    (fun y0 => k (.exit 0) (St.of [(7, (.ref 0 [] 0))] [.row (.pair (.int .i64) (.pair (.int .i64) .unit)) y0 0]))) N (d.1.2.2.2.1, d.2.1)
def lp48 (N : Nat) : Nat → Option LoopFn := fun r => cond (Nat.beq r 3) (some fun R sl os k => F48_3.take sl os fun d => G48_3 N R d k) (none)
def x48 (N : Nat) : Ctx := { fuel := N, tt := getL ttL, mt := getL mtL, ntmps := 45, env := fun f => (getL [] f).getD [], cut := getL [(3, ⟨[7, 2, 3, 8, 1], [(7, none, .row (.pair (.int .i64) (.pair (.int .i64) .unit)))]⟩)], exits := fun r => getL ((getL [(3, [(0, ⟨[7], []⟩)])] r).getD []), res := ⟨[6], []⟩, own := fun _ => none, lp := lp48 N, eqs := fun T => memN T eqL }
noncomputable def b48 : Code := ((Go.Proofs.Try.f48).body).getD .skip
theorem s48_3 (N : Nat) {R : Type} (k : AExit → St → Option R) (t2 : Int) (t1 : List (Int × (List Int × Unit))) (o1 : (Int × (List (List Int) × Unit))) (kb : List (Nat × AVal) → List Obj → Option R) (x : Int × (List (Int × (Int × Unit)))) : codeK (x48 N) (loopAt 3 (loopsOf b48)) (St.of [(7, (.ref 0 [] 0)), (2, (.data (.int .i64) t2)), (3, (.bptr 1 [])), (8, (.data (.int .i64) x.1)), (1, (.data (.sl false (.pair (.int .i64) (.pair (.sl false (.int .i64)) .unit))) t1))] [.row (.pair (.int .i64) (.pair (.int .i64) .unit)) x.2 0, .cell (.data (.pair (.int .i64) (.pair (.sl false (.sl false (.int .i64))) .unit)) o1)]) (kLoop (x48 N) 3 ⟨[7, 2, 3, 8, 1], [(7, none, .row (.pair (.int .i64) (.pair (.int .i64) .unit)))]⟩ kb k) = f48_L3 N t2 t1 o1 (fun y => kb [(7, (.ref 0 [] 0)), (2, (.data (.int .i64) t2)), (3, (.bptr 1 [])), (8, (.data (.int .i64) y.1)), (1, (.data (.sl false (.pair (.int .i64) (.pair (.sl false (.int .i64)) .unit))) t1))] [.row (.pair (.int .i64) (.pair (.int .i64) .unit)) y.2 0, .cell (.data (.pair (.int .i64) (.pair (.sl false (.sl false (.int .i64))) .unit)) o1)])
    (fun y0 => k (.exit 0) (St.of [(7, (.ref 0 [] 0))] [.row (.pair (.int .i64) (.pair (.int .i64) .unit)) y0 0])) x := by kernel_rfl
theorem l48_3 (N : Nat) : LoopOK (x48 N) (loopAt 3 (loopsOf b48)) :=
  loop_mk (G48_3 N) (by kernel_rfl) (by kernel_rfl) (by kernel_rfl) fun R k d =>
    loop_eq (st := fun (x : Int × (List (Int × (Int × Unit)))) => ([(7, (.ref 0 [] 0)), (2, (.data (.int .i64) d.1.2.1)), (3, (.bptr 1 [])), (8, (.data (.int .i64) x.1)), (1, (.data (.sl false (.pair (.int .i64) (.pair (.sl false (.int .i64)) .unit))) d.1.2.2.2.2.1))], [.row (.pair (.int .i64) (.pair (.int .i64) .unit)) x.2 0, .cell (.data (.pair (.int .i64) (.pair (.sl false (.sl false (.int .i64))) .unit)) d.2.2.1)])) (s48_3 N k d.1.2.1 d.1.2.2.2.2.1 d.2.2.1) N (d.1.2.2.2.1, d.2.1)
theorem e48 (N : Nat) (a0 : (Int × (List (List Int) × Unit))) (a1 : List (Int × (List Int × Unit))) (a2 : Int) : bodyK (x48 N) [(.sl true (.pair (.int .i64) (.pair (.int .i64) .unit)))] [.tmp 6] b48 (entry (.pr (.val (.pair (.int .i64) (.pair (.sl false (.sl false (.int .i64))) .unit))) (.pr (.val (.sl false (.pair (.int .i64) (.pair (.sl false (.int .i64)) .unit)))) (.pr (.val (.int .i64)) .un))) (a0, (a1, (a2, ())))) = f48 N a0 a1 a2 := by kernel_rfl
theorem k48 (N : Nat) : CalleeOK Go.Proofs.Try.prog 48 (c48 N) :=
  fn_ok (fn := Go.Proofs.Try.f48) (body := b48) (c := x48 N) Go.Proofs.Try.func48 (by kernel_rfl) (by kernel_rfl) ⟨ttL_ok, mtL_ok, eqL_ok, env_nil⟩ mixed (by kernel_rfl) (Nat.le_of_ble_eq_true (by kernel_rfl)) (by kernel_rfl) (by decide)
    (loops_ok (by kernel_rfl : loopsOf b48 = [loopAt 3 (loopsOf b48)]) (.cons (l48_3 N) .nil)) fun d => e48 N d.1 d.2.1 d.2.2.1
/-! ### 40: keyhole/strategy.all -/
def f40_L3 {R : Type} (N : Nat) (t1 : List (Int × (List Int × Unit))) (t8 : Int) (o0 : (Int × (List (List Int) × Unit))) (kb : Int × (List (List (Int × (Int × Unit)))) → Option R) (kx0 : (List (List (Int × (Int × Unit)))) → Option R) : Int × (List (List (Int × (Int × Unit)))) → Option R :=
  fun (t9, o1) =>
    cond (decide (t9 < t8))
      ((f48 N o0 t1 t9).bind fun r =>
      chk (decide ((o1.length.succ) ≤ room)) <|
      kb ((wi64 (t9 + 1)), (o1 ++ (r :: ([] : List (List (Int × (Int × Unit))))))))
      (kx0 o1)
def f40 (N : Nat) (a0 : (Int × (List (List Int) × Unit))) (a1 : List (Int × (List Int × Unit))) : Option (List (List (Int × (Int × Unit)))) :=
  iter (fun w => f40_L3 N a1 a0.1 a0 w
    (fun o0_1 =>
      some o0_1)) N (0, ([] : List (List (Int × (Int × Unit)))))
def c40 (N : Nat) : Callee := .pure (.pr (.val (.pair (.int .i64) (.pair (.sl false (.sl false (.int .i64))) .unit))) (.pr (.val (.sl false (.pair (.int .i64) (.pair (.sl false (.int .i64)) .unit)))) .un)) [(.sl true (.sl false (.pair (.int .i64) (.pair (.int .i64) .unit))))] fun d => f40 N d.1 d.2.1
def F40_3 : SForm := ⟨[(9, (.val (.int .i64))), (1, (.val (.sl false (.pair (.int .i64) (.pair (.sl false (.int .i64)) .unit))))), (2, (.bptr 0 [])), (5, (.ref 1)), (8, (.val (.int .i64)))], [.cell (.val (.pair (.int .i64) (.pair (.sl false (.sl false (.int .i64))) .unit))), .row (.sl false (.pair (.int .i64) (.pair (.int .i64) .unit)))]⟩
def G40_3 (N : Nat) : (R : Type) → F40_3.den → (AExit → St → Option R) → Option R := fun R d k => iter (fun kb => f40_L3 N d.1.2.1 d.1.2.2.2.2.1 d.2.1 kb
    (fun y0 => k (.exit 0) (St.of [(5, (.ref 0 [] 0))] [.row (.sl false (.pair (.int .i64) (.pair (.int .i64) .unit))) y0 0]))) N (d.1.1, d.2.2.1)
def lp40 (N : Nat) : Nat → Option LoopFn := fun r => cond (Nat.beq r 3) (some fun R sl os k => F40_3.take sl os fun d => G40_3 N R d k) (none)
def x40 (N : Nat) : Ctx := { fuel := N, tt := getL ttL, mt := getL mtL, ntmps := 21, env := fun f => (getL [(48, [c48 N])] f).getD [], cut := getL [(3, ⟨[9, 1, 2, 5, 8], [(5, none, .row (.sl false (.pair (.int .i64) (.pair (.int .i64) .unit))))]⟩)], exits := fun r => getL ((getL [(3, [(0, ⟨[5], []⟩)])] r).getD []), res := ⟨[4], []⟩, own := fun _ => none, lp := lp40 N, eqs := fun T => memN T eqL }
noncomputable def b40 : Code := ((Go.Proofs.Try.f40).body).getD .skip
theorem s40_3 (N : Nat) {R : Type} (k : AExit → St → Option R) (t1 : List (Int × (List Int × Unit))) (t8 : Int) (o0 : (Int × (List (List Int) × Unit))) (kb : List (Nat × AVal) → List Obj → Option R) (x : Int × (List (List (Int × (Int × Unit))))) : codeK (x40 N) (loopAt 3 (loopsOf b40)) (St.of [(9, (.data (.int .i64) x.1)), (1, (.data (.sl false (.pair (.int .i64) (.pair (.sl false (.int .i64)) .unit))) t1)), (2, (.bptr 0 [])), (5, (.ref 1 [] 0)), (8, (.data (.int .i64) t8))] [.cell (.data (.pair (.int .i64) (.pair (.sl false (.sl false (.int .i64))) .unit)) o0), .row (.sl false (.pair (.int .i64) (.pair (.int .i64) .unit))) x.2 0]) (kLoop (x40 N) 3 ⟨[9, 1, 2, 5, 8], [(5, none, .row (.sl false (.pair (.int .i64) (.pair (.int .i64) .unit))))]⟩ kb k) = f40_L3 N t1 t8 o0 (fun y => kb [(9, (.data (.int .i64) y.1)), (1, (.data (.sl false (.pair (.int .i64) (.pair (.sl false (.int .i64)) .unit))) t1)), (2, (.bptr 0 [])), (5, (.ref 1 [] 0)), (8, (.data (.int .i64) t8))] [.cell (.data (.pair (.int .i64) (.pair (.sl false (.sl false (.int .i64))) .unit)) o0), .row (.sl false (.pair (.int .i64) (.pair (.int .i64) .unit))) y.2 0])
    (fun y0 => k (.exit 0) (St.of [(5, (.ref 0 [] 0))] [.row (.sl false (.pair (.int .i64) (.pair (.int .i64) .unit))) y0 0])) x := by kernel_rfl
theorem l40_3 (N : Nat) : LoopOK (x40 N) (loopAt 3 (loopsOf b40)) :=
  loop_mk (G40_3 N) (by kernel_rfl) (by kernel_rfl) (by kernel_rfl) fun R k d =>
    loop_eq (st := fun (x : Int × (List (List (Int × (Int × Unit))))) => ([(9, (.data (.int .i64) x.1)), (1, (.data (.sl false (.pair (.int .i64) (.pair (.sl false (.int .i64)) .unit))) d.1.2.1)), (2, (.bptr 0 [])), (5, (.ref 1 [] 0)), (8, (.data (.int .i64) d.1.2.2.2.2.1))], [.cell (.data (.pair (.int .i64) (.pair (.sl false (.sl false (.int .i64))) .unit)) d.2.1), .row (.sl false (.pair (.int .i64) (.pair (.int .i64) .unit))) x.2 0])) (s40_3 N k d.1.2.1 d.1.2.2.2.2.1 d.2.1) N (d.1.1, d.2.2.1)
theorem e40 (N : Nat) (a0 : (Int × (List (List Int) × Unit))) (a1 : List (Int × (List Int × Unit))) : bodyK (x40 N) [(.sl true (.sl false (.pair (.int .i64) (.pair (.int .i64) .unit))))] [.tmp 4] b40 (entry (.pr (.val (.pair (.int .i64) (.pair (.sl false (.sl false (.int .i64))) .unit))) (.pr (.val (.sl false (.pair (.int .i64) (.pair (.sl false (.int .i64)) .unit)))) .un)) (a0, (a1, ()))) = f40 N a0 a1 := by kernel_rfl
theorem k40 (N : Nat) : CalleeOK Go.Proofs.Try.prog 40 (c40 N) :=
  fn_ok (fn := Go.Proofs.Try.f40) (body := b40) (c := x40 N) Go.Proofs.Try.func40 (by kernel_rfl) (by kernel_rfl) ⟨ttL_ok, mtL_ok, eqL_ok, env_cons (forall_mem1 (k48 N)) (env_nil)⟩ mixed (by kernel_rfl) (Nat.le_of_ble_eq_true (by kernel_rfl)) (by kernel_rfl) (by decide)
    (loops_ok (by kernel_rfl : loopsOf b40 = [loopAt 3 (loopsOf b40)]) (.cons (l40_3 N) .nil)) fun d => e40 N d.1 d.2.1
/-! ### 34: slices.Equal[[]keyhole/api.Answer,keyhole/api.Answer] -/
def f34_L4 {R : Type} (N : Nat) (t1 : List (Int × (Int × Unit))) (t0 : List (Int × (Int × Unit))) (t12 : Int) (kb : Int → Option R) (kret : Bool → Option R) (kx0 : Unit → Option R) : Int → Option R :=
  fun t13 =>
    cond (decide (t13 < t12))
      ((idx t0 t13).bind fun x =>
      (idx t1 t13).bind fun x_1 =>
      cond (!(eqD (.pair (.int .i64) (.pair (.int .i64) .unit)) x x_1))
        (kret false)
        (kb (wi64 (t13 + 1))))
      (kx0 ())
def f34 (N : Nat) (a0 : List (Int × (Int × Unit))) (a1 : List (Int × (Int × Unit))) : Option (Bool) :=
  cond (!(decide ((len a0) = (len a1))))
    (some false)
    (iter (fun w => f34_L4 N a1 a0 (len a0) w
      (fun t4 =>
        some t4)
      (fun (_ : Unit) =>
        some true)) N 0)
def c34 (N : Nat) : Callee := .pure (.pr (.val (.sl false (.pair (.int .i64) (.pair (.int .i64) .unit)))) (.pr (.val (.sl false (.pair (.int .i64) (.pair (.int .i64) .unit)))) .un)) [.bool] fun d => f34 N d.1 d.2.1
def F34_4 : SForm := ⟨[(13, (.val (.int .i64))), (1, (.val (.sl false (.pair (.int .i64) (.pair (.int .i64) .unit))))), (0, (.val (.sl false (.pair (.int .i64) (.pair (.int .i64) .unit))))), (12, (.val (.int .i64)))], []⟩
def G34_4 (N : Nat) : (R : Type) → F34_4.den → (AExit → St → Option R) → Option R := fun R d k => iter (fun kb => f34_L4 N d.1.2.1 d.1.2.2.1 d.1.2.2.2.1 kb
    (fun y0 => k .ret (St.of [(4, (.data .bool y0))] []))
    (fun _ => k (.exit 0) (St.of [] []))) N d.1.1
def lp34 (N : Nat) : Nat → Option LoopFn := fun r => cond (Nat.beq r 4) (some fun R sl os k => F34_4.take sl os fun d => G34_4 N R d k) (none)
def x34 (N : Nat) : Ctx := { fuel := N, tt := getL ttL, mt := getL mtL, ntmps := 26, env := fun f => (getL [] f).getD [], cut := getL [(4, ⟨[13, 1, 0, 12], []⟩)], exits := fun r => getL ((getL [(4, [(0, ⟨[], []⟩)])] r).getD []), res := ⟨[4], []⟩, own := fun _ => none, lp := lp34 N, eqs := fun T => memN T eqL }
noncomputable def b34 : Code := ((Go.Proofs.Try.f34).body).getD .skip
theorem s34_4 (N : Nat) {R : Type} (k : AExit → St → Option R) (t1 : List (Int × (Int × Unit))) (t0 : List (Int × (Int × Unit))) (t12 : Int) (kb : List (Nat × AVal) → List Obj → Option R) (x : Int) : codeK (x34 N) (loopAt 4 (loopsOf b34)) (St.of [(13, (.data (.int .i64) x)), (1, (.data (.sl false (.pair (.int .i64) (.pair (.int .i64) .unit))) t1)), (0, (.data (.sl false (.pair (.int .i64) (.pair (.int .i64) .unit))) t0)), (12, (.data (.int .i64) t12))] []) (kLoop (x34 N) 4 ⟨[13, 1, 0, 12], []⟩ kb k) = f34_L4 N t1 t0 t12 (fun y => kb [(13, (.data (.int .i64) y)), (1, (.data (.sl false (.pair (.int .i64) (.pair (.int .i64) .unit))) t1)), (0, (.data (.sl false (.pair (.int .i64) (.pair (.int .i64) .unit))) t0)), (12, (.data (.int .i64) t12))] [])
    (fun y0 => k .ret (St.of [(4, (.data .bool y0))] []))
    (fun _ => k (.exit 0) (St.of [] [])) x := by kernel_rfl
theorem l34_4 (N : Nat) : LoopOK (x34 N) (loopAt 4 (loopsOf b34)) :=
  loop_mk (G34_4 N) (by kernel_rfl) (by kernel_rfl) (by kernel_rfl) fun R k d =>
    loop_eq (st := fun (x : Int) => ([(13, (.data (.int .i64) x)), (1, (.data (.sl false (.pair (.int .i64) (.pair (.int .i64) .unit))) d.1.2.1)), (0, (.data (.sl false (.pair (.int .i64) (.pair (.int .i64) .unit))) d.1.2.2.1)), (12, (.data (.int .i64) d.1.2.2.2.1))], [])) (s34_4 N k d.1.2.1 d.1.2.2.1 d.1.2.2.2.1) N d.1.1
theorem e34 (N : Nat) (a0 : List (Int × (Int × Unit))) (a1 : List (Int × (Int × Unit))) : bodyK (x34 N) [.bool] [.tmp 4] b34 (entry (.pr (.val (.sl false (.pair (.int .i64) (.pair (.int .i64) .unit)))) (.pr (.val (.sl false (.pair (.int .i64) (.pair (.int .i64) .unit)))) .un)) (a0, (a1, ()))) = f34 N a0 a1 := by kernel_rfl
theorem k34 (N : Nat) : CalleeOK Go.Proofs.Try.prog 34 (c34 N) :=
  fn_ok (fn := Go.Proofs.Try.f34) (body := b34) (c := x34 N) Go.Proofs.Try.func34 (by kernel_rfl) (by kernel_rfl) ⟨ttL_ok, mtL_ok, eqL_ok, env_nil⟩ mixed (by kernel_rfl) (Nat.le_of_ble_eq_true (by kernel_rfl)) (by kernel_rfl) (by decide)
    (loops_ok (by kernel_rfl : loopsOf b34 = [loopAt 4 (loopsOf b34)]) (.cons (l34_4 N) .nil)) fun d => e34 N d.1 d.2.1
/-! ### 42: keyhole/strategy.Split$1 -/
def f42 (N : Nat) (a0 : List (Int × (Int × Unit))) (a1 : List (Int × (Int × Unit))) : Option (Bool) :=
  (f34 N a1 a0).bind fun r =>
  some r
def c42 (N : Nat) : Callee := .pure (.pr (.val (.sl false (.pair (.int .i64) (.pair (.int .i64) .unit)))) (.pr (.val (.ptr (.sl false (.pair (.int .i64) (.pair (.int .i64) .unit))))) .un)) [.bool] fun d => f42 N d.1 d.2.1
def lp42 (N : Nat) : Nat → Option LoopFn := fun r => none
def x42 (N : Nat) : Ctx := { fuel := N, tt := getL ttL, mt := getL mtL, ntmps := 7, env := fun f => (getL [(34, [c34 N])] f).getD [], cut := getL [], exits := fun r => getL ((getL [] r).getD []), res := ⟨[3], []⟩, own := fun _ => none, lp := lp42 N, eqs := fun T => memN T eqL }
noncomputable def b42 : Code := ((Go.Proofs.Try.f42).body).getD .skip
theorem e42 (N : Nat) (a0 : List (Int × (Int × Unit))) (a1 : List (Int × (Int × Unit))) : bodyK (x42 N) [.bool] [.tmp 3] b42 (entry (.pr (.val (.sl false (.pair (.int .i64) (.pair (.int .i64) .unit)))) (.pr (.val (.ptr (.sl false (.pair (.int .i64) (.pair (.int .i64) .unit))))) .un)) (a0, (a1, ()))) = f42 N a0 a1 := by kernel_rfl
theorem k42 (N : Nat) : CalleeOK Go.Proofs.Try.prog 42 (c42 N) :=
  fn_ok (fn := Go.Proofs.Try.f42) (body := b42) (c := x42 N) Go.Proofs.Try.func42 (by kernel_rfl) (by kernel_rfl) ⟨ttL_ok, mtL_ok, eqL_ok, env_cons (forall_mem1 (k34 N)) (env_nil)⟩ mixed (by kernel_rfl) (Nat.le_of_ble_eq_true (by kernel_rfl)) (by kernel_rfl) (by decide)
    (loops_ok (by kernel_rfl : loopsOf b42 = []) .nil) fun d => e42 N d.1 d.2.1
/-! ### 41: slices.IndexFunc[[][]keyhole/api.Answer,[]keyhole/api.Answer] -/
def f41_L2 {R : Type} (N : Nat) (t0 : List (List (Int × (Int × Unit)))) (t1 : (List (Int × (Int × Unit)) × Unit)) (t7 : Int) (kb : Int → Option R) (kret : Int → Option R) (kx0 : Unit → Option R) : Int → Option R :=
  fun t8 =>
    cond (decide (t8 < t7))
      ((idx t0 t8).bind fun x =>
      (f42 N x t1.1).bind fun r =>
      cond r
        (kret t8)
        (kb (wi64 (t8 + 1))))
      (kx0 ())
def f41 (N : Nat) (a0 : List (List (Int × (Int × Unit)))) (a1 : (List (Int × (Int × Unit)) × Unit)) : Option (Int) :=
  iter (fun w => f41_L2 N a0 a1 (len a0) w
    (fun t4 =>
      some t4)
    (fun (_ : Unit) =>
      some (-1))) N 0
def c41 (N : Nat) : Callee := .pure (.pr (.val (.sl false (.sl false (.pair (.int .i64) (.pair (.int .i64) .unit))))) (.pr (.val (.fn 42 (.pair (.ptr (.sl false (.pair (.int .i64) (.pair (.int .i64) .unit)))) .unit))) .un)) [(.int .i64)] fun d => f41 N d.1 d.2.1
def F41_2 : SForm := ⟨[(8, (.val (.int .i64))), (0, (.val (.sl false (.sl false (.pair (.int .i64) (.pair (.int .i64) .unit)))))), (1, (.val (.fn 42 (.pair (.ptr (.sl false (.pair (.int .i64) (.pair (.int .i64) .unit)))) .unit)))), (7, (.val (.int .i64)))], []⟩
def G41_2 (N : Nat) : (R : Type) → F41_2.den → (AExit → St → Option R) → Option R := fun R d k => iter (fun kb => f41_L2 N d.1.2.1 d.1.2.2.1 d.1.2.2.2.1 kb
    (fun y0 => k .ret (St.of [(4, (.data (.int .i64) y0))] []))
    (fun _ => k (.exit 0) (St.of [] []))) N d.1.1
def lp41 (N : Nat) : Nat → Option LoopFn := fun r => cond (Nat.beq r 2) (some fun R sl os k => F41_2.take sl os fun d => G41_2 N R d k) (none)
def x41 (N : Nat) : Ctx := { fuel := N, tt := getL ttL, mt := getL mtL, ntmps := 19, env := fun f => (getL [(42, [c42 N])] f).getD [], cut := getL [(2, ⟨[8, 0, 1, 7], []⟩)], exits := fun r => getL ((getL [(2, [(0, ⟨[], []⟩)])] r).getD []), res := ⟨[4], []⟩, own := fun _ => none, lp := lp41 N, eqs := fun T => memN T eqL }
noncomputable def b41 : Code := ((Go.Proofs.Try.f41).body).getD .skip
theorem s41_2 (N : Nat) {R : Type} (k : AExit → St → Option R) (t0 : List (List (Int × (Int × Unit)))) (t1 : (List (Int × (Int × Unit)) × Unit)) (t7 : Int) (kb : List (Nat × AVal) → List Obj → Option R) (x : Int) : codeK (x41 N) (loopAt 2 (loopsOf b41)) (St.of [(8, (.data (.int .i64) x)), (0, (.data (.sl false (.sl false (.pair (.int .i64) (.pair (.int .i64) .unit)))) t0)), (1, (.data (.fn 42 (.pair (.ptr (.sl false (.pair (.int .i64) (.pair (.int .i64) .unit)))) .unit)) t1)), (7, (.data (.int .i64) t7))] []) (kLoop (x41 N) 2 ⟨[8, 0, 1, 7], []⟩ kb k) = f41_L2 N t0 t1 t7 (fun y => kb [(8, (.data (.int .i64) y)), (0, (.data (.sl false (.sl false (.pair (.int .i64) (.pair (.int .i64) .unit)))) t0)), (1, (.data (.fn 42 (.pair (.ptr (.sl false (.pair (.int .i64) (.pair (.int .i64) .unit)))) .unit)) t1)), (7, (.data (.int .i64) t7))] [])
    (fun y0 => k .ret (St.of [(4, (.data (.int .i64) y0))] []))
    (fun _ => k (.exit 0) (St.of [] [])) x := by kernel_rfl
theorem l41_2 (N : Nat) : LoopOK (x41 N) (loopAt 2 (loopsOf b41)) :=
  loop_mk (G41_2 N) (by kernel_rfl) (by kernel_rfl) (by kernel_rfl) fun R k d =>
    loop_eq (st := fun (x : Int) => ([(8, (.data (.int .i64) x)), (0, (.data (.sl false (.sl false (.pair (.int .i64) (.pair (.int .i64) .unit)))) d.1.2.1)), (1, (.data (.fn 42 (.pair (.ptr (.sl false (.pair (.int .i64) (.pair (.int .i64) .unit)))) .unit)) d.1.2.2.1)), (7, (.data (.int .i64) d.1.2.2.2.1))], [])) (s41_2 N k d.1.2.1 d.1.2.2.1 d.1.2.2.2.1) N d.1.1
theorem e41 (N : Nat) (a0 : List (List (Int × (Int × Unit)))) (a1 : (List (Int × (Int × Unit)) × Unit)) : bodyK (x41 N) [(.int .i64)] [.tmp 4] b41 (entry (.pr (.val (.sl false (.sl false (.pair (.int .i64) (.pair (.int .i64) .unit))))) (.pr (.val (.fn 42 (.pair (.ptr (.sl false (.pair (.int .i64) (.pair (.int .i64) .unit)))) .unit))) .un)) (a0, (a1, ()))) = f41 N a0 a1 := by kernel_rfl
theorem k41 (N : Nat) : CalleeOK Go.Proofs.Try.prog 41 (c41 N) :=
  fn_ok (fn := Go.Proofs.Try.f41) (body := b41) (c := x41 N) Go.Proofs.Try.func41 (by kernel_rfl) (by kernel_rfl) ⟨ttL_ok, mtL_ok, eqL_ok, env_cons (forall_mem1 (k42 N)) (env_nil)⟩ mixed (by kernel_rfl) (Nat.le_of_ble_eq_true (by kernel_rfl)) (by kernel_rfl) (by decide)
    (loops_ok (by kernel_rfl : loopsOf b41 = [loopAt 2 (loopsOf b41)]) (.cons (l41_2 N) .nil)) fun d => e41 N d.1 d.2.1
/-! ### 43: keyhole/partition.Of -/
def f43_L4 {R : Type} (N : Nat) (t13 : List Int) (t14 : Int) (kb : Int × List Int × (List (Int × Int)) → Option R) (kx0 : (List Int) → Option R) : Int × List Int × (List (Int × Int)) → Option R :=
  fun (t15, o0, o1) =>
    cond (decide (t15 < t14))
      ((idx t13 t15).bind fun x =>
      cond (!(Option.isSome (mget (keyEq (.int .i64)) o1 x)))
        (chk (decide ((List.length o1) ≤ room)) <|
        chk (decide ((o0.length.succ) ≤ room)) <|
        kb ((wi64 (t15 + 1)), (o0 ++ ((len o1) :: ([] : List Int))), (mput (keyEq (.int .i64)) o1 x (len o1))))
        (chk (decide ((o0.length.succ) ≤ room)) <|
        kb ((wi64 (t15 + 1)), (o0 ++ ((Option.getD (mget (keyEq (.int .i64)) o1 x) 0) :: ([] : List Int))), o1)))
      (kx0 o0)
def f43 (N : Nat) (a0 : List Int) : Option (List Int) :=
  chk ((decide (0 ≤ (len a0))) && (decide ((len a0) ≤ ((room : Nat) : Int)))) <|
  iter (fun w => f43_L4 N a0 (len a0) w
    (fun o0_1 =>
      some o0_1)) N (0, (List.replicate (Int.toNat 0) 0 : List Int), ([] : List (Int × Int)))
def c43 (N : Nat) : Callee := .pure (.pr (.val (.sl false (.int .i64))) .un) [(.sl true (.int .i64))] fun d => f43 N d.1
def F43_4 : SForm := ⟨[(15, (.val (.int .i64))), (4, (.ref 0)), (3, (.mref 1)), (13, (.val (.sl false (.int .i64)))), (14, (.val (.int .i64)))], [.row (.int .i64), .map (.int .i64) (.int .i64)]⟩
def G43_4 (N : Nat) : (R : Type) → F43_4.den → (AExit → St → Option R) → Option R := fun R d k => iter (fun kb => f43_L4 N d.1.2.2.2.1 d.1.2.2.2.2.1 kb
    (fun y0 => k (.exit 0) (St.of [(4, (.ref 0 [] 0))] [.row (.int .i64) y0 0]))) N (d.1.1, d.2.1, d.2.2.1)
def lp43 (N : Nat) : Nat → Option LoopFn := fun r => cond (Nat.beq r 4) (some fun R sl os k => F43_4.take sl os fun d => G43_4 N R d k) (none)
def x43 (N : Nat) : Ctx := { fuel := N, tt := getL ttL, mt := getL mtL, ntmps := 38, env := fun f => (getL [] f).getD [], cut := getL [(4, ⟨[15, 4, 3, 13, 14], []⟩)], exits := fun r => getL ((getL [(4, [(0, ⟨[4], []⟩)])] r).getD []), res := ⟨[2], []⟩, own := fun _ => none, lp := lp43 N, eqs := fun T => memN T eqL }
noncomputable def b43 : Code := ((Go.Proofs.Try.f43).body).getD .skip
theorem s43_4 (N : Nat) {R : Type} (k : AExit → St → Option R) (t13 : List Int) (t14 : Int) (kb : List (Nat × AVal) → List Obj → Option R) (x : Int × List Int × (List (Int × Int))) : codeK (x43 N) (loopAt 4 (loopsOf b43)) (St.of [(15, (.data (.int .i64) x.1)), (4, (.ref 0 [] 0)), (3, (.mref 1)), (13, (.data (.sl false (.int .i64)) t13)), (14, (.data (.int .i64) t14))] [.row (.int .i64) x.2.1 0, .map (.int .i64) (.int .i64) x.2.2]) (kLoop (x43 N) 4 ⟨[15, 4, 3, 13, 14], []⟩ kb k) = f43_L4 N t13 t14 (fun y => kb [(15, (.data (.int .i64) y.1)), (4, (.ref 0 [] 0)), (3, (.mref 1)), (13, (.data (.sl false (.int .i64)) t13)), (14, (.data (.int .i64) t14))] [.row (.int .i64) y.2.1 0, .map (.int .i64) (.int .i64) y.2.2])
    (fun y0 => k (.exit 0) (St.of [(4, (.ref 0 [] 0))] [.row (.int .i64) y0 0])) x := by kernel_rfl
theorem l43_4 (N : Nat) : LoopOK (x43 N) (loopAt 4 (loopsOf b43)) :=
  loop_mk (G43_4 N) (by kernel_rfl) (by kernel_rfl) (by kernel_rfl) fun R k d =>
    loop_eq (st := fun (x : Int × List Int × (List (Int × Int))) => ([(15, (.data (.int .i64) x.1)), (4, (.ref 0 [] 0)), (3, (.mref 1)), (13, (.data (.sl false (.int .i64)) d.1.2.2.2.1)), (14, (.data (.int .i64) d.1.2.2.2.2.1))], [.row (.int .i64) x.2.1 0, .map (.int .i64) (.int .i64) x.2.2])) (s43_4 N k d.1.2.2.2.1 d.1.2.2.2.2.1) N (d.1.1, d.2.1, d.2.2.1)
theorem e43 (N : Nat) (a0 : List Int) : bodyK (x43 N) [(.sl true (.int .i64))] [.tmp 2] b43 (entry (.pr (.val (.sl false (.int .i64))) .un) (a0, ())) = f43 N a0 := by kernel_rfl
theorem k43 (N : Nat) : CalleeOK Go.Proofs.Try.prog 43 (c43 N) :=
  fn_ok (fn := Go.Proofs.Try.f43) (body := b43) (c := x43 N) Go.Proofs.Try.func43 (by kernel_rfl) (by kernel_rfl) ⟨ttL_ok, mtL_ok, eqL_ok, env_nil⟩ mixed (by kernel_rfl) (Nat.le_of_ble_eq_true (by kernel_rfl)) (by kernel_rfl) (by decide)
    (loops_ok (by kernel_rfl : loopsOf b43 = [loopAt 4 (loopsOf b43)]) (.cons (l43_4 N) .nil)) fun d => e43 N d.1
/-! ### 15: keyhole/strategy.Split -/
def f15_L7 {R : Type} (N : Nat) (t24 : Int) (o0 : List (List (Int × (Int × Unit)))) (kb : Int × List Int → Option R) (kx0 : (List Int) → Option R) : Int × List Int → Option R :=
  fun (t25, o1) =>
    cond (decide (t25 < t24))
      (chk (inb o0 t25) <|
      (idx o0 t25).bind fun x =>
      (f41 N o0 (x, ())).bind fun r_2 =>
      chk (inb o1 t25) <|
      (idx o1 t25).bind fun x_1 =>
      (idx o1 t25).bind fun x_2 =>
      kb ((wi64 (t25 + 1)), (setI o1 t25 r_2)))
      (kx0 o1)
def f15 (N : Nat) (a0 : (Int × (List (List Int) × Unit))) (a1 : List (Int × (List Int × Unit))) : Option (List Int × Int) :=
  (f19 N a0 a1).bind fun r =>
  cond (!(decide (r = 0)))
    (some (([] : List Int), r))
    ((f40 N a0 a1).bind fun r_1 =>
    chk (((decide (0 ≤ (len r_1))) && (decide ((len r_1) ≤ (len r_1)))) && (decide ((len r_1) ≤ ((room : Nat) : Int)))) <|
    iter (fun w => f15_L7 N (len r_1) r_1 w
      (fun o0_1 =>
        (f43 N o0_1).bind fun r_3 =>
        some (r_3, 0))) N (0, (List.replicate (Int.toNat (len r_1)) 0 : List Int)))
def c15 (N : Nat) : Callee := .pure (.pr (.val (.pair (.int .i64) (.pair (.sl false (.sl false (.int .i64))) .unit))) (.pr (.val (.sl false (.pair (.int .i64) (.pair (.sl false (.int .i64)) .unit)))) .un)) [(.sl true (.int .i64)), (.int .i64)] fun d => f15 N d.1 d.2.1
def F15_7 : SForm := ⟨[(25, (.val (.int .i64))), (7, (.ref 0)), (8, (.ref 1)), (23, (.ref 0)), (24, (.val (.int .i64)))], [.row (.sl false (.pair (.int .i64) (.pair (.int .i64) .unit))), .row (.int .i64)]⟩
def G15_7 (N : Nat) : (R : Type) → F15_7.den → (AExit → St → Option R) → Option R := fun R d k => iter (fun kb => f15_L7 N d.1.2.2.2.2.1 d.2.1 kb
    (fun y0 => k (.exit 0) (St.of [(8, (.ref 0 [] 0))] [.row (.int .i64) y0 0]))) N (d.1.1, d.2.2.1)
def lp15 (N : Nat) : Nat → Option LoopFn := fun r => cond (Nat.beq r 7) (some fun R sl os k => F15_7.take sl os fun d => G15_7 N R d k) (none)
def x15 (N : Nat) : Ctx := { fuel := N, tt := getL ttL, mt := getL mtL, ntmps := 39, env := fun f => (getL [(19, [c19 N]), (40, [c40 N]), (41, [c41 N]), (43, [c43 N])] f).getD [], cut := getL [(7, ⟨[25, 7, 8, 23, 24], []⟩)], exits := fun r => getL ((getL [(7, [(0, ⟨[8], []⟩)])] r).getD []), res := ⟨[4, 5], []⟩, own := fun _ => none, lp := lp15 N, eqs := fun T => memN T eqL }
noncomputable def b15 : Code := ((Go.Proofs.Try.f15).body).getD .skip
theorem s15_7 (N : Nat) {R : Type} (k : AExit → St → Option R) (t24 : Int) (o0 : List (List (Int × (Int × Unit)))) (kb : List (Nat × AVal) → List Obj → Option R) (x : Int × List Int) : codeK (x15 N) (loopAt 7 (loopsOf b15)) (St.of [(25, (.data (.int .i64) x.1)), (7, (.ref 0 [] 0)), (8, (.ref 1 [] 0)), (23, (.ref 0 [] 0)), (24, (.data (.int .i64) t24))] [.row (.sl false (.pair (.int .i64) (.pair (.int .i64) .unit))) o0 0, .row (.int .i64) x.2 0]) (kLoop (x15 N) 7 ⟨[25, 7, 8, 23, 24], []⟩ kb k) = f15_L7 N t24 o0 (fun y => kb [(25, (.data (.int .i64) y.1)), (7, (.ref 0 [] 0)), (8, (.ref 1 [] 0)), (23, (.ref 0 [] 0)), (24, (.data (.int .i64) t24))] [.row (.sl false (.pair (.int .i64) (.pair (.int .i64) .unit))) o0 0, .row (.int .i64) y.2 0])
    (fun y0 => k (.exit 0) (St.of [(8, (.ref 0 [] 0))] [.row (.int .i64) y0 0])) x := by kernel_rfl
theorem l15_7 (N : Nat) : LoopOK (x15 N) (loopAt 7 (loopsOf b15)) :=
  loop_mk (G15_7 N) (by kernel_rfl) (by kernel_rfl) (by kernel_rfl) fun R k d =>
    loop_eq (st := fun (x : Int × List Int) => ([(25, (.data (.int .i64) x.1)), (7, (.ref 0 [] 0)), (8, (.ref 1 [] 0)), (23, (.ref 0 [] 0)), (24, (.data (.int .i64) d.1.2.2.2.2.1))], [.row (.sl false (.pair (.int .i64) (.pair (.int .i64) .unit))) d.2.1 0, .row (.int .i64) x.2 0])) (s15_7 N k d.1.2.2.2.2.1 d.2.1) N (d.1.1, d.2.2.1)
theorem e15 (N : Nat) (a0 : (Int × (List (List Int) × Unit))) (a1 : List (Int × (List Int × Unit))) : bodyK (x15 N) [(.sl true (.int .i64)), (.int .i64)] [.tmp 4, .tmp 5] b15 (entry (.pr (.val (.pair (.int .i64) (.pair (.sl false (.sl false (.int .i64))) .unit))) (.pr (.val (.sl false (.pair (.int .i64) (.pair (.sl false (.int .i64)) .unit)))) .un)) (a0, (a1, ()))) = f15 N a0 a1 := by kernel_rfl
theorem k15 (N : Nat) : CalleeOK Go.Proofs.Try.prog 15 (c15 N) :=
  fn_ok (fn := Go.Proofs.Try.f15) (body := b15) (c := x15 N) Go.Proofs.Try.func15 (by kernel_rfl) (by kernel_rfl) ⟨ttL_ok, mtL_ok, eqL_ok, env_cons (forall_mem1 (k19 N)) (env_cons (forall_mem1 (k40 N)) (env_cons (forall_mem1 (k41 N)) (env_cons (forall_mem1 (k43 N)) (env_nil))))⟩ mixed (by kernel_rfl) (Nat.le_of_ble_eq_true (by kernel_rfl)) (by kernel_rfl) (by decide)
    (loops_ok (by kernel_rfl : loopsOf b15 = [loopAt 7 (loopsOf b15)]) (.cons (l15_7 N) .nil)) fun d => e15 N d.1 d.2.1
/-! ### 47: keyhole/strategy.asked -/
def f47 (N : Nat) (a0 : (Int × (List (List Int) × Unit))) (a1 : List (Int × (List Int × Unit))) (a2 : Int) : Option (Int) :=
  (f19 N a0 a1).bind fun r =>
  (cond (decide (r = 0))
      ((cond (decide (a2 < 0))
          (some true)
          (some (decide (a0.1 ≤ a2)))).bind fun b =>
      some b)
      (some false)).bind fun b_1 =>
  cond b_1
    (some 3)
    (some r)
def c47 (N : Nat) : Callee := .pure (.pr (.val (.pair (.int .i64) (.pair (.sl false (.sl false (.int .i64))) .unit))) (.pr (.val (.sl false (.pair (.int .i64) (.pair (.sl false (.int .i64)) .unit)))) (.pr (.val (.int .i64)) .un))) [(.int .i64)] fun d => f47 N d.1 d.2.1 d.2.2.1
def lp47 (N : Nat) : Nat → Option LoopFn := fun r => none
def x47 (N : Nat) : Ctx := { fuel := N, tt := getL ttL, mt := getL mtL, ntmps := 24, env := fun f => (getL [(19, [c19 N])] f).getD [], cut := getL [], exits := fun r => getL ((getL [] r).getD []), res := ⟨[6], []⟩, own := fun _ => none, lp := lp47 N, eqs := fun T => memN T eqL }
noncomputable def b47 : Code := ((Go.Proofs.Try.f47).body).getD .skip
theorem e47 (N : Nat) (a0 : (Int × (List (List Int) × Unit))) (a1 : List (Int × (List Int × Unit))) (a2 : Int) : bodyK (x47 N) [(.int .i64)] [.tmp 6] b47 (entry (.pr (.val (.pair (.int .i64) (.pair (.sl false (.sl false (.int .i64))) .unit))) (.pr (.val (.sl false (.pair (.int .i64) (.pair (.sl false (.int .i64)) .unit)))) (.pr (.val (.int .i64)) .un))) (a0, (a1, (a2, ())))) = f47 N a0 a1 a2 := by kernel_rfl
theorem k47 (N : Nat) : CalleeOK Go.Proofs.Try.prog 47 (c47 N) :=
  fn_ok (fn := Go.Proofs.Try.f47) (body := b47) (c := x47 N) Go.Proofs.Try.func47 (by kernel_rfl) (by kernel_rfl) ⟨ttL_ok, mtL_ok, eqL_ok, env_cons (forall_mem1 (k19 N)) (env_nil)⟩ mixed (by kernel_rfl) (Nat.le_of_ble_eq_true (by kernel_rfl)) (by kernel_rfl) (by decide)
    (loops_ok (by kernel_rfl : loopsOf b47 = []) .nil) fun d => e47 N d.1 d.2.1 d.2.2.1
/-! ### 27: keyhole/strategy.Spent -/
def f27_L11 {R : Type} (N : Nat) (t9_1 : Int) (t44 : List Int) (t34_1 : Int) (t35_1 : Int) (t10_1 : Int) (t45 : Int) (o1_1 : (Int × (List (List Int) × Unit))) (o2 : List (Int × (Int × Unit))) (o3 : (Int × (Int × Unit))) (kb : Int × List Int → Option R) (kx2 : (List Int) → Option R) : Int × List Int → Option R :=
  fun (t46, o0_1) =>
    cond (decide (t46 < t45))
      ((idx t44 t46).bind fun x_2 =>
      cond (decide (t46 < 0))
        (none /- Go.Op.binOp Go.BinOp.shr (OfNat.ofNat.{0} Nat 74 (instOfNatNat 74)) (Go.Operand.tmp (OfNat.ofNat.{0} Nat 51 (instOfNatNat 51))) (Go.Operand.tmp (OfNat.ofNat.{0} Nat 52 (instOfNatNat 52))) (OfNat.ofNat.{0} Nat 3 (instOfNatNat 3)) -/)
        (cond (decide ((wu64 (((((BitVec.ofInt 64 (Int.fdiv t9_1 (Int.pow 2 (min (Int.toNat t46) 64)))).and (BitVec.ofInt 64 1)).toNat) : Nat) : Int)) = 1))
          (chk (inb o0_1 x_2) <|
          (idx o0_1 x_2).bind fun x_3 =>
          cond (decide (t46 < 0))
            (none /- Go.Op.binOp Go.BinOp.shl (OfNat.ofNat.{0} Nat 74 (instOfNatNat 74)) (Go.Operand.const (Go.Value.int Go.IntKind.u64 (OfNat.ofNat.{0} Int 1 (instOfNat 1)))) (Go.Operand.tmp (OfNat.ofNat.{0} Nat 59 (instOfNatNat 59))) (OfNat.ofNat.{0} Nat 3 (instOfNatNat 3)) -/)
            (chk (inb o0_1 x_2) <|
            (idx o0_1 x_2).bind fun x_4 =>
            (idx o0_1 x_2).bind fun x_5 =>
            kb ((wi64 (t46 + 1)), (setI o0_1 x_2 (wu64 (((((BitVec.ofInt 64 x_3).or
    (BitVec.ofInt 64 (Go.IntKind.u64.wrap (Int.mul 1 (Int.pow 2 (min (Int.toNat t46) 64)))))).toNat) : Nat) : Int))))))
          (kb ((wi64 (t46 + 1)), o0_1))))
      (kx2 o0_1)
def f27_L18 {R : Type} (N : Nat) (t64 : List Int) (t34_2 : Int) (t35_2 : Int) (t10_2 : Int) (o0_2 : (Int × (List (List Int) × Unit))) (o1_2 : List (Int × (Int × Unit))) (o2_2 : List Int) (o3_1 : (Int × (Int × Unit))) (kb : Int × Int → Option R) (kx4 : Int → Option R) : Int × Int → Option R :=
  fun (t65, t16) =>
    cond (decide (t65 < 62))
      ((idx t64 t65).bind fun x_6 =>
      cond (!(decide (x_6 = 0)))
        (kb ((wi64 (t65 + 1)), (wi64 (t16 + 1))))
        (kb ((wi64 (t65 + 1)), t16)))
      (kx4 t16)
def f27_L7 {R : Type} (N : Nat) (t34 : Int) (o0 : (Int × (List (List Int) × Unit))) (o1 : List (Int × (Int × Unit))) (kb : Int × Int × Int → Option R) (kx0 : Int → Option R) : Int × Int × Int → Option R :=
  fun (t9, t35, t10) =>
    cond (decide (t35 < t34))
      (chk (inb o1 t35) <|
      (idx o1 t35).bind fun x =>
      (idx o0.2.1 x.1).bind fun x_1 =>
      iter (fun w => f27_L11 N t9 x_1 t34 t35 t10 (len x_1) o0 o1 (x.1, x.2) w
        (fun o2_1 =>
          iter (fun w => f27_L18 N o2_1 t34 t35 t10 o0 o1 o2_1 (x.1, x.2) w
            (fun t16_1 =>
              chk (inb o2_1 x.2.1) <|
              (idx o2_1 x.2.1).bind fun x_7 =>
              kb (x_7, (wi64 (t35 + 1)), (minI (wi64 (t10 * t16_1)) 1048576)))) N (0, 0))) N (0, (List.replicate 62 0 : List Int)))
      (kx0 t10)
def f27 (N : Nat) (a0 : (Int × (List (List Int) × Unit))) (a1 : List (Int × (List Int × Unit))) (a2 : Int) : Option (Int × Int) :=
  (f47 N a0 a1 a2).bind fun r =>
  cond (!(decide (r = 0)))
    (some (0, r))
    (cond (decide (a0.1 < 0))
      (none /- Go.Op.binOp Go.BinOp.shl (OfNat.ofNat.{0} Nat 74 (instOfNatNat 74)) (Go.Operand.const (Go.Value.int Go.IntKind.u64 (OfNat.ofNat.{0} Int 1 (instOfNat 1)))) (Go.Operand.tmp (OfNat.ofNat.{0} Nat 27 (instOfNatNat 27))) (OfNat.ofNat.{0} Nat 3 (instOfNatNat 3)) -/)
      ((f48 N a0 a1 a2).bind fun r_1 =>
      iter (fun w => f27_L7 N (len r_1) a0 r_1 w
        (fun t10_3 =>
          some (t10_3, 0))) N ((wu64 ((wu64 (1 * (2 ^ (min (Int.toNat a0.1) 64)))) - 1)), 0, 1)))
def c27 (N : Nat) : Callee := .pure (.pr (.val (.pair (.int .i64) (.pair (.sl false (.sl false (.int .i64))) .unit))) (.pr (.val (.sl false (.pair (.int .i64) (.pair (.sl false (.int .i64)) .unit)))) (.pr (.val (.int .i64)) .un))) [(.int .i64), (.int .i64)] fun d => f27 N d.1 d.2.1 d.2.2.1
def F27_11 : SForm := ⟨[(46, (.val (.int .i64))), (13, (.bptr 0 [])), (9, (.val (.int .u64))), (44, (.val (.sl false (.int .i64)))), (3, (.bptr 1 [])), (33, (.ref 2)), (34, (.val (.int .i64))), (35, (.val (.int .i64))), (12, (.bptr 3 [])), (10, (.val (.int .i64))), (45, (.val (.int .i64)))], [.cell (.val (.arr 62 (.int .u64))), .cell (.val (.pair (.int .i64) (.pair (.sl false (.sl false (.int .i64))) .unit))), .row (.pair (.int .i64) (.pair (.int .i64) .unit)), .cell (.val (.pair (.int .i64) (.pair (.int .i64) .unit)))]⟩
def G27_11 (N : Nat) : (R : Type) → F27_11.den → (AExit → St → Option R) → Option R := fun R d k => iter (fun kb => f27_L11 N d.1.2.2.1 d.1.2.2.2.1 d.1.2.2.2.2.2.2.1 d.1.2.2.2.2.2.2.2.1 d.1.2.2.2.2.2.2.2.2.2.1 d.1.2.2.2.2.2.2.2.2.2.2.1 d.2.2.1 d.2.2.2.1 d.2.2.2.2.1 kb
    (fun y5 => k (.exit 2) (St.of [(3, (.bptr 0 [])), (33, (.ref 1 [] 0)), (34, (.data (.int .i64) d.1.2.2.2.2.2.2.1)), (35, (.data (.int .i64) d.1.2.2.2.2.2.2.2.1)), (13, (.bptr 2 [])), (12, (.bptr 3 [])), (10, (.data (.int .i64) d.1.2.2.2.2.2.2.2.2.2.1))] [.cell (.data (.pair (.int .i64) (.pair (.sl false (.sl false (.int .i64))) .unit)) d.2.2.1), .row (.pair (.int .i64) (.pair (.int .i64) .unit)) d.2.2.2.1 0, .cell (.data (.arr 62 (.int .u64)) y5), .cell (.data (.pair (.int .i64) (.pair (.int .i64) .unit)) d.2.2.2.2.1)]))) N (d.1.1, d.2.1)
def F27_18 : SForm := ⟨[(65, (.val (.int .i64))), (16, (.val (.int .i64))), (64, (.val (.arr 62 (.int .u64)))), (3, (.bptr 0 [])), (33, (.ref 1)), (34, (.val (.int .i64))), (35, (.val (.int .i64))), (13, (.bptr 2 [])), (12, (.bptr 3 [])), (10, (.val (.int .i64)))], [.cell (.val (.pair (.int .i64) (.pair (.sl false (.sl false (.int .i64))) .unit))), .row (.pair (.int .i64) (.pair (.int .i64) .unit)), .cell (.val (.arr 62 (.int .u64))), .cell (.val (.pair (.int .i64) (.pair (.int .i64) .unit)))]⟩
def G27_18 (N : Nat) : (R : Type) → F27_18.den → (AExit → St → Option R) → Option R := fun R d k => iter (fun kb => f27_L18 N d.1.2.2.1 d.1.2.2.2.2.2.1 d.1.2.2.2.2.2.2.1 d.1.2.2.2.2.2.2.2.2.2.1 d.2.1 d.2.2.1 d.2.2.2.1 d.2.2.2.2.1 kb
    (fun y2 => k (.exit 4) (St.of [(3, (.bptr 0 [])), (33, (.ref 1 [] 0)), (34, (.data (.int .i64) d.1.2.2.2.2.2.1)), (35, (.data (.int .i64) d.1.2.2.2.2.2.2.1)), (13, (.bptr 2 [])), (12, (.bptr 3 [])), (16, (.data (.int .i64) y2)), (10, (.data (.int .i64) d.1.2.2.2.2.2.2.2.2.2.1))] [.cell (.data (.pair (.int .i64) (.pair (.sl false (.sl false (.int .i64))) .unit)) d.2.1), .row (.pair (.int .i64) (.pair (.int .i64) .unit)) d.2.2.1 0, .cell (.data (.arr 62 (.int .u64)) d.2.2.2.1), .cell (.data (.pair (.int .i64) (.pair (.int .i64) .unit)) d.2.2.2.2.1)]))) N (d.1.1, d.1.2.1)
def F27_7 : SForm := ⟨[(9, (.val (.int .u64))), (35, (.val (.int .i64))), (10, (.val (.int .i64))), (3, (.bptr 0 [])), (33, (.ref 1)), (34, (.val (.int .i64)))], [.cell (.val (.pair (.int .i64) (.pair (.sl false (.sl false (.int .i64))) .unit))), .row (.pair (.int .i64) (.pair (.int .i64) .unit))]⟩
def G27_7 (N : Nat) : (R : Type) → F27_7.den → (AExit → St → Option R) → Option R := fun R d k => iter (fun kb => f27_L7 N d.1.2.2.2.2.2.1 d.2.1 d.2.2.1 kb
    (fun y0 => k (.exit 0) (St.of [(10, (.data (.int .i64) y0))] []))) N (d.1.1, d.1.2.1, d.1.2.2.1)
def lp27 (N : Nat) : Nat → Option LoopFn := fun r => cond (Nat.beq r 11) (some fun R sl os k => F27_11.take sl os fun d => G27_11 N R d k) (cond (Nat.beq r 18) (some fun R sl os k => F27_18.take sl os fun d => G27_18 N R d k) (cond (Nat.beq r 7) (some fun R sl os k => F27_7.take sl os fun d => G27_7 N R d k) (none)))
def x27 (N : Nat) : Ctx := { fuel := N, tt := getL ttL, mt := getL mtL, ntmps := 83, env := fun f => (getL [(47, [c47 N]), (48, [c48 N])] f).getD [], cut := getL [(7, ⟨[9, 35, 10, 3, 33, 34], []⟩), (11, ⟨[46, 13, 9, 44, 3, 33, 34, 35, 12, 10, 45], []⟩), (18, ⟨[65, 16, 64, 3, 33, 34, 35, 13, 12, 10], []⟩)], exits := fun r => getL ((getL [(7, [(0, ⟨[10], []⟩)]), (11, [(2, ⟨[3, 33, 34, 35, 13, 12, 10], []⟩)]), (18, [(4, ⟨[3, 33, 34, 35, 13, 12, 16, 10], []⟩)])] r).getD []), res := ⟨[6, 7], []⟩, own := fun _ => none, lp := lp27 N, eqs := fun T => memN T eqL }
noncomputable def b27 : Code := ((Go.Proofs.Try.f27).body).getD .skip
theorem s27_11 (N : Nat) {R : Type} (k : AExit → St → Option R) (t9_1 : Int) (t44 : List Int) (t34_1 : Int) (t35_1 : Int) (t10_1 : Int) (t45 : Int) (o1_1 : (Int × (List (List Int) × Unit))) (o2 : List (Int × (Int × Unit))) (o3 : (Int × (Int × Unit))) (kb : List (Nat × AVal) → List Obj → Option R) (x : Int × List Int) : codeK (x27 N) (loopAt 11 (loopsOf b27)) (St.of [(46, (.data (.int .i64) x.1)), (13, (.bptr 0 [])), (9, (.data (.int .u64) t9_1)), (44, (.data (.sl false (.int .i64)) t44)), (3, (.bptr 1 [])), (33, (.ref 2 [] 0)), (34, (.data (.int .i64) t34_1)), (35, (.data (.int .i64) t35_1)), (12, (.bptr 3 [])), (10, (.data (.int .i64) t10_1)), (45, (.data (.int .i64) t45))] [.cell (.data (.arr 62 (.int .u64)) x.2), .cell (.data (.pair (.int .i64) (.pair (.sl false (.sl false (.int .i64))) .unit)) o1_1), .row (.pair (.int .i64) (.pair (.int .i64) .unit)) o2 0, .cell (.data (.pair (.int .i64) (.pair (.int .i64) .unit)) o3)]) (kLoop (x27 N) 11 ⟨[46, 13, 9, 44, 3, 33, 34, 35, 12, 10, 45], []⟩ kb k) = f27_L11 N t9_1 t44 t34_1 t35_1 t10_1 t45 o1_1 o2 o3 (fun y => kb [(46, (.data (.int .i64) y.1)), (13, (.bptr 0 [])), (9, (.data (.int .u64) t9_1)), (44, (.data (.sl false (.int .i64)) t44)), (3, (.bptr 1 [])), (33, (.ref 2 [] 0)), (34, (.data (.int .i64) t34_1)), (35, (.data (.int .i64) t35_1)), (12, (.bptr 3 [])), (10, (.data (.int .i64) t10_1)), (45, (.data (.int .i64) t45))] [.cell (.data (.arr 62 (.int .u64)) y.2), .cell (.data (.pair (.int .i64) (.pair (.sl false (.sl false (.int .i64))) .unit)) o1_1), .row (.pair (.int .i64) (.pair (.int .i64) .unit)) o2 0, .cell (.data (.pair (.int .i64) (.pair (.int .i64) .unit)) o3)])
    (fun y5 => k (.exit 2) (St.of [(3, (.bptr 0 [])), (33, (.ref 1 [] 0)), (34, (.data (.int .i64) t34_1)), (35, (.data (.int .i64) t35_1)), (13, (.bptr 2 [])), (12, (.bptr 3 [])), (10, (.data (.int .i64) t10_1))] [.cell (.data (.pair (.int .i64) (.pair (.sl false (.sl false (.int .i64))) .unit)) o1_1), .row (.pair (.int .i64) (.pair (.int .i64) .unit)) o2 0, .cell (.data (.arr 62 (.int .u64)) y5), .cell (.data (.pair (.int .i64) (.pair (.int .i64) .unit)) o3)])) x := by kernel_rfl
theorem l27_11 (N : Nat) : LoopOK (x27 N) (loopAt 11 (loopsOf b27)) :=
  loop_mk (G27_11 N) (by kernel_rfl) (by kernel_rfl) (by kernel_rfl) fun R k d =>
    loop_eq (st := fun (x : Int × List Int) => ([(46, (.data (.int .i64) x.1)), (13, (.bptr 0 [])), (9, (.data (.int .u64) d.1.2.2.1)), (44, (.data (.sl false (.int .i64)) d.1.2.2.2.1)), (3, (.bptr 1 [])), (33, (.ref 2 [] 0)), (34, (.data (.int .i64) d.1.2.2.2.2.2.2.1)), (35, (.data (.int .i64) d.1.2.2.2.2.2.2.2.1)), (12, (.bptr 3 [])), (10, (.data (.int .i64) d.1.2.2.2.2.2.2.2.2.2.1)), (45, (.data (.int .i64) d.1.2.2.2.2.2.2.2.2.2.2.1))], [.cell (.data (.arr 62 (.int .u64)) x.2), .cell (.data (.pair (.int .i64) (.pair (.sl false (.sl false (.int .i64))) .unit)) d.2.2.1), .row (.pair (.int .i64) (.pair (.int .i64) .unit)) d.2.2.2.1 0, .cell (.data (.pair (.int .i64) (.pair (.int .i64) .unit)) d.2.2.2.2.1)])) (s27_11 N k d.1.2.2.1 d.1.2.2.2.1 d.1.2.2.2.2.2.2.1 d.1.2.2.2.2.2.2.2.1 d.1.2.2.2.2.2.2.2.2.2.1 d.1.2.2.2.2.2.2.2.2.2.2.1 d.2.2.1 d.2.2.2.1 d.2.2.2.2.1) N (d.1.1, d.2.1)
theorem s27_18 (N : Nat) {R : Type} (k : AExit → St → Option R) (t64 : List Int) (t34_2 : Int) (t35_2 : Int) (t10_2 : Int) (o0_2 : (Int × (List (List Int) × Unit))) (o1_2 : List (Int × (Int × Unit))) (o2_2 : List Int) (o3_1 : (Int × (Int × Unit))) (kb : List (Nat × AVal) → List Obj → Option R) (x : Int × Int) : codeK (x27 N) (loopAt 18 (loopsOf b27)) (St.of [(65, (.data (.int .i64) x.1)), (16, (.data (.int .i64) x.2)), (64, (.data (.arr 62 (.int .u64)) t64)), (3, (.bptr 0 [])), (33, (.ref 1 [] 0)), (34, (.data (.int .i64) t34_2)), (35, (.data (.int .i64) t35_2)), (13, (.bptr 2 [])), (12, (.bptr 3 [])), (10, (.data (.int .i64) t10_2))] [.cell (.data (.pair (.int .i64) (.pair (.sl false (.sl false (.int .i64))) .unit)) o0_2), .row (.pair (.int .i64) (.pair (.int .i64) .unit)) o1_2 0, .cell (.data (.arr 62 (.int .u64)) o2_2), .cell (.data (.pair (.int .i64) (.pair (.int .i64) .unit)) o3_1)]) (kLoop (x27 N) 18 ⟨[65, 16, 64, 3, 33, 34, 35, 13, 12, 10], []⟩ kb k) = f27_L18 N t64 t34_2 t35_2 t10_2 o0_2 o1_2 o2_2 o3_1 (fun y => kb [(65, (.data (.int .i64) y.1)), (16, (.data (.int .i64) y.2)), (64, (.data (.arr 62 (.int .u64)) t64)), (3, (.bptr 0 [])), (33, (.ref 1 [] 0)), (34, (.data (.int .i64) t34_2)), (35, (.data (.int .i64) t35_2)), (13, (.bptr 2 [])), (12, (.bptr 3 [])), (10, (.data (.int .i64) t10_2))] [.cell (.data (.pair (.int .i64) (.pair (.sl false (.sl false (.int .i64))) .unit)) o0_2), .row (.pair (.int .i64) (.pair (.int .i64) .unit)) o1_2 0, .cell (.data (.arr 62 (.int .u64)) o2_2), .cell (.data (.pair (.int .i64) (.pair (.int .i64) .unit)) o3_1)])
    (fun y2 => k (.exit 4) (St.of [(3, (.bptr 0 [])), (33, (.ref 1 [] 0)), (34, (.data (.int .i64) t34_2)), (35, (.data (.int .i64) t35_2)), (13, (.bptr 2 [])), (12, (.bptr 3 [])), (16, (.data (.int .i64) y2)), (10, (.data (.int .i64) t10_2))] [.cell (.data (.pair (.int .i64) (.pair (.sl false (.sl false (.int .i64))) .unit)) o0_2), .row (.pair (.int .i64) (.pair (.int .i64) .unit)) o1_2 0, .cell (.data (.arr 62 (.int .u64)) o2_2), .cell (.data (.pair (.int .i64) (.pair (.int .i64) .unit)) o3_1)])) x := by kernel_rfl
theorem l27_18 (N : Nat) : LoopOK (x27 N) (loopAt 18 (loopsOf b27)) :=
  loop_mk (G27_18 N) (by kernel_rfl) (by kernel_rfl) (by kernel_rfl) fun R k d =>
    loop_eq (st := fun (x : Int × Int) => ([(65, (.data (.int .i64) x.1)), (16, (.data (.int .i64) x.2)), (64, (.data (.arr 62 (.int .u64)) d.1.2.2.1)), (3, (.bptr 0 [])), (33, (.ref 1 [] 0)), (34, (.data (.int .i64) d.1.2.2.2.2.2.1)), (35, (.data (.int .i64) d.1.2.2.2.2.2.2.1)), (13, (.bptr 2 [])), (12, (.bptr 3 [])), (10, (.data (.int .i64) d.1.2.2.2.2.2.2.2.2.2.1))], [.cell (.data (.pair (.int .i64) (.pair (.sl false (.sl false (.int .i64))) .unit)) d.2.1), .row (.pair (.int .i64) (.pair (.int .i64) .unit)) d.2.2.1 0, .cell (.data (.arr 62 (.int .u64)) d.2.2.2.1), .cell (.data (.pair (.int .i64) (.pair (.int .i64) .unit)) d.2.2.2.2.1)])) (s27_18 N k d.1.2.2.1 d.1.2.2.2.2.2.1 d.1.2.2.2.2.2.2.1 d.1.2.2.2.2.2.2.2.2.2.1 d.2.1 d.2.2.1 d.2.2.2.1 d.2.2.2.2.1) N (d.1.1, d.1.2.1)
theorem s27_7 (N : Nat) {R : Type} (k : AExit → St → Option R) (t34 : Int) (o0 : (Int × (List (List Int) × Unit))) (o1 : List (Int × (Int × Unit))) (kb : List (Nat × AVal) → List Obj → Option R) (x : Int × Int × Int) : codeK (x27 N) (loopAt 7 (loopsOf b27)) (St.of [(9, (.data (.int .u64) x.1)), (35, (.data (.int .i64) x.2.1)), (10, (.data (.int .i64) x.2.2)), (3, (.bptr 0 [])), (33, (.ref 1 [] 0)), (34, (.data (.int .i64) t34))] [.cell (.data (.pair (.int .i64) (.pair (.sl false (.sl false (.int .i64))) .unit)) o0), .row (.pair (.int .i64) (.pair (.int .i64) .unit)) o1 0]) (kLoop (x27 N) 7 ⟨[9, 35, 10, 3, 33, 34], []⟩ kb k) = f27_L7 N t34 o0 o1 (fun y => kb [(9, (.data (.int .u64) y.1)), (35, (.data (.int .i64) y.2.1)), (10, (.data (.int .i64) y.2.2)), (3, (.bptr 0 [])), (33, (.ref 1 [] 0)), (34, (.data (.int .i64) t34))] [.cell (.data (.pair (.int .i64) (.pair (.sl false (.sl false (.int .i64))) .unit)) o0), .row (.pair (.int .i64) (.pair (.int .i64) .unit)) o1 0])
    (fun y0 => k (.exit 0) (St.of [(10, (.data (.int .i64) y0))] [])) x := by kernel_rfl
theorem l27_7 (N : Nat) : LoopOK (x27 N) (loopAt 7 (loopsOf b27)) :=
  loop_mk (G27_7 N) (by kernel_rfl) (by kernel_rfl) (by kernel_rfl) fun R k d =>
    loop_eq (st := fun (x : Int × Int × Int) => ([(9, (.data (.int .u64) x.1)), (35, (.data (.int .i64) x.2.1)), (10, (.data (.int .i64) x.2.2)), (3, (.bptr 0 [])), (33, (.ref 1 [] 0)), (34, (.data (.int .i64) d.1.2.2.2.2.2.1))], [.cell (.data (.pair (.int .i64) (.pair (.sl false (.sl false (.int .i64))) .unit)) d.2.1), .row (.pair (.int .i64) (.pair (.int .i64) .unit)) d.2.2.1 0])) (s27_7 N k d.1.2.2.2.2.2.1 d.2.1 d.2.2.1) N (d.1.1, d.1.2.1, d.1.2.2.1)
theorem e27 (N : Nat) (a0 : (Int × (List (List Int) × Unit))) (a1 : List (Int × (List Int × Unit))) (a2 : Int) : bodyK (x27 N) [(.int .i64), (.int .i64)] [.tmp 6, .tmp 7] b27 (entry (.pr (.val (.pair (.int .i64) (.pair (.sl false (.sl false (.int .i64))) .unit))) (.pr (.val (.sl false (.pair (.int .i64) (.pair (.sl false (.int .i64)) .unit)))) (.pr (.val (.int .i64)) .un))) (a0, (a1, (a2, ())))) = f27 N a0 a1 a2 := by kernel_rfl
theorem k27 (N : Nat) : CalleeOK Go.Proofs.Try.prog 27 (c27 N) :=
  fn_ok (fn := Go.Proofs.Try.f27) (body := b27) (c := x27 N) Go.Proofs.Try.func27 (by kernel_rfl) (by kernel_rfl) ⟨ttL_ok, mtL_ok, eqL_ok, env_cons (forall_mem1 (k47 N)) (env_cons (forall_mem1 (k48 N)) (env_nil))⟩ mixed (by kernel_rfl) (Nat.le_of_ble_eq_true (by kernel_rfl)) (by kernel_rfl) (by decide)
    (loops_ok (by kernel_rfl : loopsOf b27 = [loopAt 7 (loopsOf b27), loopAt 11 (loopsOf b27), loopAt 18 (loopsOf b27)]) (.cons (l27_7 N) (.cons (l27_11 N) (.cons (l27_18 N) .nil)))) fun d => e27 N d.1 d.2.1 d.2.2.1
/-! ### 16: keyhole/strategy.Depth -/
def f16_L6 {R : Type} (N : Nat) (t19 : Int) (o0 : List (List (Int × (Int × Unit)))) (kb : Int × Int → Option R) (kx0 : Int → Option R) : Int × Int → Option R :=
  fun (t20, t7) =>
    cond (decide (t20 < t19))
      (chk (inb o0 t20) <|
      (idx o0 t20).bind fun x =>
      kb ((wi64 (t20 + 1)), (maxI t7 (len x))))
      (kx0 t7)
def f16 (N : Nat) (a0 : (Int × (List (List Int) × Unit))) (a1 : List (Int × (List Int × Unit))) : Option (Int × Int) :=
  (f19 N a0 a1).bind fun r =>
  cond (!(decide (r = 0)))
    (some (0, r))
    ((f40 N a0 a1).bind fun r_1 =>
    iter (fun w => f16_L6 N (len r_1) r_1 w
      (fun t7_1 =>
        some (t7_1, 0))) N (0, 0))
def c16 (N : Nat) : Callee := .pure (.pr (.val (.pair (.int .i64) (.pair (.sl false (.sl false (.int .i64))) .unit))) (.pr (.val (.sl false (.pair (.int .i64) (.pair (.sl false (.int .i64)) .unit)))) .un)) [(.int .i64), (.int .i64)] fun d => f16 N d.1 d.2.1
def F16_6 : SForm := ⟨[(20, (.val (.int .i64))), (7, (.val (.int .i64))), (18, (.ref 0)), (19, (.val (.int .i64)))], [.row (.sl false (.pair (.int .i64) (.pair (.int .i64) .unit)))]⟩
def G16_6 (N : Nat) : (R : Type) → F16_6.den → (AExit → St → Option R) → Option R := fun R d k => iter (fun kb => f16_L6 N d.1.2.2.2.1 d.2.1 kb
    (fun y0 => k (.exit 0) (St.of [(7, (.data (.int .i64) y0))] []))) N (d.1.1, d.1.2.1)
def lp16 (N : Nat) : Nat → Option LoopFn := fun r => cond (Nat.beq r 6) (some fun R sl os k => F16_6.take sl os fun d => G16_6 N R d k) (none)
def x16 (N : Nat) : Ctx := { fuel := N, tt := getL ttL, mt := getL mtL, ntmps := 30, env := fun f => (getL [(19, [c19 N]), (40, [c40 N])] f).getD [], cut := getL [(6, ⟨[20, 7, 18, 19], []⟩)], exits := fun r => getL ((getL [(6, [(0, ⟨[7], []⟩)])] r).getD []), res := ⟨[4, 5], []⟩, own := fun _ => none, lp := lp16 N, eqs := fun T => memN T eqL }
noncomputable def b16 : Code := ((Go.Proofs.Try.f16).body).getD .skip
theorem s16_6 (N : Nat) {R : Type} (k : AExit → St → Option R) (t19 : Int) (o0 : List (List (Int × (Int × Unit)))) (kb : List (Nat × AVal) → List Obj → Option R) (x : Int × Int) : codeK (x16 N) (loopAt 6 (loopsOf b16)) (St.of [(20, (.data (.int .i64) x.1)), (7, (.data (.int .i64) x.2)), (18, (.ref 0 [] 0)), (19, (.data (.int .i64) t19))] [.row (.sl false (.pair (.int .i64) (.pair (.int .i64) .unit))) o0 0]) (kLoop (x16 N) 6 ⟨[20, 7, 18, 19], []⟩ kb k) = f16_L6 N t19 o0 (fun y => kb [(20, (.data (.int .i64) y.1)), (7, (.data (.int .i64) y.2)), (18, (.ref 0 [] 0)), (19, (.data (.int .i64) t19))] [.row (.sl false (.pair (.int .i64) (.pair (.int .i64) .unit))) o0 0])
    (fun y0 => k (.exit 0) (St.of [(7, (.data (.int .i64) y0))] [])) x := by kernel_rfl
theorem l16_6 (N : Nat) : LoopOK (x16 N) (loopAt 6 (loopsOf b16)) :=
  loop_mk (G16_6 N) (by kernel_rfl) (by kernel_rfl) (by kernel_rfl) fun R k d =>
    loop_eq (st := fun (x : Int × Int) => ([(20, (.data (.int .i64) x.1)), (7, (.data (.int .i64) x.2)), (18, (.ref 0 [] 0)), (19, (.data (.int .i64) d.1.2.2.2.1))], [.row (.sl false (.pair (.int .i64) (.pair (.int .i64) .unit))) d.2.1 0])) (s16_6 N k d.1.2.2.2.1 d.2.1) N (d.1.1, d.1.2.1)
theorem e16 (N : Nat) (a0 : (Int × (List (List Int) × Unit))) (a1 : List (Int × (List Int × Unit))) : bodyK (x16 N) [(.int .i64), (.int .i64)] [.tmp 4, .tmp 5] b16 (entry (.pr (.val (.pair (.int .i64) (.pair (.sl false (.sl false (.int .i64))) .unit))) (.pr (.val (.sl false (.pair (.int .i64) (.pair (.sl false (.int .i64)) .unit)))) .un)) (a0, (a1, ()))) = f16 N a0 a1 := by kernel_rfl
theorem k16 (N : Nat) : CalleeOK Go.Proofs.Try.prog 16 (c16 N) :=
  fn_ok (fn := Go.Proofs.Try.f16) (body := b16) (c := x16 N) Go.Proofs.Try.func16 (by kernel_rfl) (by kernel_rfl) ⟨ttL_ok, mtL_ok, eqL_ok, env_cons (forall_mem1 (k19 N)) (env_cons (forall_mem1 (k40 N)) (env_nil))⟩ mixed (by kernel_rfl) (Nat.le_of_ble_eq_true (by kernel_rfl)) (by kernel_rfl) (by decide)
    (loops_ok (by kernel_rfl : loopsOf b16 = [loopAt 6 (loopsOf b16)]) (.cons (l16_6 N) .nil)) fun d => e16 N d.1 d.2.1
/-! ### 23: keyhole/strategy.Joint -/
def f23_L5 {R : Type} (N : Nat) (t19 : List Int) (t1 : List Int) (t20 : Int) (o0 : (Int × (List (List Int) × Unit))) (kb : Int → Option R) (kret : Int → Option R) (kx0 : Unit → Option R) : Int → Option R :=
  fun t21 =>
    cond (decide (t21 < t20))
      ((idx t19 t21).bind fun x =>
      (cond (decide (x < 0))
          (some true)
          (some (decide ((len o0.2.1) ≤ x)))).bind fun b =>
      cond b
        (kret 3)
        (kb (wi64 (t21 + 1))))
      (kx0 ())
def f23_L15 {R : Type} (N : Nat) (t48 : List Int) (t38_1 : List Int) (t39_1 : Int) (t40_1 : Int) (t49 : Int) (o0_2 : (Int × (List (List Int) × Unit))) (kb : Int × List Int → Option R) (kx4 : (List Int) → Option R) : Int × List Int → Option R :=
  fun (t50, o1_1) =>
    cond (decide (t50 < t49))
      ((idx t48 t50).bind fun x_3 =>
      chk (inb o1_1 t50) <|
      (idx o1_1 t50).bind fun x_4 =>
      chk (inb o1_1 t50) <|
      (idx o1_1 t50).bind fun x_5 =>
      (idx o1_1 t50).bind fun x_6 =>
      kb ((wi64 (t50 + 1)), (setI o1_1 t50 (wi64 ((wi64 (x_4 * o0_2.1)) + x_3)))))
      (kx4 o1_1)
def f23_L12 {R : Type} (N : Nat) (t38 : List Int) (t39 : Int) (o0_1 : (Int × (List (List Int) × Unit))) (kb : Int × List Int → Option R) (kx2 : (List Int) → Option R) : Int × List Int → Option R :=
  fun (t40, o1) =>
    cond (decide (t40 < t39))
      ((idx t38 t40).bind fun x_1 =>
      (idx o0_1.2.1 x_1).bind fun x_2 =>
      iter (fun w => f23_L15 N x_2 t38 t39 t40 (len x_2) o0_1 w
        (fun o1_2 =>
          (f43 N o1_2).bind fun r_1 =>
          kb ((wi64 (t40 + 1)), r_1))) N (0, o1))
      (kx2 o1)
def f23 (N : Nat) (a0 : (Int × (List (List Int) × Unit))) (a1 : List Int) : Option (List Int × Int) :=
  (f17 N a0).bind fun r =>
  cond (!(decide (r = 0)))
    (some (([] : List Int), r))
    (iter (fun w => f23_L5 N a1 a1 (len a1) a0 w
      (fun t5 =>
        some (([] : List Int), t5))
      (fun (_ : Unit) =>
        chk (((decide (0 ≤ a0.1)) && (decide (a0.1 ≤ a0.1))) && (decide (a0.1 ≤ ((room : Nat) : Int)))) <|
        iter (fun w => f23_L12 N a1 (len a1) a0 w
          (fun o0_3 =>
            (f43 N o0_3).bind fun r_2 =>
            some (r_2, 0))) N (0, (List.replicate (Int.toNat a0.1) 0 : List Int)))) N 0)
def c23 (N : Nat) : Callee := .pure (.pr (.val (.pair (.int .i64) (.pair (.sl false (.sl false (.int .i64))) .unit))) (.pr (.val (.sl false (.int .i64))) .un)) [(.sl true (.int .i64)), (.int .i64)] fun d => f23 N d.1 d.2.1
def F23_5 : SForm := ⟨[(21, (.val (.int .i64))), (2, (.bptr 0 [])), (19, (.val (.sl false (.int .i64)))), (1, (.val (.sl false (.int .i64)))), (20, (.val (.int .i64)))], [.cell (.val (.pair (.int .i64) (.pair (.sl false (.sl false (.int .i64))) .unit)))]⟩
def G23_5 (N : Nat) : (R : Type) → F23_5.den → (AExit → St → Option R) → Option R := fun R d k => iter (fun kb => f23_L5 N d.1.2.2.1 d.1.2.2.2.1 d.1.2.2.2.2.1 d.2.1 kb
    (fun y0 => k .ret (St.of [(4, .nilS), (5, (.data (.int .i64) y0))] []))
    (fun _ => k (.exit 0) (St.of [(2, (.bptr 0 [])), (1, (.data (.sl false (.int .i64)) d.1.2.2.2.1))] [.cell (.data (.pair (.int .i64) (.pair (.sl false (.sl false (.int .i64))) .unit)) d.2.1)]))) N d.1.1
def F23_15 : SForm := ⟨[(50, (.val (.int .i64))), (2, (.bptr 0 [])), (9, (.ref 1)), (48, (.val (.sl false (.int .i64)))), (38, (.val (.sl false (.int .i64)))), (39, (.val (.int .i64))), (40, (.val (.int .i64))), (49, (.val (.int .i64)))], [.cell (.val (.pair (.int .i64) (.pair (.sl false (.sl false (.int .i64))) .unit))), .row (.int .i64)]⟩
def G23_15 (N : Nat) : (R : Type) → F23_15.den → (AExit → St → Option R) → Option R := fun R d k => iter (fun kb => f23_L15 N d.1.2.2.2.1 d.1.2.2.2.2.1 d.1.2.2.2.2.2.1 d.1.2.2.2.2.2.2.1 d.1.2.2.2.2.2.2.2.1 d.2.1 kb
    (fun y4 => k (.exit 4) (St.of [(2, (.bptr 0 [])), (38, (.data (.sl false (.int .i64)) d.1.2.2.2.2.1)), (39, (.data (.int .i64) d.1.2.2.2.2.2.1)), (40, (.data (.int .i64) d.1.2.2.2.2.2.2.1)), (9, (.ref 1 [] 0))] [.cell (.data (.pair (.int .i64) (.pair (.sl false (.sl false (.int .i64))) .unit)) d.2.1), .row (.int .i64) y4 0]))) N (d.1.1, d.2.2.1)
def F23_12 : SForm := ⟨[(2, (.bptr 0 [])), (9, (.ref 1)), (40, (.val (.int .i64))), (38, (.val (.sl false (.int .i64)))), (39, (.val (.int .i64)))], [.cell (.val (.pair (.int .i64) (.pair (.sl false (.sl false (.int .i64))) .unit))), .row (.int .i64)]⟩
def G23_12 (N : Nat) : (R : Type) → F23_12.den → (AExit → St → Option R) → Option R := fun R d k => iter (fun kb => f23_L12 N d.1.2.2.2.1 d.1.2.2.2.2.1 d.2.1 kb
    (fun y0 => k (.exit 2) (St.of [(9, (.ref 0 [] 0))] [.row (.int .i64) y0 0]))) N (d.1.2.2.1, d.2.2.1)
def lp23 (N : Nat) : Nat → Option LoopFn := fun r => cond (Nat.beq r 5) (some fun R sl os k => F23_5.take sl os fun d => G23_5 N R d k) (cond (Nat.beq r 15) (some fun R sl os k => F23_15.take sl os fun d => G23_15 N R d k) (cond (Nat.beq r 12) (some fun R sl os k => F23_12.take sl os fun d => G23_12 N R d k) (none)))
def x23 (N : Nat) : Ctx := { fuel := N, tt := getL ttL, mt := getL mtL, ntmps := 73, env := fun f => (getL [(17, [c17 N]), (43, [c43 N])] f).getD [], cut := getL [(5, ⟨[21, 2, 19, 1, 20], []⟩), (12, ⟨[2, 9, 40, 38, 39], []⟩), (15, ⟨[50, 2, 9, 48, 38, 39, 40, 49], []⟩)], exits := fun r => getL ((getL [(5, [(0, ⟨[2, 1], []⟩)]), (12, [(2, ⟨[9], []⟩)]), (15, [(4, ⟨[2, 38, 39, 40, 9], []⟩)])] r).getD []), res := ⟨[4, 5], []⟩, own := fun _ => none, lp := lp23 N, eqs := fun T => memN T eqL }
noncomputable def b23 : Code := ((Go.Proofs.Try.f23).body).getD .skip
theorem s23_5 (N : Nat) {R : Type} (k : AExit → St → Option R) (t19 : List Int) (t1 : List Int) (t20 : Int) (o0 : (Int × (List (List Int) × Unit))) (kb : List (Nat × AVal) → List Obj → Option R) (x : Int) : codeK (x23 N) (loopAt 5 (loopsOf b23)) (St.of [(21, (.data (.int .i64) x)), (2, (.bptr 0 [])), (19, (.data (.sl false (.int .i64)) t19)), (1, (.data (.sl false (.int .i64)) t1)), (20, (.data (.int .i64) t20))] [.cell (.data (.pair (.int .i64) (.pair (.sl false (.sl false (.int .i64))) .unit)) o0)]) (kLoop (x23 N) 5 ⟨[21, 2, 19, 1, 20], []⟩ kb k) = f23_L5 N t19 t1 t20 o0 (fun y => kb [(21, (.data (.int .i64) y)), (2, (.bptr 0 [])), (19, (.data (.sl false (.int .i64)) t19)), (1, (.data (.sl false (.int .i64)) t1)), (20, (.data (.int .i64) t20))] [.cell (.data (.pair (.int .i64) (.pair (.sl false (.sl false (.int .i64))) .unit)) o0)])
    (fun y0 => k .ret (St.of [(4, .nilS), (5, (.data (.int .i64) y0))] []))
    (fun _ => k (.exit 0) (St.of [(2, (.bptr 0 [])), (1, (.data (.sl false (.int .i64)) t1))] [.cell (.data (.pair (.int .i64) (.pair (.sl false (.sl false (.int .i64))) .unit)) o0)])) x := by kernel_rfl
theorem l23_5 (N : Nat) : LoopOK (x23 N) (loopAt 5 (loopsOf b23)) :=
  loop_mk (G23_5 N) (by kernel_rfl) (by kernel_rfl) (by kernel_rfl) fun R k d =>
    loop_eq (st := fun (x : Int) => ([(21, (.data (.int .i64) x)), (2, (.bptr 0 [])), (19, (.data (.sl false (.int .i64)) d.1.2.2.1)), (1, (.data (.sl false (.int .i64)) d.1.2.2.2.1)), (20, (.data (.int .i64) d.1.2.2.2.2.1))], [.cell (.data (.pair (.int .i64) (.pair (.sl false (.sl false (.int .i64))) .unit)) d.2.1)])) (s23_5 N k d.1.2.2.1 d.1.2.2.2.1 d.1.2.2.2.2.1 d.2.1) N d.1.1
theorem s23_15 (N : Nat) {R : Type} (k : AExit → St → Option R) (t48 : List Int) (t38_1 : List Int) (t39_1 : Int) (t40_1 : Int) (t49 : Int) (o0_2 : (Int × (List (List Int) × Unit))) (kb : List (Nat × AVal) → List Obj → Option R) (x : Int × List Int) : codeK (x23 N) (loopAt 15 (loopsOf b23)) (St.of [(50, (.data (.int .i64) x.1)), (2, (.bptr 0 [])), (9, (.ref 1 [] 0)), (48, (.data (.sl false (.int .i64)) t48)), (38, (.data (.sl false (.int .i64)) t38_1)), (39, (.data (.int .i64) t39_1)), (40, (.data (.int .i64) t40_1)), (49, (.data (.int .i64) t49))] [.cell (.data (.pair (.int .i64) (.pair (.sl false (.sl false (.int .i64))) .unit)) o0_2), .row (.int .i64) x.2 0]) (kLoop (x23 N) 15 ⟨[50, 2, 9, 48, 38, 39, 40, 49], []⟩ kb k) = f23_L15 N t48 t38_1 t39_1 t40_1 t49 o0_2 (fun y => kb [(50, (.data (.int .i64) y.1)), (2, (.bptr 0 [])), (9, (.ref 1 [] 0)), (48, (.data (.sl false (.int .i64)) t48)), (38, (.data (.sl false (.int .i64)) t38_1)), (39, (.data (.int .i64) t39_1)), (40, (.data (.int .i64) t40_1)), (49, (.data (.int .i64) t49))] [.cell (.data (.pair (.int .i64) (.pair (.sl false (.sl false (.int .i64))) .unit)) o0_2), .row (.int .i64) y.2 0])
    (fun y4 => k (.exit 4) (St.of [(2, (.bptr 0 [])), (38, (.data (.sl false (.int .i64)) t38_1)), (39, (.data (.int .i64) t39_1)), (40, (.data (.int .i64) t40_1)), (9, (.ref 1 [] 0))] [.cell (.data (.pair (.int .i64) (.pair (.sl false (.sl false (.int .i64))) .unit)) o0_2), .row (.int .i64) y4 0])) x := by kernel_rfl
theorem l23_15 (N : Nat) : LoopOK (x23 N) (loopAt 15 (loopsOf b23)) :=
  loop_mk (G23_15 N) (by kernel_rfl) (by kernel_rfl) (by kernel_rfl) fun R k d =>
    loop_eq (st := fun (x : Int × List Int) => ([(50, (.data (.int .i64) x.1)), (2, (.bptr 0 [])), (9, (.ref 1 [] 0)), (48, (.data (.sl false (.int .i64)) d.1.2.2.2.1)), (38, (.data (.sl false (.int .i64)) d.1.2.2.2.2.1)), (39, (.data (.int .i64) d.1.2.2.2.2.2.1)), (40, (.data (.int .i64) d.1.2.2.2.2.2.2.1)), (49, (.data (.int .i64) d.1.2.2.2.2.2.2.2.1))], [.cell (.data (.pair (.int .i64) (.pair (.sl false (.sl false (.int .i64))) .unit)) d.2.1), .row (.int .i64) x.2 0])) (s23_15 N k d.1.2.2.2.1 d.1.2.2.2.2.1 d.1.2.2.2.2.2.1 d.1.2.2.2.2.2.2.1 d.1.2.2.2.2.2.2.2.1 d.2.1) N (d.1.1, d.2.2.1)
theorem s23_12 (N : Nat) {R : Type} (k : AExit → St → Option R) (t38 : List Int) (t39 : Int) (o0_1 : (Int × (List (List Int) × Unit))) (kb : List (Nat × AVal) → List Obj → Option R) (x : Int × List Int) : codeK (x23 N) (loopAt 12 (loopsOf b23)) (St.of [(2, (.bptr 0 [])), (9, (.ref 1 [] 0)), (40, (.data (.int .i64) x.1)), (38, (.data (.sl false (.int .i64)) t38)), (39, (.data (.int .i64) t39))] [.cell (.data (.pair (.int .i64) (.pair (.sl false (.sl false (.int .i64))) .unit)) o0_1), .row (.int .i64) x.2 0]) (kLoop (x23 N) 12 ⟨[2, 9, 40, 38, 39], []⟩ kb k) = f23_L12 N t38 t39 o0_1 (fun y => kb [(2, (.bptr 0 [])), (9, (.ref 1 [] 0)), (40, (.data (.int .i64) y.1)), (38, (.data (.sl false (.int .i64)) t38)), (39, (.data (.int .i64) t39))] [.cell (.data (.pair (.int .i64) (.pair (.sl false (.sl false (.int .i64))) .unit)) o0_1), .row (.int .i64) y.2 0])
    (fun y0 => k (.exit 2) (St.of [(9, (.ref 0 [] 0))] [.row (.int .i64) y0 0])) x := by kernel_rfl
theorem l23_12 (N : Nat) : LoopOK (x23 N) (loopAt 12 (loopsOf b23)) :=
  loop_mk (G23_12 N) (by kernel_rfl) (by kernel_rfl) (by kernel_rfl) fun R k d =>
    loop_eq (st := fun (x : Int × List Int) => ([(2, (.bptr 0 [])), (9, (.ref 1 [] 0)), (40, (.data (.int .i64) x.1)), (38, (.data (.sl false (.int .i64)) d.1.2.2.2.1)), (39, (.data (.int .i64) d.1.2.2.2.2.1))], [.cell (.data (.pair (.int .i64) (.pair (.sl false (.sl false (.int .i64))) .unit)) d.2.1), .row (.int .i64) x.2 0])) (s23_12 N k d.1.2.2.2.1 d.1.2.2.2.2.1 d.2.1) N (d.1.2.2.1, d.2.2.1)
theorem e23 (N : Nat) (a0 : (Int × (List (List Int) × Unit))) (a1 : List Int) : bodyK (x23 N) [(.sl true (.int .i64)), (.int .i64)] [.tmp 4, .tmp 5] b23 (entry (.pr (.val (.pair (.int .i64) (.pair (.sl false (.sl false (.int .i64))) .unit))) (.pr (.val (.sl false (.int .i64))) .un)) (a0, (a1, ()))) = f23 N a0 a1 := by kernel_rfl
theorem k23 (N : Nat) : CalleeOK Go.Proofs.Try.prog 23 (c23 N) :=
  fn_ok (fn := Go.Proofs.Try.f23) (body := b23) (c := x23 N) Go.Proofs.Try.func23 (by kernel_rfl) (by kernel_rfl) ⟨ttL_ok, mtL_ok, eqL_ok, env_cons (forall_mem1 (k17 N)) (env_cons (forall_mem1 (k43 N)) (env_nil))⟩ mixed (by kernel_rfl) (Nat.le_of_ble_eq_true (by kernel_rfl)) (by kernel_rfl) (by decide)
    (loops_ok (by kernel_rfl : loopsOf b23 = [loopAt 5 (loopsOf b23), loopAt 12 (loopsOf b23), loopAt 15 (loopsOf b23)]) (.cons (l23_5 N) (.cons (l23_12 N) (.cons (l23_15 N) .nil)))) fun d => e23 N d.1 d.2.1
/-! ### 56: keyhole/strategy.earns$1$1 -/
def f56 (N : Nat) (a0 : Int) : Option (Bool) :=
  (cond (decide (a0 < 0))
      (some true)
      (some (decide (1024 < a0)))).bind fun b =>
  some b
def c56 (N : Nat) : Callee := .pure (.pr (.val (.int .i64)) .un) [.bool] fun d => f56 N d.1
def lp56 (N : Nat) : Nat → Option LoopFn := fun r => none
def x56 (N : Nat) : Ctx := { fuel := N, tt := getL ttL, mt := getL mtL, ntmps := 9, env := fun f => (getL [] f).getD [], cut := getL [], exits := fun r => getL ((getL [] r).getD []), res := ⟨[2], []⟩, own := fun _ => none, lp := lp56 N, eqs := fun T => memN T eqL }
noncomputable def b56 : Code := ((Go.Proofs.Try.f56).body).getD .skip
theorem e56 (N : Nat) (a0 : Int) : bodyK (x56 N) [.bool] [.tmp 2] b56 (entry (.pr (.val (.int .i64)) .un) (a0, ())) = f56 N a0 := by kernel_rfl
theorem k56 (N : Nat) : CalleeOK Go.Proofs.Try.prog 56 (c56 N) :=
  fn_ok (fn := Go.Proofs.Try.f56) (body := b56) (c := x56 N) Go.Proofs.Try.func56 (by kernel_rfl) (by kernel_rfl) ⟨ttL_ok, mtL_ok, eqL_ok, env_nil⟩ mixed (by kernel_rfl) (Nat.le_of_ble_eq_true (by kernel_rfl)) (by kernel_rfl) (by decide)
    (loops_ok (by kernel_rfl : loopsOf b56 = []) .nil) fun d => e56 N d.1
/-! ### 59: slices.IndexFunc[[]int,int] -/
def f59_L2 {R : Type} (N : Nat) (t0 : List Int) (t1 : Unit) (t7 : Int) (kb : Int → Option R) (kret : Int → Option R) (kx0 : Unit → Option R) : Int → Option R :=
  fun t8 =>
    cond (decide (t8 < t7))
      ((idx t0 t8).bind fun x =>
      (f56 N x).bind fun r =>
      cond r
        (kret t8)
        (kb (wi64 (t8 + 1))))
      (kx0 ())
def f59 (N : Nat) (a0 : List Int) (a1 : Unit) : Option (Int) :=
  iter (fun w => f59_L2 N a0 a1 (len a0) w
    (fun t4 =>
      some t4)
    (fun (_ : Unit) =>
      some (-1))) N 0
def c59 (N : Nat) : Callee := .pure (.pr (.val (.sl false (.int .i64))) (.pr (.val (.fn 56 .unit)) .un)) [(.int .i64)] fun d => f59 N d.1 d.2.1
def F59_2 : SForm := ⟨[(8, (.val (.int .i64))), (0, (.val (.sl false (.int .i64)))), (1, (.val (.fn 56 .unit))), (7, (.val (.int .i64)))], []⟩
def G59_2 (N : Nat) : (R : Type) → F59_2.den → (AExit → St → Option R) → Option R := fun R d k => iter (fun kb => f59_L2 N d.1.2.1 d.1.2.2.1 d.1.2.2.2.1 kb
    (fun y0 => k .ret (St.of [(4, (.data (.int .i64) y0))] []))
    (fun _ => k (.exit 0) (St.of [] []))) N d.1.1
def lp59 (N : Nat) : Nat → Option LoopFn := fun r => cond (Nat.beq r 2) (some fun R sl os k => F59_2.take sl os fun d => G59_2 N R d k) (none)
def x59 (N : Nat) : Ctx := { fuel := N, tt := getL ttL, mt := getL mtL, ntmps := 19, env := fun f => (getL [(56, [c56 N])] f).getD [], cut := getL [(2, ⟨[8, 0, 1, 7], []⟩)], exits := fun r => getL ((getL [(2, [(0, ⟨[], []⟩)])] r).getD []), res := ⟨[4], []⟩, own := fun _ => none, lp := lp59 N, eqs := fun T => memN T eqL }
noncomputable def b59 : Code := ((Go.Proofs.Try.f59).body).getD .skip
theorem s59_2 (N : Nat) {R : Type} (k : AExit → St → Option R) (t0 : List Int) (t1 : Unit) (t7 : Int) (kb : List (Nat × AVal) → List Obj → Option R) (x : Int) : codeK (x59 N) (loopAt 2 (loopsOf b59)) (St.of [(8, (.data (.int .i64) x)), (0, (.data (.sl false (.int .i64)) t0)), (1, (.data (.fn 56 .unit) t1)), (7, (.data (.int .i64) t7))] []) (kLoop (x59 N) 2 ⟨[8, 0, 1, 7], []⟩ kb k) = f59_L2 N t0 t1 t7 (fun y => kb [(8, (.data (.int .i64) y)), (0, (.data (.sl false (.int .i64)) t0)), (1, (.data (.fn 56 .unit) t1)), (7, (.data (.int .i64) t7))] [])
    (fun y0 => k .ret (St.of [(4, (.data (.int .i64) y0))] []))
    (fun _ => k (.exit 0) (St.of [] [])) x := by kernel_rfl
theorem l59_2 (N : Nat) : LoopOK (x59 N) (loopAt 2 (loopsOf b59)) :=
  loop_mk (G59_2 N) (by kernel_rfl) (by kernel_rfl) (by kernel_rfl) fun R k d =>
    loop_eq (st := fun (x : Int) => ([(8, (.data (.int .i64) x)), (0, (.data (.sl false (.int .i64)) d.1.2.1)), (1, (.data (.fn 56 .unit) d.1.2.2.1)), (7, (.data (.int .i64) d.1.2.2.2.1))], [])) (s59_2 N k d.1.2.1 d.1.2.2.1 d.1.2.2.2.1) N d.1.1
theorem e59 (N : Nat) (a0 : List Int) (a1 : Unit) : bodyK (x59 N) [(.int .i64)] [.tmp 4] b59 (entry (.pr (.val (.sl false (.int .i64))) (.pr (.val (.fn 56 .unit)) .un)) (a0, (a1, ()))) = f59 N a0 a1 := by kernel_rfl
theorem k59 (N : Nat) : CalleeOK Go.Proofs.Try.prog 59 (c59 N) :=
  fn_ok (fn := Go.Proofs.Try.f59) (body := b59) (c := x59 N) Go.Proofs.Try.func59 (by kernel_rfl) (by kernel_rfl) ⟨ttL_ok, mtL_ok, eqL_ok, env_cons (forall_mem1 (k56 N)) (env_nil)⟩ mixed (by kernel_rfl) (Nat.le_of_ble_eq_true (by kernel_rfl)) (by kernel_rfl) (by decide)
    (loops_ok (by kernel_rfl : loopsOf b59 = [loopAt 2 (loopsOf b59)]) (.cons (l59_2 N) .nil)) fun d => e59 N d.1 d.2.1
/-! ### 55: slices.ContainsFunc[[]int,int] -/
def f55 (N : Nat) (a0 : List Int) (a1 : Unit) : Option (Bool) :=
  (f59 N a0 a1).bind fun r =>
  some (decide (0 ≤ r))
def c55 (N : Nat) : Callee := .pure (.pr (.val (.sl false (.int .i64))) (.pr (.val (.fn 56 .unit)) .un)) [.bool] fun d => f55 N d.1 d.2.1
def lp55 (N : Nat) : Nat → Option LoopFn := fun r => none
def x55 (N : Nat) : Ctx := { fuel := N, tt := getL ttL, mt := getL mtL, ntmps := 9, env := fun f => (getL [(59, [c59 N])] f).getD [], cut := getL [], exits := fun r => getL ((getL [] r).getD []), res := ⟨[4], []⟩, own := fun _ => none, lp := lp55 N, eqs := fun T => memN T eqL }
noncomputable def b55 : Code := ((Go.Proofs.Try.f55).body).getD .skip
theorem e55 (N : Nat) (a0 : List Int) (a1 : Unit) : bodyK (x55 N) [.bool] [.tmp 4] b55 (entry (.pr (.val (.sl false (.int .i64))) (.pr (.val (.fn 56 .unit)) .un)) (a0, (a1, ()))) = f55 N a0 a1 := by kernel_rfl
theorem k55 (N : Nat) : CalleeOK Go.Proofs.Try.prog 55 (c55 N) :=
  fn_ok (fn := Go.Proofs.Try.f55) (body := b55) (c := x55 N) Go.Proofs.Try.func55 (by kernel_rfl) (by kernel_rfl) ⟨ttL_ok, mtL_ok, eqL_ok, env_cons (forall_mem1 (k59 N)) (env_nil)⟩ mixed (by kernel_rfl) (Nat.le_of_ble_eq_true (by kernel_rfl)) (by kernel_rfl) (by decide)
    (loops_ok (by kernel_rfl : loopsOf b55 = []) .nil) fun d => e55 N d.1 d.2.1
/-! ### 54: keyhole/strategy.earns$1 -/
def f54 (N : Nat) (a0 : List Int) (a1 : (Int × (List (List Int) × Unit))) : Option (Bool) :=
  (cond (!(decide ((len a0) = a1.1)))
      (some true)
      ((f55 N a0 ()).bind fun r =>
      some r)).bind fun b =>
  some b
def c54 (N : Nat) : Callee := .pure (.pr (.val (.sl false (.int .i64))) (.pr (.val (.ptr (.pair (.int .i64) (.pair (.sl false (.sl false (.int .i64))) .unit)))) .un)) [.bool] fun d => f54 N d.1 d.2.1
def lp54 (N : Nat) : Nat → Option LoopFn := fun r => none
def x54 (N : Nat) : Ctx := { fuel := N, tt := getL ttL, mt := getL mtL, ntmps := 13, env := fun f => (getL [(55, [c55 N])] f).getD [], cut := getL [], exits := fun r => getL ((getL [] r).getD []), res := ⟨[3], []⟩, own := fun _ => none, lp := lp54 N, eqs := fun T => memN T eqL }
noncomputable def b54 : Code := ((Go.Proofs.Try.f54).body).getD .skip
theorem e54 (N : Nat) (a0 : List Int) (a1 : (Int × (List (List Int) × Unit))) : bodyK (x54 N) [.bool] [.tmp 3] b54 (entry (.pr (.val (.sl false (.int .i64))) (.pr (.val (.ptr (.pair (.int .i64) (.pair (.sl false (.sl false (.int .i64))) .unit)))) .un)) (a0, (a1, ()))) = f54 N a0 a1 := by kernel_rfl
theorem k54 (N : Nat) : CalleeOK Go.Proofs.Try.prog 54 (c54 N) :=
  fn_ok (fn := Go.Proofs.Try.f54) (body := b54) (c := x54 N) Go.Proofs.Try.func54 (by kernel_rfl) (by kernel_rfl) ⟨ttL_ok, mtL_ok, eqL_ok, env_cons (forall_mem1 (k55 N)) (env_nil)⟩ mixed (by kernel_rfl) (Nat.le_of_ble_eq_true (by kernel_rfl)) (by kernel_rfl) (by decide)
    (loops_ok (by kernel_rfl : loopsOf b54 = []) .nil) fun d => e54 N d.1 d.2.1
/-! ### 58: slices.IndexFunc[keyhole/api.Gain,[]int] -/
def f58_L2 {R : Type} (N : Nat) (t0 : List (List Int)) (t1 : ((Int × (List (List Int) × Unit)) × Unit)) (t7 : Int) (kb : Int → Option R) (kret : Int → Option R) (kx0 : Unit → Option R) : Int → Option R :=
  fun t8 =>
    cond (decide (t8 < t7))
      ((idx t0 t8).bind fun x =>
      (f54 N x t1.1).bind fun r =>
      cond r
        (kret t8)
        (kb (wi64 (t8 + 1))))
      (kx0 ())
def f58 (N : Nat) (a0 : List (List Int)) (a1 : ((Int × (List (List Int) × Unit)) × Unit)) : Option (Int) :=
  iter (fun w => f58_L2 N a0 a1 (len a0) w
    (fun t4 =>
      some t4)
    (fun (_ : Unit) =>
      some (-1))) N 0
def c58 (N : Nat) : Callee := .pure (.pr (.val (.sl false (.sl false (.int .i64)))) (.pr (.val (.fn 54 (.pair (.ptr (.pair (.int .i64) (.pair (.sl false (.sl false (.int .i64))) .unit))) .unit))) .un)) [(.int .i64)] fun d => f58 N d.1 d.2.1
def F58_2 : SForm := ⟨[(8, (.val (.int .i64))), (0, (.val (.sl false (.sl false (.int .i64))))), (1, (.val (.fn 54 (.pair (.ptr (.pair (.int .i64) (.pair (.sl false (.sl false (.int .i64))) .unit))) .unit)))), (7, (.val (.int .i64)))], []⟩
def G58_2 (N : Nat) : (R : Type) → F58_2.den → (AExit → St → Option R) → Option R := fun R d k => iter (fun kb => f58_L2 N d.1.2.1 d.1.2.2.1 d.1.2.2.2.1 kb
    (fun y0 => k .ret (St.of [(4, (.data (.int .i64) y0))] []))
    (fun _ => k (.exit 0) (St.of [] []))) N d.1.1
def lp58 (N : Nat) : Nat → Option LoopFn := fun r => cond (Nat.beq r 2) (some fun R sl os k => F58_2.take sl os fun d => G58_2 N R d k) (none)
def x58 (N : Nat) : Ctx := { fuel := N, tt := getL ttL, mt := getL mtL, ntmps := 19, env := fun f => (getL [(54, [c54 N])] f).getD [], cut := getL [(2, ⟨[8, 0, 1, 7], []⟩)], exits := fun r => getL ((getL [(2, [(0, ⟨[], []⟩)])] r).getD []), res := ⟨[4], []⟩, own := fun _ => none, lp := lp58 N, eqs := fun T => memN T eqL }
noncomputable def b58 : Code := ((Go.Proofs.Try.f58).body).getD .skip
theorem s58_2 (N : Nat) {R : Type} (k : AExit → St → Option R) (t0 : List (List Int)) (t1 : ((Int × (List (List Int) × Unit)) × Unit)) (t7 : Int) (kb : List (Nat × AVal) → List Obj → Option R) (x : Int) : codeK (x58 N) (loopAt 2 (loopsOf b58)) (St.of [(8, (.data (.int .i64) x)), (0, (.data (.sl false (.sl false (.int .i64))) t0)), (1, (.data (.fn 54 (.pair (.ptr (.pair (.int .i64) (.pair (.sl false (.sl false (.int .i64))) .unit))) .unit)) t1)), (7, (.data (.int .i64) t7))] []) (kLoop (x58 N) 2 ⟨[8, 0, 1, 7], []⟩ kb k) = f58_L2 N t0 t1 t7 (fun y => kb [(8, (.data (.int .i64) y)), (0, (.data (.sl false (.sl false (.int .i64))) t0)), (1, (.data (.fn 54 (.pair (.ptr (.pair (.int .i64) (.pair (.sl false (.sl false (.int .i64))) .unit))) .unit)) t1)), (7, (.data (.int .i64) t7))] [])
    (fun y0 => k .ret (St.of [(4, (.data (.int .i64) y0))] []))
    (fun _ => k (.exit 0) (St.of [] [])) x := by kernel_rfl
theorem l58_2 (N : Nat) : LoopOK (x58 N) (loopAt 2 (loopsOf b58)) :=
  loop_mk (G58_2 N) (by kernel_rfl) (by kernel_rfl) (by kernel_rfl) fun R k d =>
    loop_eq (st := fun (x : Int) => ([(8, (.data (.int .i64) x)), (0, (.data (.sl false (.sl false (.int .i64))) d.1.2.1)), (1, (.data (.fn 54 (.pair (.ptr (.pair (.int .i64) (.pair (.sl false (.sl false (.int .i64))) .unit))) .unit)) d.1.2.2.1)), (7, (.data (.int .i64) d.1.2.2.2.1))], [])) (s58_2 N k d.1.2.1 d.1.2.2.1 d.1.2.2.2.1) N d.1.1
theorem e58 (N : Nat) (a0 : List (List Int)) (a1 : ((Int × (List (List Int) × Unit)) × Unit)) : bodyK (x58 N) [(.int .i64)] [.tmp 4] b58 (entry (.pr (.val (.sl false (.sl false (.int .i64)))) (.pr (.val (.fn 54 (.pair (.ptr (.pair (.int .i64) (.pair (.sl false (.sl false (.int .i64))) .unit))) .unit))) .un)) (a0, (a1, ()))) = f58 N a0 a1 := by kernel_rfl
theorem k58 (N : Nat) : CalleeOK Go.Proofs.Try.prog 58 (c58 N) :=
  fn_ok (fn := Go.Proofs.Try.f58) (body := b58) (c := x58 N) Go.Proofs.Try.func58 (by kernel_rfl) (by kernel_rfl) ⟨ttL_ok, mtL_ok, eqL_ok, env_cons (forall_mem1 (k54 N)) (env_nil)⟩ mixed (by kernel_rfl) (Nat.le_of_ble_eq_true (by kernel_rfl)) (by kernel_rfl) (by decide)
    (loops_ok (by kernel_rfl : loopsOf b58 = [loopAt 2 (loopsOf b58)]) (.cons (l58_2 N) .nil)) fun d => e58 N d.1 d.2.1
/-! ### 53: slices.ContainsFunc[keyhole/api.Gain,[]int] -/
def f53 (N : Nat) (a0 : List (List Int)) (a1 : ((Int × (List (List Int) × Unit)) × Unit)) : Option (Bool) :=
  (f58 N a0 a1).bind fun r =>
  some (decide (0 ≤ r))
def c53 (N : Nat) : Callee := .pure (.pr (.val (.sl false (.sl false (.int .i64)))) (.pr (.val (.fn 54 (.pair (.ptr (.pair (.int .i64) (.pair (.sl false (.sl false (.int .i64))) .unit))) .unit))) .un)) [.bool] fun d => f53 N d.1 d.2.1
def lp53 (N : Nat) : Nat → Option LoopFn := fun r => none
def x53 (N : Nat) : Ctx := { fuel := N, tt := getL ttL, mt := getL mtL, ntmps := 9, env := fun f => (getL [(58, [c58 N])] f).getD [], cut := getL [], exits := fun r => getL ((getL [] r).getD []), res := ⟨[4], []⟩, own := fun _ => none, lp := lp53 N, eqs := fun T => memN T eqL }
noncomputable def b53 : Code := ((Go.Proofs.Try.f53).body).getD .skip
theorem e53 (N : Nat) (a0 : List (List Int)) (a1 : ((Int × (List (List Int) × Unit)) × Unit)) : bodyK (x53 N) [.bool] [.tmp 4] b53 (entry (.pr (.val (.sl false (.sl false (.int .i64)))) (.pr (.val (.fn 54 (.pair (.ptr (.pair (.int .i64) (.pair (.sl false (.sl false (.int .i64))) .unit))) .unit))) .un)) (a0, (a1, ()))) = f53 N a0 a1 := by kernel_rfl
theorem k53 (N : Nat) : CalleeOK Go.Proofs.Try.prog 53 (c53 N) :=
  fn_ok (fn := Go.Proofs.Try.f53) (body := b53) (c := x53 N) Go.Proofs.Try.func53 (by kernel_rfl) (by kernel_rfl) ⟨ttL_ok, mtL_ok, eqL_ok, env_cons (forall_mem1 (k58 N)) (env_nil)⟩ mixed (by kernel_rfl) (Nat.le_of_ble_eq_true (by kernel_rfl)) (by kernel_rfl) (by decide)
    (loops_ok (by kernel_rfl : loopsOf b53 = []) .nil) fun d => e53 N d.1 d.2.1
/-! ### 49: keyhole/strategy.earns -/
def f49 (N : Nat) (a0 : (Int × (List (List Int) × Unit))) (a1 : List (List Int)) : Option (Bool) :=
  (cond (decide ((len a1) < 1))
      (some true)
      (some (decide (64 < (len a1))))).bind fun b =>
  cond b
    (some false)
    ((f53 N a1 (a0, ())).bind fun r =>
    some (!r))
def c49 (N : Nat) : Callee := .pure (.pr (.val (.pair (.int .i64) (.pair (.sl false (.sl false (.int .i64))) .unit))) (.pr (.val (.sl false (.sl false (.int .i64)))) .un)) [.bool] fun d => f49 N d.1 d.2.1
def lp49 (N : Nat) : Nat → Option LoopFn := fun r => none
def x49 (N : Nat) : Ctx := { fuel := N, tt := getL ttL, mt := getL mtL, ntmps := 17, env := fun f => (getL [(53, [c53 N])] f).getD [], cut := getL [], exits := fun r => getL ((getL [] r).getD []), res := ⟨[4], []⟩, own := fun _ => none, lp := lp49 N, eqs := fun T => memN T eqL }
noncomputable def b49 : Code := ((Go.Proofs.Try.f49).body).getD .skip
theorem e49 (N : Nat) (a0 : (Int × (List (List Int) × Unit))) (a1 : List (List Int)) : bodyK (x49 N) [.bool] [.tmp 4] b49 (entry (.pr (.val (.pair (.int .i64) (.pair (.sl false (.sl false (.int .i64))) .unit))) (.pr (.val (.sl false (.sl false (.int .i64)))) .un)) (a0, (a1, ()))) = f49 N a0 a1 := by kernel_rfl
theorem k49 (N : Nat) : CalleeOK Go.Proofs.Try.prog 49 (c49 N) :=
  fn_ok (fn := Go.Proofs.Try.f49) (body := b49) (c := x49 N) Go.Proofs.Try.func49 (by kernel_rfl) (by kernel_rfl) ⟨ttL_ok, mtL_ok, eqL_ok, env_cons (forall_mem1 (k53 N)) (env_nil)⟩ mixed (by kernel_rfl) (Nat.le_of_ble_eq_true (by kernel_rfl)) (by kernel_rfl) (by decide)
    (loops_ok (by kernel_rfl : loopsOf b49 = []) .nil) fun d => e49 N d.1 d.2.1
/-! ### 28: keyhole/strategy.Worth -/
def f28_L12 {R : Type} (N : Nat) (t11 : List Int) (t53 : List Int) (t2_1 : List Int) (t44_1 : List (List Int)) (t45_1 : Int) (t46_1 : Int) (t54 : Int) (o1 : List Int) (kb : Int × List Int → Option R) (kx2 : (List Int) → Option R) : Int × List Int → Option R :=
  fun (t55, o0_1) =>
    cond (decide (t55 < t54))
      ((idx t53 t55).bind fun x_1 =>
      chk (inb o0_1 x_1) <|
      (idx o0_1 x_1).bind fun x_2 =>
      (idx t11 t55).bind fun x_3 =>
      chk (inb o0_1 x_1) <|
      (idx o0_1 x_1).bind fun x_4 =>
      (idx o0_1 x_1).bind fun x_5 =>
      kb ((wi64 (t55 + 1)), (setI o0_1 x_1 (wi64 (x_2 + x_3)))))
      (kx2 o0_1)
def f28_L17 {R : Type} (N : Nat) (t2_2 : List Int) (t44_2 : List (List Int)) (t45_2 : Int) (t46_2 : Int) (t72 : Int) (o1_2 : List Int) (kb : Int × List Int → Option R) (kx4 : (List Int) → Option R) : Int × List Int → Option R :=
  fun (t73, o0_2) =>
    cond (decide (t73 < t72))
      (chk (inb o1_2 t73) <|
      (idx o1_2 t73).bind fun x_6 =>
      chk (inb o0_2 t73) <|
      (idx o0_2 t73).bind fun x_7 =>
      chk (inb o0_2 t73) <|
      (idx o0_2 t73).bind fun x_8 =>
      (idx o0_2 t73).bind fun x_9 =>
      kb ((wi64 (t73 + 1)), (setI o0_2 t73 (maxI x_7 x_6))))
      (kx4 o0_2)
def f28_L8 {R : Type} (N : Nat) (t2 : List Int) (t44 : List (List Int)) (t45 : Int) (kb : Int × List Int → Option R) (kx0 : (List Int) → Option R) : Int × List Int → Option R :=
  fun (t46, o0) =>
    cond (decide (t46 < t45))
      ((idx t44 t46).bind fun x =>
      chk (((decide (0 ≤ (len o0))) && (decide ((len o0) ≤ (len o0)))) && (decide ((len o0) ≤ ((room : Nat) : Int)))) <|
      iter (fun w => f28_L12 N x t2 t2 t44 t45 t46 (len t2) o0 w
        (fun o1_1 =>
          iter (fun w => f28_L17 N t2 t44 t45 t46 (len o1_1) o1_1 w
            (fun o0_3 =>
              kb ((wi64 (t46 + 1)), o0_3))) N (0, o0))) N (0, (List.replicate (Int.toNat (len o0)) 0 : List Int)))
      (kx0 o0)
def f28_L24 {R : Type} (N : Nat) (t90 : Int) (o0_5 : List Int) (kb : Int × Int → Option R) (kx6 : Int → Option R) : Int × Int → Option R :=
  fun (t91, t17) =>
    cond (decide (t91 < t90))
      (chk (inb o0_5 t91) <|
      (idx o0_5 t91).bind fun x_10 =>
      kb ((wi64 (t91 + 1)), (wi64 (t17 + x_10))))
      (kx6 t17)
def f28 (N : Nat) (a0 : (Int × (List (List Int) × Unit))) (a1 : List (List Int)) (a2 : List Int) : Option (Int × Int) :=
  (f17 N a0).bind fun r =>
  cond (!(decide (r = 0)))
    (some (0, r))
    ((f49 N a0 a1).bind fun r_1 =>
    (cond (!r_1)
        (some true)
        (some (!(decide ((len a2) = a0.1))))).bind fun b =>
    (cond b
        (some true)
        ((f44 N a2).bind fun r_2 =>
        some (!r_2))).bind fun b_1 =>
    cond b_1
      (some (0, 1))
      ((f45 N a2).bind fun r_3 =>
      chk (((decide (0 ≤ r_3)) && (decide (r_3 ≤ r_3))) && (decide (r_3 ≤ ((room : Nat) : Int)))) <|
      iter (fun w => f28_L8 N a2 a1 (len a1) w
        (fun o0_4 =>
          iter (fun w => f28_L24 N (len o0_4) o0_4 w
            (fun t17_1 =>
              some (t17_1, 0))) N (0, 0))) N (0, (List.replicate (Int.toNat r_3) 0 : List Int))))
def c28 (N : Nat) : Callee := .pure (.pr (.val (.pair (.int .i64) (.pair (.sl false (.sl false (.int .i64))) .unit))) (.pr (.val (.sl false (.sl false (.int .i64)))) (.pr (.val (.sl false (.int .i64))) .un))) [(.int .i64), (.int .i64)] fun d => f28 N d.1 d.2.1 d.2.2.1
def F28_12 : SForm := ⟨[(55, (.val (.int .i64))), (11, (.val (.sl false (.int .i64)))), (12, (.ref 0)), (53, (.val (.sl false (.int .i64)))), (9, (.ref 1)), (2, (.val (.sl false (.int .i64)))), (44, (.val (.sl false (.sl false (.int .i64))))), (45, (.val (.int .i64))), (46, (.val (.int .i64))), (54, (.val (.int .i64)))], [.row (.int .i64), .row (.int .i64)]⟩
def G28_12 (N : Nat) : (R : Type) → F28_12.den → (AExit → St → Option R) → Option R := fun R d k => iter (fun kb => f28_L12 N d.1.2.1 d.1.2.2.2.1 d.1.2.2.2.2.2.1 d.1.2.2.2.2.2.2.1 d.1.2.2.2.2.2.2.2.1 d.1.2.2.2.2.2.2.2.2.1 d.1.2.2.2.2.2.2.2.2.2.1 d.2.2.1 kb
    (fun y5 => k (.exit 2) (St.of [(9, (.ref 0 [] 0)), (2, (.data (.sl false (.int .i64)) d.1.2.2.2.2.2.1)), (44, (.data (.sl false (.sl false (.int .i64))) d.1.2.2.2.2.2.2.1)), (45, (.data (.int .i64) d.1.2.2.2.2.2.2.2.1)), (46, (.data (.int .i64) d.1.2.2.2.2.2.2.2.2.1)), (12, (.ref 1 [] 0))] [.row (.int .i64) d.2.2.1 0, .row (.int .i64) y5 0]))) N (d.1.1, d.2.1)
def F28_17 : SForm := ⟨[(73, (.val (.int .i64))), (9, (.ref 0)), (71, (.ref 1)), (2, (.val (.sl false (.int .i64)))), (44, (.val (.sl false (.sl false (.int .i64))))), (45, (.val (.int .i64))), (46, (.val (.int .i64))), (72, (.val (.int .i64)))], [.row (.int .i64), .row (.int .i64)]⟩
def G28_17 (N : Nat) : (R : Type) → F28_17.den → (AExit → St → Option R) → Option R := fun R d k => iter (fun kb => f28_L17 N d.1.2.2.2.1 d.1.2.2.2.2.1 d.1.2.2.2.2.2.1 d.1.2.2.2.2.2.2.1 d.1.2.2.2.2.2.2.2.1 d.2.2.1 kb
    (fun y4 => k (.exit 4) (St.of [(9, (.ref 0 [] 0)), (2, (.data (.sl false (.int .i64)) d.1.2.2.2.1)), (44, (.data (.sl false (.sl false (.int .i64))) d.1.2.2.2.2.1)), (45, (.data (.int .i64) d.1.2.2.2.2.2.1)), (46, (.data (.int .i64) d.1.2.2.2.2.2.2.1))] [.row (.int .i64) y4 0]))) N (d.1.1, d.2.1)
def F28_8 : SForm := ⟨[(9, (.ref 0)), (46, (.val (.int .i64))), (2, (.val (.sl false (.int .i64)))), (44, (.val (.sl false (.sl false (.int .i64))))), (45, (.val (.int .i64)))], [.row (.int .i64)]⟩
def G28_8 (N : Nat) : (R : Type) → F28_8.den → (AExit → St → Option R) → Option R := fun R d k => iter (fun kb => f28_L8 N d.1.2.2.1 d.1.2.2.2.1 d.1.2.2.2.2.1 kb
    (fun y0 => k (.exit 0) (St.of [(9, (.ref 0 [] 0))] [.row (.int .i64) y0 0]))) N (d.1.2.1, d.2.1)
def F28_24 : SForm := ⟨[(91, (.val (.int .i64))), (17, (.val (.int .i64))), (89, (.ref 0)), (90, (.val (.int .i64)))], [.row (.int .i64)]⟩
def G28_24 (N : Nat) : (R : Type) → F28_24.den → (AExit → St → Option R) → Option R := fun R d k => iter (fun kb => f28_L24 N d.1.2.2.2.1 d.2.1 kb
    (fun y0 => k (.exit 6) (St.of [(17, (.data (.int .i64) y0))] []))) N (d.1.1, d.1.2.1)
def lp28 (N : Nat) : Nat → Option LoopFn := fun r => cond (Nat.beq r 12) (some fun R sl os k => F28_12.take sl os fun d => G28_12 N R d k) (cond (Nat.beq r 17) (some fun R sl os k => F28_17.take sl os fun d => G28_17 N R d k) (cond (Nat.beq r 8) (some fun R sl os k => F28_8.take sl os fun d => G28_8 N R d k) (cond (Nat.beq r 24) (some fun R sl os k => F28_24.take sl os fun d => G28_24 N R d k) (none))))
def x28 (N : Nat) : Ctx := { fuel := N, tt := getL ttL, mt := getL mtL, ntmps := 100, env := fun f => (getL [(17, [c17 N]), (49, [c49 N]), (44, [c44 N]), (45, [c45 N])] f).getD [], cut := getL [(8, ⟨[9, 46, 2, 44, 45], []⟩), (12, ⟨[55, 11, 12, 53, 9, 2, 44, 45, 46, 54], []⟩), (17, ⟨[73, 9, 71, 2, 44, 45, 46, 72], []⟩), (24, ⟨[91, 17, 89, 90], []⟩)], exits := fun r => getL ((getL [(8, [(0, ⟨[9], []⟩)]), (12, [(2, ⟨[9, 2, 44, 45, 46, 12], []⟩)]), (17, [(4, ⟨[9, 2, 44, 45, 46], []⟩)]), (24, [(6, ⟨[17], []⟩)])] r).getD []), res := ⟨[6, 7], []⟩, own := fun _ => none, lp := lp28 N, eqs := fun T => memN T eqL }
noncomputable def b28 : Code := ((Go.Proofs.Try.f28).body).getD .skip
theorem s28_12 (N : Nat) {R : Type} (k : AExit → St → Option R) (t11 : List Int) (t53 : List Int) (t2_1 : List Int) (t44_1 : List (List Int)) (t45_1 : Int) (t46_1 : Int) (t54 : Int) (o1 : List Int) (kb : List (Nat × AVal) → List Obj → Option R) (x : Int × List Int) : codeK (x28 N) (loopAt 12 (loopsOf b28)) (St.of [(55, (.data (.int .i64) x.1)), (11, (.data (.sl false (.int .i64)) t11)), (12, (.ref 0 [] 0)), (53, (.data (.sl false (.int .i64)) t53)), (9, (.ref 1 [] 0)), (2, (.data (.sl false (.int .i64)) t2_1)), (44, (.data (.sl false (.sl false (.int .i64))) t44_1)), (45, (.data (.int .i64) t45_1)), (46, (.data (.int .i64) t46_1)), (54, (.data (.int .i64) t54))] [.row (.int .i64) x.2 0, .row (.int .i64) o1 0]) (kLoop (x28 N) 12 ⟨[55, 11, 12, 53, 9, 2, 44, 45, 46, 54], []⟩ kb k) = f28_L12 N t11 t53 t2_1 t44_1 t45_1 t46_1 t54 o1 (fun y => kb [(55, (.data (.int .i64) y.1)), (11, (.data (.sl false (.int .i64)) t11)), (12, (.ref 0 [] 0)), (53, (.data (.sl false (.int .i64)) t53)), (9, (.ref 1 [] 0)), (2, (.data (.sl false (.int .i64)) t2_1)), (44, (.data (.sl false (.sl false (.int .i64))) t44_1)), (45, (.data (.int .i64) t45_1)), (46, (.data (.int .i64) t46_1)), (54, (.data (.int .i64) t54))] [.row (.int .i64) y.2 0, .row (.int .i64) o1 0])
    (fun y5 => k (.exit 2) (St.of [(9, (.ref 0 [] 0)), (2, (.data (.sl false (.int .i64)) t2_1)), (44, (.data (.sl false (.sl false (.int .i64))) t44_1)), (45, (.data (.int .i64) t45_1)), (46, (.data (.int .i64) t46_1)), (12, (.ref 1 [] 0))] [.row (.int .i64) o1 0, .row (.int .i64) y5 0])) x := by kernel_rfl
theorem l28_12 (N : Nat) : LoopOK (x28 N) (loopAt 12 (loopsOf b28)) :=
  loop_mk (G28_12 N) (by kernel_rfl) (by kernel_rfl) (by kernel_rfl) fun R k d =>
    loop_eq (st := fun (x : Int × List Int) => ([(55, (.data (.int .i64) x.1)), (11, (.data (.sl false (.int .i64)) d.1.2.1)), (12, (.ref 0 [] 0)), (53, (.data (.sl false (.int .i64)) d.1.2.2.2.1)), (9, (.ref 1 [] 0)), (2, (.data (.sl false (.int .i64)) d.1.2.2.2.2.2.1)), (44, (.data (.sl false (.sl false (.int .i64))) d.1.2.2.2.2.2.2.1)), (45, (.data (.int .i64) d.1.2.2.2.2.2.2.2.1)), (46, (.data (.int .i64) d.1.2.2.2.2.2.2.2.2.1)), (54, (.data (.int .i64) d.1.2.2.2.2.2.2.2.2.2.1))], [.row (.int .i64) x.2 0, .row (.int .i64) d.2.2.1 0])) (s28_12 N k d.1.2.1 d.1.2.2.2.1 d.1.2.2.2.2.2.1 d.1.2.2.2.2.2.2.1 d.1.2.2.2.2.2.2.2.1 d.1.2.2.2.2.2.2.2.2.1 d.1.2.2.2.2.2.2.2.2.2.1 d.2.2.1) N (d.1.1, d.2.1)
theorem s28_17 (N : Nat) {R : Type} (k : AExit → St → Option R) (t2_2 : List Int) (t44_2 : List (List Int)) (t45_2 : Int) (t46_2 : Int) (t72 : Int) (o1_2 : List Int) (kb : List (Nat × AVal) → List Obj → Option R) (x : Int × List Int) : codeK (x28 N) (loopAt 17 (loopsOf b28)) (St.of [(73, (.data (.int .i64) x.1)), (9, (.ref 0 [] 0)), (71, (.ref 1 [] 0)), (2, (.data (.sl false (.int .i64)) t2_2)), (44, (.data (.sl false (.sl false (.int .i64))) t44_2)), (45, (.data (.int .i64) t45_2)), (46, (.data (.int .i64) t46_2)), (72, (.data (.int .i64) t72))] [.row (.int .i64) x.2 0, .row (.int .i64) o1_2 0]) (kLoop (x28 N) 17 ⟨[73, 9, 71, 2, 44, 45, 46, 72], []⟩ kb k) = f28_L17 N t2_2 t44_2 t45_2 t46_2 t72 o1_2 (fun y => kb [(73, (.data (.int .i64) y.1)), (9, (.ref 0 [] 0)), (71, (.ref 1 [] 0)), (2, (.data (.sl false (.int .i64)) t2_2)), (44, (.data (.sl false (.sl false (.int .i64))) t44_2)), (45, (.data (.int .i64) t45_2)), (46, (.data (.int .i64) t46_2)), (72, (.data (.int .i64) t72))] [.row (.int .i64) y.2 0, .row (.int .i64) o1_2 0])
    (fun y4 => k (.exit 4) (St.of [(9, (.ref 0 [] 0)), (2, (.data (.sl false (.int .i64)) t2_2)), (44, (.data (.sl false (.sl false (.int .i64))) t44_2)), (45, (.data (.int .i64) t45_2)), (46, (.data (.int .i64) t46_2))] [.row (.int .i64) y4 0])) x := by kernel_rfl
theorem l28_17 (N : Nat) : LoopOK (x28 N) (loopAt 17 (loopsOf b28)) :=
  loop_mk (G28_17 N) (by kernel_rfl) (by kernel_rfl) (by kernel_rfl) fun R k d =>
    loop_eq (st := fun (x : Int × List Int) => ([(73, (.data (.int .i64) x.1)), (9, (.ref 0 [] 0)), (71, (.ref 1 [] 0)), (2, (.data (.sl false (.int .i64)) d.1.2.2.2.1)), (44, (.data (.sl false (.sl false (.int .i64))) d.1.2.2.2.2.1)), (45, (.data (.int .i64) d.1.2.2.2.2.2.1)), (46, (.data (.int .i64) d.1.2.2.2.2.2.2.1)), (72, (.data (.int .i64) d.1.2.2.2.2.2.2.2.1))], [.row (.int .i64) x.2 0, .row (.int .i64) d.2.2.1 0])) (s28_17 N k d.1.2.2.2.1 d.1.2.2.2.2.1 d.1.2.2.2.2.2.1 d.1.2.2.2.2.2.2.1 d.1.2.2.2.2.2.2.2.1 d.2.2.1) N (d.1.1, d.2.1)
theorem s28_8 (N : Nat) {R : Type} (k : AExit → St → Option R) (t2 : List Int) (t44 : List (List Int)) (t45 : Int) (kb : List (Nat × AVal) → List Obj → Option R) (x : Int × List Int) : codeK (x28 N) (loopAt 8 (loopsOf b28)) (St.of [(9, (.ref 0 [] 0)), (46, (.data (.int .i64) x.1)), (2, (.data (.sl false (.int .i64)) t2)), (44, (.data (.sl false (.sl false (.int .i64))) t44)), (45, (.data (.int .i64) t45))] [.row (.int .i64) x.2 0]) (kLoop (x28 N) 8 ⟨[9, 46, 2, 44, 45], []⟩ kb k) = f28_L8 N t2 t44 t45 (fun y => kb [(9, (.ref 0 [] 0)), (46, (.data (.int .i64) y.1)), (2, (.data (.sl false (.int .i64)) t2)), (44, (.data (.sl false (.sl false (.int .i64))) t44)), (45, (.data (.int .i64) t45))] [.row (.int .i64) y.2 0])
    (fun y0 => k (.exit 0) (St.of [(9, (.ref 0 [] 0))] [.row (.int .i64) y0 0])) x := by kernel_rfl
theorem l28_8 (N : Nat) : LoopOK (x28 N) (loopAt 8 (loopsOf b28)) :=
  loop_mk (G28_8 N) (by kernel_rfl) (by kernel_rfl) (by kernel_rfl) fun R k d =>
    loop_eq (st := fun (x : Int × List Int) => ([(9, (.ref 0 [] 0)), (46, (.data (.int .i64) x.1)), (2, (.data (.sl false (.int .i64)) d.1.2.2.1)), (44, (.data (.sl false (.sl false (.int .i64))) d.1.2.2.2.1)), (45, (.data (.int .i64) d.1.2.2.2.2.1))], [.row (.int .i64) x.2 0])) (s28_8 N k d.1.2.2.1 d.1.2.2.2.1 d.1.2.2.2.2.1) N (d.1.2.1, d.2.1)
theorem s28_24 (N : Nat) {R : Type} (k : AExit → St → Option R) (t90 : Int) (o0_5 : List Int) (kb : List (Nat × AVal) → List Obj → Option R) (x : Int × Int) : codeK (x28 N) (loopAt 24 (loopsOf b28)) (St.of [(91, (.data (.int .i64) x.1)), (17, (.data (.int .i64) x.2)), (89, (.ref 0 [] 0)), (90, (.data (.int .i64) t90))] [.row (.int .i64) o0_5 0]) (kLoop (x28 N) 24 ⟨[91, 17, 89, 90], []⟩ kb k) = f28_L24 N t90 o0_5 (fun y => kb [(91, (.data (.int .i64) y.1)), (17, (.data (.int .i64) y.2)), (89, (.ref 0 [] 0)), (90, (.data (.int .i64) t90))] [.row (.int .i64) o0_5 0])
    (fun y0 => k (.exit 6) (St.of [(17, (.data (.int .i64) y0))] [])) x := by kernel_rfl
theorem l28_24 (N : Nat) : LoopOK (x28 N) (loopAt 24 (loopsOf b28)) :=
  loop_mk (G28_24 N) (by kernel_rfl) (by kernel_rfl) (by kernel_rfl) fun R k d =>
    loop_eq (st := fun (x : Int × Int) => ([(91, (.data (.int .i64) x.1)), (17, (.data (.int .i64) x.2)), (89, (.ref 0 [] 0)), (90, (.data (.int .i64) d.1.2.2.2.1))], [.row (.int .i64) d.2.1 0])) (s28_24 N k d.1.2.2.2.1 d.2.1) N (d.1.1, d.1.2.1)
theorem e28 (N : Nat) (a0 : (Int × (List (List Int) × Unit))) (a1 : List (List Int)) (a2 : List Int) : bodyK (x28 N) [(.int .i64), (.int .i64)] [.tmp 6, .tmp 7] b28 (entry (.pr (.val (.pair (.int .i64) (.pair (.sl false (.sl false (.int .i64))) .unit))) (.pr (.val (.sl false (.sl false (.int .i64)))) (.pr (.val (.sl false (.int .i64))) .un))) (a0, (a1, (a2, ())))) = f28 N a0 a1 a2 := by kernel_rfl
theorem k28 (N : Nat) : CalleeOK Go.Proofs.Try.prog 28 (c28 N) :=
  fn_ok (fn := Go.Proofs.Try.f28) (body := b28) (c := x28 N) Go.Proofs.Try.func28 (by kernel_rfl) (by kernel_rfl) ⟨ttL_ok, mtL_ok, eqL_ok, env_cons (forall_mem1 (k17 N)) (env_cons (forall_mem1 (k49 N)) (env_cons (forall_mem1 (k44 N)) (env_cons (forall_mem1 (k45 N)) (env_nil))))⟩ mixed (by kernel_rfl) (Nat.le_of_ble_eq_true (by kernel_rfl)) (by kernel_rfl) (by decide)
    (loops_ok (by kernel_rfl : loopsOf b28 = [loopAt 8 (loopsOf b28), loopAt 12 (loopsOf b28), loopAt 17 (loopsOf b28), loopAt 24 (loopsOf b28)]) (.cons (l28_8 N) (.cons (l28_12 N) (.cons (l28_17 N) (.cons (l28_24 N) .nil))))) fun d => e28 N d.1 d.2.1 d.2.2.1
/-! ### 21: slices.Equal[[]int,int] -/
def f21_L4 {R : Type} (N : Nat) (t1 : List Int) (t0 : List Int) (t12 : Int) (kb : Int → Option R) (kret : Bool → Option R) (kx0 : Unit → Option R) : Int → Option R :=
  fun t13 =>
    cond (decide (t13 < t12))
      ((idx t0 t13).bind fun x =>
      (idx t1 t13).bind fun x_1 =>
      cond (!(decide (x = x_1)))
        (kret false)
        (kb (wi64 (t13 + 1))))
      (kx0 ())
def f21 (N : Nat) (a0 : List Int) (a1 : List Int) : Option (Bool) :=
  cond (!(decide ((len a0) = (len a1))))
    (some false)
    (iter (fun w => f21_L4 N a1 a0 (len a0) w
      (fun t4 =>
        some t4)
      (fun (_ : Unit) =>
        some true)) N 0)
def c21 (N : Nat) : Callee := .pure (.pr (.val (.sl false (.int .i64))) (.pr (.val (.sl false (.int .i64))) .un)) [.bool] fun d => f21 N d.1 d.2.1
def F21_4 : SForm := ⟨[(13, (.val (.int .i64))), (1, (.val (.sl false (.int .i64)))), (0, (.val (.sl false (.int .i64)))), (12, (.val (.int .i64)))], []⟩
def G21_4 (N : Nat) : (R : Type) → F21_4.den → (AExit → St → Option R) → Option R := fun R d k => iter (fun kb => f21_L4 N d.1.2.1 d.1.2.2.1 d.1.2.2.2.1 kb
    (fun y0 => k .ret (St.of [(4, (.data .bool y0))] []))
    (fun _ => k (.exit 0) (St.of [] []))) N d.1.1
def lp21 (N : Nat) : Nat → Option LoopFn := fun r => cond (Nat.beq r 4) (some fun R sl os k => F21_4.take sl os fun d => G21_4 N R d k) (none)
def x21 (N : Nat) : Ctx := { fuel := N, tt := getL ttL, mt := getL mtL, ntmps := 26, env := fun f => (getL [] f).getD [], cut := getL [(4, ⟨[13, 1, 0, 12], []⟩)], exits := fun r => getL ((getL [(4, [(0, ⟨[], []⟩)])] r).getD []), res := ⟨[4], []⟩, own := fun _ => none, lp := lp21 N, eqs := fun T => memN T eqL }
noncomputable def b21 : Code := ((Go.Proofs.Try.f21).body).getD .skip
theorem s21_4 (N : Nat) {R : Type} (k : AExit → St → Option R) (t1 : List Int) (t0 : List Int) (t12 : Int) (kb : List (Nat × AVal) → List Obj → Option R) (x : Int) : codeK (x21 N) (loopAt 4 (loopsOf b21)) (St.of [(13, (.data (.int .i64) x)), (1, (.data (.sl false (.int .i64)) t1)), (0, (.data (.sl false (.int .i64)) t0)), (12, (.data (.int .i64) t12))] []) (kLoop (x21 N) 4 ⟨[13, 1, 0, 12], []⟩ kb k) = f21_L4 N t1 t0 t12 (fun y => kb [(13, (.data (.int .i64) y)), (1, (.data (.sl false (.int .i64)) t1)), (0, (.data (.sl false (.int .i64)) t0)), (12, (.data (.int .i64) t12))] [])
    (fun y0 => k .ret (St.of [(4, (.data .bool y0))] []))
    (fun _ => k (.exit 0) (St.of [] [])) x := by kernel_rfl
theorem l21_4 (N : Nat) : LoopOK (x21 N) (loopAt 4 (loopsOf b21)) :=
  loop_mk (G21_4 N) (by kernel_rfl) (by kernel_rfl) (by kernel_rfl) fun R k d =>
    loop_eq (st := fun (x : Int) => ([(13, (.data (.int .i64) x)), (1, (.data (.sl false (.int .i64)) d.1.2.1)), (0, (.data (.sl false (.int .i64)) d.1.2.2.1)), (12, (.data (.int .i64) d.1.2.2.2.1))], [])) (s21_4 N k d.1.2.1 d.1.2.2.1 d.1.2.2.2.1) N d.1.1
theorem e21 (N : Nat) (a0 : List Int) (a1 : List Int) : bodyK (x21 N) [.bool] [.tmp 4] b21 (entry (.pr (.val (.sl false (.int .i64))) (.pr (.val (.sl false (.int .i64))) .un)) (a0, (a1, ()))) = f21 N a0 a1 := by kernel_rfl
theorem k21 (N : Nat) : CalleeOK Go.Proofs.Try.prog 21 (c21 N) :=
  fn_ok (fn := Go.Proofs.Try.f21) (body := b21) (c := x21 N) Go.Proofs.Try.func21 (by kernel_rfl) (by kernel_rfl) ⟨ttL_ok, mtL_ok, eqL_ok, env_nil⟩ mixed (by kernel_rfl) (Nat.le_of_ble_eq_true (by kernel_rfl)) (by kernel_rfl) (by decide)
    (loops_ok (by kernel_rfl : loopsOf b21 = [loopAt 4 (loopsOf b21)]) (.cons (l21_4 N) .nil)) fun d => e21 N d.1 d.2.1
/-! ### 12: keyhole/keyholelaw42.known -/
def f12 (N : Nat) : Option (Bool) :=
  (f39 N).bind fun r =>
  (f15 N (r.1.1, (r.1.2.1, ())) r.2).bind fun r_1 =>
  (f27 N (r.1.1, (r.1.2.1, ())) r.2 1).bind fun r_2 =>
  (f16 N (r.1.1, (r.1.2.1, ())) r.2).bind fun r_3 =>
  (f23 N (r.1.1, (r.1.2.1, ())) (0 :: (1 :: ([] : List Int)))).bind fun r_4 =>
  (f28 N (r.1.1, (r.1.2.1, ())) ((1 :: (0 :: (0 :: (0 :: ([] : List Int))))) :: ((0 :: (1 :: (0 :: (0 :: ([] : List Int))))) :: ((0 :: (0 :: (1 :: (0 :: ([] : List Int))))) :: ((0 :: (0 :: (0 :: (1 :: ([] : List Int))))) :: ([] : List (List Int)))))) (0 :: (1 :: (2 :: (2 :: ([] : List Int)))))).bind fun r_5 =>
  (cond (decide (r_1.2 = 0))
      ((f21 N r_1.1 (0 :: (1 :: (2 :: (2 :: ([] : List Int)))))).bind fun r_6 =>
      some r_6)
      (some false)).bind fun b =>
  (cond b
      (some (decide (r_2.2 = 0)))
      (some false)).bind fun b_1 =>
  (cond b_1
      (some (decide (r_2.1 = 4)))
      (some false)).bind fun b_2 =>
  (cond b_2
      (some (decide (r_3.2 = 0)))
      (some false)).bind fun b_3 =>
  (cond b_3
      (some (decide (r_3.1 = 2)))
      (some false)).bind fun b_4 =>
  (cond b_4
      (some (decide (r_4.2 = 0)))
      (some false)).bind fun b_5 =>
  (cond b_5
      ((f21 N r_4.1 (0 :: (1 :: (2 :: (3 :: ([] : List Int)))))).bind fun r_7 =>
      some r_7)
      (some false)).bind fun b_6 =>
  (cond b_6
      (some (decide (r_5.2 = 0)))
      (some false)).bind fun b_7 =>
  (cond b_7
      (some (decide (r_5.1 = 3)))
      (some false)).bind fun b_8 =>
  some b_8
def c12 (N : Nat) : Callee := .pure .un [.bool] fun d => f12 N 
def lp12 (N : Nat) : Nat → Option LoopFn := fun r => none
def x12 (N : Nat) : Ctx := { fuel := N, tt := getL ttL, mt := getL mtL, ntmps := 92, env := fun f => (getL [(39, [c39 N]), (15, [c15 N]), (27, [c27 N]), (16, [c16 N]), (23, [c23 N]), (28, [c28 N]), (21, [c21 N])] f).getD [], cut := getL [], exits := fun r => getL ((getL [] r).getD []), res := ⟨[0], []⟩, own := fun _ => none, lp := lp12 N, eqs := fun T => memN T eqL }
noncomputable def b12 : Code := ((Go.Proofs.Try.f12).body).getD .skip
theorem e12 (N : Nat) : bodyK (x12 N) [.bool] [.tmp 0] b12 (entry .un ()) = f12 N := by kernel_rfl
theorem k12 (N : Nat) : CalleeOK Go.Proofs.Try.prog 12 (c12 N) :=
  fn_ok (fn := Go.Proofs.Try.f12) (body := b12) (c := x12 N) Go.Proofs.Try.func12 (by kernel_rfl) (by kernel_rfl) ⟨ttL_ok, mtL_ok, eqL_ok, env_cons (forall_mem1 (k39 N)) (env_cons (forall_mem1 (k15 N)) (env_cons (forall_mem1 (k27 N)) (env_cons (forall_mem1 (k16 N)) (env_cons (forall_mem1 (k23 N)) (env_cons (forall_mem1 (k28 N)) (env_cons (forall_mem1 (k21 N)) (env_nil)))))))⟩ mixed (by kernel_rfl) (Nat.le_of_ble_eq_true (by kernel_rfl)) (by kernel_rfl) (by decide)
    (loops_ok (by kernel_rfl : loopsOf b12 = []) .nil) fun d => e12 N 
/-! ### 25: keyhole/keyholelaw42.Canonical -/
def f25_L3 {R : Type} (N : Nat) (t6 : List Int) (t7 : Int) (kb : Int × Int → Option R) (kret : Bool → Option R) (kx0 : Unit → Option R) : Int × Int → Option R :=
  fun (t8, t3) =>
    cond (decide (t8 < t7))
      ((idx t6 t8).bind fun x =>
      (cond (decide (x < 0))
          (some true)
          (some (decide (t3 < x)))).bind fun b =>
      cond b
        (kret false)
        (kb ((wi64 (t8 + 1)), (maxI t3 (wi64 (x + 1))))))
      (kx0 ())
def f25 (N : Nat) (a0 : List Int) : Option (Bool) :=
  iter (fun w => f25_L3 N a0 (len a0) w
    (fun t2 =>
      some t2)
    (fun (_ : Unit) =>
      some true)) N (0, 0)
def c25 (N : Nat) : Callee := .pure (.pr (.val (.sl false (.int .i64))) .un) [.bool] fun d => f25 N d.1
def F25_3 : SForm := ⟨[(8, (.val (.int .i64))), (3, (.val (.int .i64))), (6, (.val (.sl false (.int .i64)))), (7, (.val (.int .i64)))], []⟩
def G25_3 (N : Nat) : (R : Type) → F25_3.den → (AExit → St → Option R) → Option R := fun R d k => iter (fun kb => f25_L3 N d.1.2.2.1 d.1.2.2.2.1 kb
    (fun y0 => k .ret (St.of [(2, (.data .bool y0))] []))
    (fun _ => k (.exit 0) (St.of [] []))) N (d.1.1, d.1.2.1)
def lp25 (N : Nat) : Nat → Option LoopFn := fun r => cond (Nat.beq r 3) (some fun R sl os k => F25_3.take sl os fun d => G25_3 N R d k) (none)
def x25 (N : Nat) : Ctx := { fuel := N, tt := getL ttL, mt := getL mtL, ntmps := 24, env := fun f => (getL [] f).getD [], cut := getL [(3, ⟨[8, 3, 6, 7], []⟩)], exits := fun r => getL ((getL [(3, [(0, ⟨[], []⟩)])] r).getD []), res := ⟨[2], []⟩, own := fun _ => none, lp := lp25 N, eqs := fun T => memN T eqL }
noncomputable def b25 : Code := ((Go.Proofs.Try.f25).body).getD .skip
theorem s25_3 (N : Nat) {R : Type} (k : AExit → St → Option R) (t6 : List Int) (t7 : Int) (kb : List (Nat × AVal) → List Obj → Option R) (x : Int × Int) : codeK (x25 N) (loopAt 3 (loopsOf b25)) (St.of [(8, (.data (.int .i64) x.1)), (3, (.data (.int .i64) x.2)), (6, (.data (.sl false (.int .i64)) t6)), (7, (.data (.int .i64) t7))] []) (kLoop (x25 N) 3 ⟨[8, 3, 6, 7], []⟩ kb k) = f25_L3 N t6 t7 (fun y => kb [(8, (.data (.int .i64) y.1)), (3, (.data (.int .i64) y.2)), (6, (.data (.sl false (.int .i64)) t6)), (7, (.data (.int .i64) t7))] [])
    (fun y0 => k .ret (St.of [(2, (.data .bool y0))] []))
    (fun _ => k (.exit 0) (St.of [] [])) x := by kernel_rfl
theorem l25_3 (N : Nat) : LoopOK (x25 N) (loopAt 3 (loopsOf b25)) :=
  loop_mk (G25_3 N) (by kernel_rfl) (by kernel_rfl) (by kernel_rfl) fun R k d =>
    loop_eq (st := fun (x : Int × Int) => ([(8, (.data (.int .i64) x.1)), (3, (.data (.int .i64) x.2)), (6, (.data (.sl false (.int .i64)) d.1.2.2.1)), (7, (.data (.int .i64) d.1.2.2.2.1))], [])) (s25_3 N k d.1.2.2.1 d.1.2.2.2.1) N (d.1.1, d.1.2.1)
theorem e25 (N : Nat) (a0 : List Int) : bodyK (x25 N) [.bool] [.tmp 2] b25 (entry (.pr (.val (.sl false (.int .i64))) .un) (a0, ())) = f25 N a0 := by kernel_rfl
theorem k25 (N : Nat) : CalleeOK Go.Proofs.Try.prog 25 (c25 N) :=
  fn_ok (fn := Go.Proofs.Try.f25) (body := b25) (c := x25 N) Go.Proofs.Try.func25 (by kernel_rfl) (by kernel_rfl) ⟨ttL_ok, mtL_ok, eqL_ok, env_nil⟩ mixed (by kernel_rfl) (Nat.le_of_ble_eq_true (by kernel_rfl)) (by kernel_rfl) (by decide)
    (loops_ok (by kernel_rfl : loopsOf b25 = [loopAt 3 (loopsOf b25)]) (.cons (l25_3 N) .nil)) fun d => e25 N d.1
/-! ### 18: keyhole/keyholelaw42.CheckMenu -/
def f18_L4 {R : Type} (N : Nat) (t20 : List (List Int)) (t21 : Int) (o0 : (Int × (List (List Int) × Unit))) (kb : Int → Option R) (kret : Int → Option R) (kx0 : Unit → Option R) : Int → Option R :=
  fun t22 =>
    cond (decide (t22 < t21))
      ((idx t20 t22).bind fun x =>
      (cond (!(decide ((len x) = o0.1)))
          (some true)
          ((f25 N x).bind fun r =>
          some (!r))).bind fun b_2 =>
      cond b_2
        (kret 1)
        (kb (wi64 (t22 + 1))))
      (kx0 ())
def f18 (N : Nat) (a0 : (Int × (List (List Int) × Unit))) : Option (Int) :=
  (cond (decide (a0.1 < 1))
      (some true)
      (some (decide (62 < a0.1)))).bind fun b =>
  (cond b
      (some true)
      (some (decide (8 < (len a0.2.1))))).bind fun b_1 =>
  cond b_1
    (some 1)
    (iter (fun w => f18_L4 N a0.2.1 (len a0.2.1) a0 w
      (fun t2 =>
        some t2)
      (fun (_ : Unit) =>
        some 0)) N 0)
def c18 (N : Nat) : Callee := .pure (.pr (.val (.pair (.int .i64) (.pair (.sl false (.sl false (.int .i64))) .unit))) .un) [(.int .i64)] fun d => f18 N d.1
def F18_4 : SForm := ⟨[(22, (.val (.int .i64))), (1, (.bptr 0 [])), (20, (.val (.sl false (.sl false (.int .i64))))), (21, (.val (.int .i64)))], [.cell (.val (.pair (.int .i64) (.pair (.sl false (.sl false (.int .i64))) .unit)))]⟩
def G18_4 (N : Nat) : (R : Type) → F18_4.den → (AExit → St → Option R) → Option R := fun R d k => iter (fun kb => f18_L4 N d.1.2.2.1 d.1.2.2.2.1 d.2.1 kb
    (fun y0 => k .ret (St.of [(2, (.data (.int .i64) y0))] []))
    (fun _ => k (.exit 0) (St.of [] []))) N d.1.1
def lp18 (N : Nat) : Nat → Option LoopFn := fun r => cond (Nat.beq r 4) (some fun R sl os k => F18_4.take sl os fun d => G18_4 N R d k) (none)
def x18 (N : Nat) : Ctx := { fuel := N, tt := getL ttL, mt := getL mtL, ntmps := 37, env := fun f => (getL [(25, [c25 N])] f).getD [], cut := getL [(4, ⟨[22, 1, 20, 21], []⟩)], exits := fun r => getL ((getL [(4, [(0, ⟨[], []⟩)])] r).getD []), res := ⟨[2], []⟩, own := fun _ => none, lp := lp18 N, eqs := fun T => memN T eqL }
noncomputable def b18 : Code := ((Go.Proofs.Try.f18).body).getD .skip
theorem s18_4 (N : Nat) {R : Type} (k : AExit → St → Option R) (t20 : List (List Int)) (t21 : Int) (o0 : (Int × (List (List Int) × Unit))) (kb : List (Nat × AVal) → List Obj → Option R) (x : Int) : codeK (x18 N) (loopAt 4 (loopsOf b18)) (St.of [(22, (.data (.int .i64) x)), (1, (.bptr 0 [])), (20, (.data (.sl false (.sl false (.int .i64))) t20)), (21, (.data (.int .i64) t21))] [.cell (.data (.pair (.int .i64) (.pair (.sl false (.sl false (.int .i64))) .unit)) o0)]) (kLoop (x18 N) 4 ⟨[22, 1, 20, 21], []⟩ kb k) = f18_L4 N t20 t21 o0 (fun y => kb [(22, (.data (.int .i64) y)), (1, (.bptr 0 [])), (20, (.data (.sl false (.sl false (.int .i64))) t20)), (21, (.data (.int .i64) t21))] [.cell (.data (.pair (.int .i64) (.pair (.sl false (.sl false (.int .i64))) .unit)) o0)])
    (fun y0 => k .ret (St.of [(2, (.data (.int .i64) y0))] []))
    (fun _ => k (.exit 0) (St.of [] [])) x := by kernel_rfl
theorem l18_4 (N : Nat) : LoopOK (x18 N) (loopAt 4 (loopsOf b18)) :=
  loop_mk (G18_4 N) (by kernel_rfl) (by kernel_rfl) (by kernel_rfl) fun R k d =>
    loop_eq (st := fun (x : Int) => ([(22, (.data (.int .i64) x)), (1, (.bptr 0 [])), (20, (.data (.sl false (.sl false (.int .i64))) d.1.2.2.1)), (21, (.data (.int .i64) d.1.2.2.2.1))], [.cell (.data (.pair (.int .i64) (.pair (.sl false (.sl false (.int .i64))) .unit)) d.2.1)])) (s18_4 N k d.1.2.2.1 d.1.2.2.2.1 d.2.1) N d.1.1
theorem e18 (N : Nat) (a0 : (Int × (List (List Int) × Unit))) : bodyK (x18 N) [(.int .i64)] [.tmp 2] b18 (entry (.pr (.val (.pair (.int .i64) (.pair (.sl false (.sl false (.int .i64))) .unit))) .un) (a0, ())) = f18 N a0 := by kernel_rfl
theorem k18 (N : Nat) : CalleeOK Go.Proofs.Try.prog 18 (c18 N) :=
  fn_ok (fn := Go.Proofs.Try.f18) (body := b18) (c := x18 N) Go.Proofs.Try.func18 (by kernel_rfl) (by kernel_rfl) ⟨ttL_ok, mtL_ok, eqL_ok, env_cons (forall_mem1 (k25 N)) (env_nil)⟩ mixed (by kernel_rfl) (Nat.le_of_ble_eq_true (by kernel_rfl)) (by kernel_rfl) (by decide)
    (loops_ok (by kernel_rfl : loopsOf b18 = [loopAt 4 (loopsOf b18)]) (.cons (l18_4 N) .nil)) fun d => e18 N d.1
/-! ### 13: keyhole/keyholelaw42.Few -/
def f13_L4 {R : Type} (N : Nat) (t2 : Int) (t35 : List (List Int)) (t1 : List (Int × (List Int × Unit))) (t36 : Int) (kb : Int → Option R) (kret : Bool → Option R) (kx0 : Unit → Option R) : Int → Option R :=
  fun t37 =>
    cond (decide (t37 < t36))
      ((idx t35 t37).bind fun x =>
      cond (decide ((wi64 (2 * t2)) < (len x)))
        (kret false)
        (kb (wi64 (t37 + 1))))
      (kx0 ())
def f13_L10 {R : Type} (N : Nat) (t2_1 : Int) (t47 : List (Int × (List Int × Unit))) (t48 : Int) (kb : Int → Option R) (kret : Bool → Option R) (kx2 : Unit → Option R) : Int → Option R :=
  fun t49 =>
    cond (decide (t49 < t48))
      ((idx t47 t49).bind fun x_1 =>
      cond (decide ((wi64 (2 * t2_1)) < (len x_1.2.1)))
        (kret false)
        (kb (wi64 (t49 + 1))))
      (kx2 ())
def f13 (N : Nat) (a0 : (Int × (List (List Int) × Unit))) (a1 : List (Int × (List Int × Unit))) (a2 : Int) (a3 : Int) : Option (Bool) :=
  (cond (decide (a2 < a0.1))
      ((f18 N a0).bind fun r =>
      some (decide (r = 0)))
      (some false)).bind fun b =>
  (cond b
      (some true)
      (some (decide (12 < (len a0.2.1))))).bind fun b_1 =>
  (cond b_1
      (some true)
      (some (decide (a3 < (len a1))))).bind fun b_2 =>
  cond b_2
    (some false)
    (iter (fun w => f13_L4 N a2 a0.2.1 a1 (len a0.2.1) w
      (fun t8 =>
        some t8)
      (fun (_ : Unit) =>
        iter (fun w => f13_L10 N a2 a1 (len a1) w
          (fun t8_1 =>
            some t8_1)
          (fun (_ : Unit) =>
            some true)) N 0)) N 0)
def c13 (N : Nat) : Callee := .pure (.pr (.val (.pair (.int .i64) (.pair (.sl false (.sl false (.int .i64))) .unit))) (.pr (.val (.sl false (.pair (.int .i64) (.pair (.sl false (.int .i64)) .unit)))) (.pr (.val (.int .i64)) (.pr (.val (.int .i64)) .un)))) [.bool] fun d => f13 N d.1 d.2.1 d.2.2.1 d.2.2.2.1
def F13_4 : SForm := ⟨[(37, (.val (.int .i64))), (2, (.val (.int .i64))), (35, (.val (.sl false (.sl false (.int .i64))))), (1, (.val (.sl false (.pair (.int .i64) (.pair (.sl false (.int .i64)) .unit))))), (36, (.val (.int .i64)))], []⟩
def G13_4 (N : Nat) : (R : Type) → F13_4.den → (AExit → St → Option R) → Option R := fun R d k => iter (fun kb => f13_L4 N d.1.2.1 d.1.2.2.1 d.1.2.2.2.1 d.1.2.2.2.2.1 kb
    (fun y0 => k .ret (St.of [(8, (.data .bool y0))] []))
    (fun _ => k (.exit 0) (St.of [(2, (.data (.int .i64) d.1.2.1)), (1, (.data (.sl false (.pair (.int .i64) (.pair (.sl false (.int .i64)) .unit))) d.1.2.2.2.1))] []))) N d.1.1
def F13_10 : SForm := ⟨[(49, (.val (.int .i64))), (2, (.val (.int .i64))), (47, (.val (.sl false (.pair (.int .i64) (.pair (.sl false (.int .i64)) .unit))))), (48, (.val (.int .i64)))], []⟩
def G13_10 (N : Nat) : (R : Type) → F13_10.den → (AExit → St → Option R) → Option R := fun R d k => iter (fun kb => f13_L10 N d.1.2.1 d.1.2.2.1 d.1.2.2.2.1 kb
    (fun y0 => k .ret (St.of [(8, (.data .bool y0))] []))
    (fun _ => k (.exit 2) (St.of [] []))) N d.1.1
def lp13 (N : Nat) : Nat → Option LoopFn := fun r => cond (Nat.beq r 4) (some fun R sl os k => F13_4.take sl os fun d => G13_4 N R d k) (cond (Nat.beq r 10) (some fun R sl os k => F13_10.take sl os fun d => G13_10 N R d k) (none))
def x13 (N : Nat) : Ctx := { fuel := N, tt := getL ttL, mt := getL mtL, ntmps := 60, env := fun f => (getL [(18, [c18 N])] f).getD [], cut := getL [(4, ⟨[37, 2, 35, 1, 36], []⟩), (10, ⟨[49, 2, 47, 48], []⟩)], exits := fun r => getL ((getL [(4, [(0, ⟨[2, 1], []⟩)]), (10, [(2, ⟨[], []⟩)])] r).getD []), res := ⟨[8], []⟩, own := fun _ => none, lp := lp13 N, eqs := fun T => memN T eqL }
noncomputable def b13 : Code := ((Go.Proofs.Try.f13).body).getD .skip
theorem s13_4 (N : Nat) {R : Type} (k : AExit → St → Option R) (t2 : Int) (t35 : List (List Int)) (t1 : List (Int × (List Int × Unit))) (t36 : Int) (kb : List (Nat × AVal) → List Obj → Option R) (x : Int) : codeK (x13 N) (loopAt 4 (loopsOf b13)) (St.of [(37, (.data (.int .i64) x)), (2, (.data (.int .i64) t2)), (35, (.data (.sl false (.sl false (.int .i64))) t35)), (1, (.data (.sl false (.pair (.int .i64) (.pair (.sl false (.int .i64)) .unit))) t1)), (36, (.data (.int .i64) t36))] []) (kLoop (x13 N) 4 ⟨[37, 2, 35, 1, 36], []⟩ kb k) = f13_L4 N t2 t35 t1 t36 (fun y => kb [(37, (.data (.int .i64) y)), (2, (.data (.int .i64) t2)), (35, (.data (.sl false (.sl false (.int .i64))) t35)), (1, (.data (.sl false (.pair (.int .i64) (.pair (.sl false (.int .i64)) .unit))) t1)), (36, (.data (.int .i64) t36))] [])
    (fun y0 => k .ret (St.of [(8, (.data .bool y0))] []))
    (fun _ => k (.exit 0) (St.of [(2, (.data (.int .i64) t2)), (1, (.data (.sl false (.pair (.int .i64) (.pair (.sl false (.int .i64)) .unit))) t1))] [])) x := by kernel_rfl
theorem l13_4 (N : Nat) : LoopOK (x13 N) (loopAt 4 (loopsOf b13)) :=
  loop_mk (G13_4 N) (by kernel_rfl) (by kernel_rfl) (by kernel_rfl) fun R k d =>
    loop_eq (st := fun (x : Int) => ([(37, (.data (.int .i64) x)), (2, (.data (.int .i64) d.1.2.1)), (35, (.data (.sl false (.sl false (.int .i64))) d.1.2.2.1)), (1, (.data (.sl false (.pair (.int .i64) (.pair (.sl false (.int .i64)) .unit))) d.1.2.2.2.1)), (36, (.data (.int .i64) d.1.2.2.2.2.1))], [])) (s13_4 N k d.1.2.1 d.1.2.2.1 d.1.2.2.2.1 d.1.2.2.2.2.1) N d.1.1
theorem s13_10 (N : Nat) {R : Type} (k : AExit → St → Option R) (t2_1 : Int) (t47 : List (Int × (List Int × Unit))) (t48 : Int) (kb : List (Nat × AVal) → List Obj → Option R) (x : Int) : codeK (x13 N) (loopAt 10 (loopsOf b13)) (St.of [(49, (.data (.int .i64) x)), (2, (.data (.int .i64) t2_1)), (47, (.data (.sl false (.pair (.int .i64) (.pair (.sl false (.int .i64)) .unit))) t47)), (48, (.data (.int .i64) t48))] []) (kLoop (x13 N) 10 ⟨[49, 2, 47, 48], []⟩ kb k) = f13_L10 N t2_1 t47 t48 (fun y => kb [(49, (.data (.int .i64) y)), (2, (.data (.int .i64) t2_1)), (47, (.data (.sl false (.pair (.int .i64) (.pair (.sl false (.int .i64)) .unit))) t47)), (48, (.data (.int .i64) t48))] [])
    (fun y0 => k .ret (St.of [(8, (.data .bool y0))] []))
    (fun _ => k (.exit 2) (St.of [] [])) x := by kernel_rfl
theorem l13_10 (N : Nat) : LoopOK (x13 N) (loopAt 10 (loopsOf b13)) :=
  loop_mk (G13_10 N) (by kernel_rfl) (by kernel_rfl) (by kernel_rfl) fun R k d =>
    loop_eq (st := fun (x : Int) => ([(49, (.data (.int .i64) x)), (2, (.data (.int .i64) d.1.2.1)), (47, (.data (.sl false (.pair (.int .i64) (.pair (.sl false (.int .i64)) .unit))) d.1.2.2.1)), (48, (.data (.int .i64) d.1.2.2.2.1))], [])) (s13_10 N k d.1.2.1 d.1.2.2.1 d.1.2.2.2.1) N d.1.1
theorem e13 (N : Nat) (a0 : (Int × (List (List Int) × Unit))) (a1 : List (Int × (List Int × Unit))) (a2 : Int) (a3 : Int) : bodyK (x13 N) [.bool] [.tmp 8] b13 (entry (.pr (.val (.pair (.int .i64) (.pair (.sl false (.sl false (.int .i64))) .unit))) (.pr (.val (.sl false (.pair (.int .i64) (.pair (.sl false (.int .i64)) .unit)))) (.pr (.val (.int .i64)) (.pr (.val (.int .i64)) .un)))) (a0, (a1, (a2, (a3, ()))))) = f13 N a0 a1 a2 a3 := by kernel_rfl
theorem k13 (N : Nat) : CalleeOK Go.Proofs.Try.prog 13 (c13 N) :=
  fn_ok (fn := Go.Proofs.Try.f13) (body := b13) (c := x13 N) Go.Proofs.Try.func13 (by kernel_rfl) (by kernel_rfl) ⟨ttL_ok, mtL_ok, eqL_ok, env_cons (forall_mem1 (k18 N)) (env_nil)⟩ mixed (by kernel_rfl) (Nat.le_of_ble_eq_true (by kernel_rfl)) (by kernel_rfl) (by decide)
    (loops_ok (by kernel_rfl : loopsOf b13 = [loopAt 4 (loopsOf b13), loopAt 10 (loopsOf b13)]) (.cons (l13_4 N) (.cons (l13_10 N) .nil))) fun d => e13 N d.1 d.2.1 d.2.2.1 d.2.2.2.1
/-! ### 26: keyhole/keyholelaw42.Classes -/
def f26_L3 {R : Type} (N : Nat) (t6 : List Int) (t7 : Int) (kb : Int × Int → Option R) (kx0 : Int → Option R) : Int × Int → Option R :=
  fun (t8, t3) =>
    cond (decide (t8 < t7))
      ((idx t6 t8).bind fun x =>
      kb ((wi64 (t8 + 1)), (maxI t3 (wi64 (x + 1)))))
      (kx0 t3)
def f26 (N : Nat) (a0 : List Int) : Option (Int) :=
  iter (fun w => f26_L3 N a0 (len a0) w
    (fun t3_1 =>
      some t3_1)) N (0, 0)
def c26 (N : Nat) : Callee := .pure (.pr (.val (.sl false (.int .i64))) .un) [(.int .i64)] fun d => f26 N d.1
def F26_3 : SForm := ⟨[(8, (.val (.int .i64))), (3, (.val (.int .i64))), (6, (.val (.sl false (.int .i64)))), (7, (.val (.int .i64)))], []⟩
def G26_3 (N : Nat) : (R : Type) → F26_3.den → (AExit → St → Option R) → Option R := fun R d k => iter (fun kb => f26_L3 N d.1.2.2.1 d.1.2.2.2.1 kb
    (fun y0 => k (.exit 0) (St.of [(3, (.data (.int .i64) y0))] []))) N (d.1.1, d.1.2.1)
def lp26 (N : Nat) : Nat → Option LoopFn := fun r => cond (Nat.beq r 3) (some fun R sl os k => F26_3.take sl os fun d => G26_3 N R d k) (none)
def x26 (N : Nat) : Ctx := { fuel := N, tt := getL ttL, mt := getL mtL, ntmps := 18, env := fun f => (getL [] f).getD [], cut := getL [(3, ⟨[8, 3, 6, 7], []⟩)], exits := fun r => getL ((getL [(3, [(0, ⟨[3], []⟩)])] r).getD []), res := ⟨[2], []⟩, own := fun _ => none, lp := lp26 N, eqs := fun T => memN T eqL }
noncomputable def b26 : Code := ((Go.Proofs.Try.f26).body).getD .skip
theorem s26_3 (N : Nat) {R : Type} (k : AExit → St → Option R) (t6 : List Int) (t7 : Int) (kb : List (Nat × AVal) → List Obj → Option R) (x : Int × Int) : codeK (x26 N) (loopAt 3 (loopsOf b26)) (St.of [(8, (.data (.int .i64) x.1)), (3, (.data (.int .i64) x.2)), (6, (.data (.sl false (.int .i64)) t6)), (7, (.data (.int .i64) t7))] []) (kLoop (x26 N) 3 ⟨[8, 3, 6, 7], []⟩ kb k) = f26_L3 N t6 t7 (fun y => kb [(8, (.data (.int .i64) y.1)), (3, (.data (.int .i64) y.2)), (6, (.data (.sl false (.int .i64)) t6)), (7, (.data (.int .i64) t7))] [])
    (fun y0 => k (.exit 0) (St.of [(3, (.data (.int .i64) y0))] [])) x := by kernel_rfl
theorem l26_3 (N : Nat) : LoopOK (x26 N) (loopAt 3 (loopsOf b26)) :=
  loop_mk (G26_3 N) (by kernel_rfl) (by kernel_rfl) (by kernel_rfl) fun R k d =>
    loop_eq (st := fun (x : Int × Int) => ([(8, (.data (.int .i64) x.1)), (3, (.data (.int .i64) x.2)), (6, (.data (.sl false (.int .i64)) d.1.2.2.1)), (7, (.data (.int .i64) d.1.2.2.2.1))], [])) (s26_3 N k d.1.2.2.1 d.1.2.2.2.1) N (d.1.1, d.1.2.1)
theorem e26 (N : Nat) (a0 : List Int) : bodyK (x26 N) [(.int .i64)] [.tmp 2] b26 (entry (.pr (.val (.sl false (.int .i64))) .un) (a0, ())) = f26 N a0 := by kernel_rfl
theorem k26 (N : Nat) : CalleeOK Go.Proofs.Try.prog 26 (c26 N) :=
  fn_ok (fn := Go.Proofs.Try.f26) (body := b26) (c := x26 N) Go.Proofs.Try.func26 (by kernel_rfl) (by kernel_rfl) ⟨ttL_ok, mtL_ok, eqL_ok, env_nil⟩ mixed (by kernel_rfl) (Nat.le_of_ble_eq_true (by kernel_rfl)) (by kernel_rfl) (by decide)
    (loops_ok (by kernel_rfl : loopsOf b26 = [loopAt 3 (loopsOf b26)]) (.cons (l26_3 N) .nil)) fun d => e26 N d.1
/-! ### 14: keyhole/keyholelaw42.Check -/
def f14_L14 {R : Type} (N : Nat) (t1_1 : List (Int × (List Int × Unit))) (t6 : Int) (t48 : List Int) (t18_1 : List (Int × (List Int × Unit))) (t19_1 : Int) (t20_1 : Int) (t49 : Int) (o0_1 : (Int × (List (List Int) × Unit))) (kb : Int → Option R) (kret : Int → Option R) (kx2 : Unit → Option R) : Int → Option R :=
  fun t50 =>
    cond (decide (t50 < t49))
      ((idx t48 t50).bind fun x_2 =>
      (cond (!(decide (x_2 = (-1))))
          ((cond (decide (x_2 ≤ t6))
              (some true)
              (some (decide ((len t1_1) ≤ x_2)))).bind fun b_1 =>
          some b_1)
          (some false)).bind fun b_2 =>
      cond b_2
        (kret 10)
        (kb (wi64 (t50 + 1))))
      (kx2 ())
def f14_L7 {R : Type} (N : Nat) (t1 : List (Int × (List Int × Unit))) (t18 : List (Int × (List Int × Unit))) (t19 : Int) (o0 : (Int × (List (List Int) × Unit))) (kb : Int → Option R) (kret : Int → Option R) (kx0 : Unit → Option R) : Int → Option R :=
  fun t20 =>
    cond (decide (t20 < t19))
      ((idx t18 t20).bind fun x =>
      (cond (decide (x.1 < 0))
          (some true)
          (some (decide ((len o0.2.1) ≤ x.1)))).bind fun b =>
      cond b
        (kret 3)
        ((idx o0.2.1 x.1).bind fun x_1 =>
        (f26 N x_1).bind fun r_1 =>
        cond (!(decide ((len x.2.1) = r_1)))
          (kret 2)
          (iter (fun w => f14_L14 N t1 t20 x.2.1 t18 t19 t20 (len x.2.1) o0 w
            (fun t4 =>
              kret t4)
            (fun (_ : Unit) =>
              kb (wi64 (t20 + 1)))) N 0)))
      (kx0 ())
def f14 (N : Nat) (a0 : (Int × (List (List Int) × Unit))) (a1 : List (Int × (List Int × Unit))) : Option (Int) :=
  (f18 N a0).bind fun r =>
  cond (!(decide (r = 0)))
    (some r)
    (cond (decide (256 < (len a1)))
      (some 4)
      (iter (fun w => f14_L7 N a1 a1 (len a1) a0 w
        (fun t4_1 =>
          some t4_1)
        (fun (_ : Unit) =>
          some 0)) N 0))
def c14 (N : Nat) : Callee := .pure (.pr (.val (.pair (.int .i64) (.pair (.sl false (.sl false (.int .i64))) .unit))) (.pr (.val (.sl false (.pair (.int .i64) (.pair (.sl false (.int .i64)) .unit)))) .un)) [(.int .i64)] fun d => f14 N d.1 d.2.1
def F14_14 : SForm := ⟨[(50, (.val (.int .i64))), (1, (.val (.sl false (.pair (.int .i64) (.pair (.sl false (.int .i64)) .unit))))), (6, (.val (.int .i64))), (48, (.val (.sl false (.int .i64)))), (2, (.bptr 0 [])), (18, (.val (.sl false (.pair (.int .i64) (.pair (.sl false (.int .i64)) .unit))))), (19, (.val (.int .i64))), (20, (.val (.int .i64))), (49, (.val (.int .i64)))], [.cell (.val (.pair (.int .i64) (.pair (.sl false (.sl false (.int .i64))) .unit)))]⟩
def G14_14 (N : Nat) : (R : Type) → F14_14.den → (AExit → St → Option R) → Option R := fun R d k => iter (fun kb => f14_L14 N d.1.2.1 d.1.2.2.1 d.1.2.2.2.1 d.1.2.2.2.2.2.1 d.1.2.2.2.2.2.2.1 d.1.2.2.2.2.2.2.2.1 d.1.2.2.2.2.2.2.2.2.1 d.2.1 kb
    (fun y0 => k .ret (St.of [(4, (.data (.int .i64) y0))] []))
    (fun _ => k (.exit 2) (St.of [(1, (.data (.sl false (.pair (.int .i64) (.pair (.sl false (.int .i64)) .unit))) d.1.2.1)), (2, (.bptr 0 [])), (18, (.data (.sl false (.pair (.int .i64) (.pair (.sl false (.int .i64)) .unit))) d.1.2.2.2.2.2.1)), (19, (.data (.int .i64) d.1.2.2.2.2.2.2.1)), (20, (.data (.int .i64) d.1.2.2.2.2.2.2.2.1))] [.cell (.data (.pair (.int .i64) (.pair (.sl false (.sl false (.int .i64))) .unit)) d.2.1)]))) N d.1.1
def F14_7 : SForm := ⟨[(1, (.val (.sl false (.pair (.int .i64) (.pair (.sl false (.int .i64)) .unit))))), (20, (.val (.int .i64))), (2, (.bptr 0 [])), (18, (.val (.sl false (.pair (.int .i64) (.pair (.sl false (.int .i64)) .unit))))), (19, (.val (.int .i64)))], [.cell (.val (.pair (.int .i64) (.pair (.sl false (.sl false (.int .i64))) .unit)))]⟩
def G14_7 (N : Nat) : (R : Type) → F14_7.den → (AExit → St → Option R) → Option R := fun R d k => iter (fun kb => f14_L7 N d.1.1 d.1.2.2.2.1 d.1.2.2.2.2.1 d.2.1 kb
    (fun y0 => k .ret (St.of [(4, (.data (.int .i64) y0))] []))
    (fun _ => k (.exit 0) (St.of [] []))) N d.1.2.1
def lp14 (N : Nat) : Nat → Option LoopFn := fun r => cond (Nat.beq r 14) (some fun R sl os k => F14_14.take sl os fun d => G14_14 N R d k) (cond (Nat.beq r 7) (some fun R sl os k => F14_7.take sl os fun d => G14_7 N R d k) (none))
def x14 (N : Nat) : Ctx := { fuel := N, tt := getL ttL, mt := getL mtL, ntmps := 69, env := fun f => (getL [(18, [c18 N]), (26, [c26 N])] f).getD [], cut := getL [(7, ⟨[1, 20, 2, 18, 19], []⟩), (14, ⟨[50, 1, 6, 48, 2, 18, 19, 20, 49], []⟩)], exits := fun r => getL ((getL [(7, [(0, ⟨[], []⟩)]), (14, [(2, ⟨[1, 2, 18, 19, 20], []⟩)])] r).getD []), res := ⟨[4], []⟩, own := fun _ => none, lp := lp14 N, eqs := fun T => memN T eqL }
noncomputable def b14 : Code := ((Go.Proofs.Try.f14).body).getD .skip
theorem s14_14 (N : Nat) {R : Type} (k : AExit → St → Option R) (t1_1 : List (Int × (List Int × Unit))) (t6 : Int) (t48 : List Int) (t18_1 : List (Int × (List Int × Unit))) (t19_1 : Int) (t20_1 : Int) (t49 : Int) (o0_1 : (Int × (List (List Int) × Unit))) (kb : List (Nat × AVal) → List Obj → Option R) (x : Int) : codeK (x14 N) (loopAt 14 (loopsOf b14)) (St.of [(50, (.data (.int .i64) x)), (1, (.data (.sl false (.pair (.int .i64) (.pair (.sl false (.int .i64)) .unit))) t1_1)), (6, (.data (.int .i64) t6)), (48, (.data (.sl false (.int .i64)) t48)), (2, (.bptr 0 [])), (18, (.data (.sl false (.pair (.int .i64) (.pair (.sl false (.int .i64)) .unit))) t18_1)), (19, (.data (.int .i64) t19_1)), (20, (.data (.int .i64) t20_1)), (49, (.data (.int .i64) t49))] [.cell (.data (.pair (.int .i64) (.pair (.sl false (.sl false (.int .i64))) .unit)) o0_1)]) (kLoop (x14 N) 14 ⟨[50, 1, 6, 48, 2, 18, 19, 20, 49], []⟩ kb k) = f14_L14 N t1_1 t6 t48 t18_1 t19_1 t20_1 t49 o0_1 (fun y => kb [(50, (.data (.int .i64) y)), (1, (.data (.sl false (.pair (.int .i64) (.pair (.sl false (.int .i64)) .unit))) t1_1)), (6, (.data (.int .i64) t6)), (48, (.data (.sl false (.int .i64)) t48)), (2, (.bptr 0 [])), (18, (.data (.sl false (.pair (.int .i64) (.pair (.sl false (.int .i64)) .unit))) t18_1)), (19, (.data (.int .i64) t19_1)), (20, (.data (.int .i64) t20_1)), (49, (.data (.int .i64) t49))] [.cell (.data (.pair (.int .i64) (.pair (.sl false (.sl false (.int .i64))) .unit)) o0_1)])
    (fun y0 => k .ret (St.of [(4, (.data (.int .i64) y0))] []))
    (fun _ => k (.exit 2) (St.of [(1, (.data (.sl false (.pair (.int .i64) (.pair (.sl false (.int .i64)) .unit))) t1_1)), (2, (.bptr 0 [])), (18, (.data (.sl false (.pair (.int .i64) (.pair (.sl false (.int .i64)) .unit))) t18_1)), (19, (.data (.int .i64) t19_1)), (20, (.data (.int .i64) t20_1))] [.cell (.data (.pair (.int .i64) (.pair (.sl false (.sl false (.int .i64))) .unit)) o0_1)])) x := by kernel_rfl
theorem l14_14 (N : Nat) : LoopOK (x14 N) (loopAt 14 (loopsOf b14)) :=
  loop_mk (G14_14 N) (by kernel_rfl) (by kernel_rfl) (by kernel_rfl) fun R k d =>
    loop_eq (st := fun (x : Int) => ([(50, (.data (.int .i64) x)), (1, (.data (.sl false (.pair (.int .i64) (.pair (.sl false (.int .i64)) .unit))) d.1.2.1)), (6, (.data (.int .i64) d.1.2.2.1)), (48, (.data (.sl false (.int .i64)) d.1.2.2.2.1)), (2, (.bptr 0 [])), (18, (.data (.sl false (.pair (.int .i64) (.pair (.sl false (.int .i64)) .unit))) d.1.2.2.2.2.2.1)), (19, (.data (.int .i64) d.1.2.2.2.2.2.2.1)), (20, (.data (.int .i64) d.1.2.2.2.2.2.2.2.1)), (49, (.data (.int .i64) d.1.2.2.2.2.2.2.2.2.1))], [.cell (.data (.pair (.int .i64) (.pair (.sl false (.sl false (.int .i64))) .unit)) d.2.1)])) (s14_14 N k d.1.2.1 d.1.2.2.1 d.1.2.2.2.1 d.1.2.2.2.2.2.1 d.1.2.2.2.2.2.2.1 d.1.2.2.2.2.2.2.2.1 d.1.2.2.2.2.2.2.2.2.1 d.2.1) N d.1.1
theorem s14_7 (N : Nat) {R : Type} (k : AExit → St → Option R) (t1 : List (Int × (List Int × Unit))) (t18 : List (Int × (List Int × Unit))) (t19 : Int) (o0 : (Int × (List (List Int) × Unit))) (kb : List (Nat × AVal) → List Obj → Option R) (x : Int) : codeK (x14 N) (loopAt 7 (loopsOf b14)) (St.of [(1, (.data (.sl false (.pair (.int .i64) (.pair (.sl false (.int .i64)) .unit))) t1)), (20, (.data (.int .i64) x)), (2, (.bptr 0 [])), (18, (.data (.sl false (.pair (.int .i64) (.pair (.sl false (.int .i64)) .unit))) t18)), (19, (.data (.int .i64) t19))] [.cell (.data (.pair (.int .i64) (.pair (.sl false (.sl false (.int .i64))) .unit)) o0)]) (kLoop (x14 N) 7 ⟨[1, 20, 2, 18, 19], []⟩ kb k) = f14_L7 N t1 t18 t19 o0 (fun y => kb [(1, (.data (.sl false (.pair (.int .i64) (.pair (.sl false (.int .i64)) .unit))) t1)), (20, (.data (.int .i64) y)), (2, (.bptr 0 [])), (18, (.data (.sl false (.pair (.int .i64) (.pair (.sl false (.int .i64)) .unit))) t18)), (19, (.data (.int .i64) t19))] [.cell (.data (.pair (.int .i64) (.pair (.sl false (.sl false (.int .i64))) .unit)) o0)])
    (fun y0 => k .ret (St.of [(4, (.data (.int .i64) y0))] []))
    (fun _ => k (.exit 0) (St.of [] [])) x := by kernel_rfl
theorem l14_7 (N : Nat) : LoopOK (x14 N) (loopAt 7 (loopsOf b14)) :=
  loop_mk (G14_7 N) (by kernel_rfl) (by kernel_rfl) (by kernel_rfl) fun R k d =>
    loop_eq (st := fun (x : Int) => ([(1, (.data (.sl false (.pair (.int .i64) (.pair (.sl false (.int .i64)) .unit))) d.1.1)), (20, (.data (.int .i64) x)), (2, (.bptr 0 [])), (18, (.data (.sl false (.pair (.int .i64) (.pair (.sl false (.int .i64)) .unit))) d.1.2.2.2.1)), (19, (.data (.int .i64) d.1.2.2.2.2.1))], [.cell (.data (.pair (.int .i64) (.pair (.sl false (.sl false (.int .i64))) .unit)) d.2.1)])) (s14_7 N k d.1.1 d.1.2.2.2.1 d.1.2.2.2.2.1 d.2.1) N d.1.2.1
theorem e14 (N : Nat) (a0 : (Int × (List (List Int) × Unit))) (a1 : List (Int × (List Int × Unit))) : bodyK (x14 N) [(.int .i64)] [.tmp 4] b14 (entry (.pr (.val (.pair (.int .i64) (.pair (.sl false (.sl false (.int .i64))) .unit))) (.pr (.val (.sl false (.pair (.int .i64) (.pair (.sl false (.int .i64)) .unit)))) .un)) (a0, (a1, ()))) = f14 N a0 a1 := by kernel_rfl
theorem k14 (N : Nat) : CalleeOK Go.Proofs.Try.prog 14 (c14 N) :=
  fn_ok (fn := Go.Proofs.Try.f14) (body := b14) (c := x14 N) Go.Proofs.Try.func14 (by kernel_rfl) (by kernel_rfl) ⟨ttL_ok, mtL_ok, eqL_ok, env_cons (forall_mem1 (k18 N)) (env_cons (forall_mem1 (k26 N)) (env_nil))⟩ mixed (by kernel_rfl) (Nat.le_of_ble_eq_true (by kernel_rfl)) (by kernel_rfl) (by decide)
    (loops_ok (by kernel_rfl : loopsOf b14 = [loopAt 7 (loopsOf b14), loopAt 14 (loopsOf b14)]) (.cons (l14_7 N) (.cons (l14_14 N) .nil))) fun d => e14 N d.1 d.2.1
/-! ### 3: keyhole/keyholelaw42.StrategyCheck -/
def f3 (N : Nat) (a0 : (Int × (List (List Int) × Unit))) (a1 : List (Int × (List Int × Unit))) : Option (Bool) :=
  (f12 N).bind fun r =>
  cond (!r)
    (some false)
    ((f13 N a0 a1 70 300).bind fun r_1 =>
    cond (!r_1)
      (some true)
      ((f14 N a0 a1).bind fun r_2 =>
      (f15 N a0 a1).bind fun r_3 =>
      (f16 N a0 a1).bind fun r_4 =>
      (f17 N a0).bind fun r_5 =>
      (f18 N a0).bind fun r_6 =>
      (cond (!(decide (r_5 = r_6)))
          (some true)
          ((f19 N a0 a1).bind fun r_7 =>
          some (!(decide (r_7 = r_2))))).bind fun b =>
      (cond b
          (some true)
          (some (!(decide (r_3.2 = r_2))))).bind fun b_1 =>
      (cond b_1
          (some true)
          (some (!(decide (r_4.2 = r_2))))).bind fun b_2 =>
      cond b_2
        (some false)
        ((cond (decide (r_2 = 0))
            (some true)
            ((cond (decide ((len r_3.1) = 0))
                (some (decide (r_4.1 = 0)))
                (some false)).bind fun b_3 =>
            some b_3)).bind fun b_4 =>
        some b_4)))
def c3 (N : Nat) : Callee := .pure (.pr (.val (.pair (.int .i64) (.pair (.sl false (.sl false (.int .i64))) .unit))) (.pr (.val (.sl false (.pair (.int .i64) (.pair (.sl false (.int .i64)) .unit)))) .un)) [.bool] fun d => f3 N d.1 d.2.1
def lp3 (N : Nat) : Nat → Option LoopFn := fun r => none
def x3 (N : Nat) : Ctx := { fuel := N, tt := getL ttL, mt := getL mtL, ntmps := 64, env := fun f => (getL [(12, [c12 N]), (13, [c13 N]), (14, [c14 N]), (15, [c15 N]), (16, [c16 N]), (17, [c17 N]), (18, [c18 N]), (19, [c19 N])] f).getD [], cut := getL [], exits := fun r => getL ((getL [] r).getD []), res := ⟨[4], []⟩, own := fun _ => none, lp := lp3 N, eqs := fun T => memN T eqL }
noncomputable def b3 : Code := ((Go.Proofs.Try.f3).body).getD .skip
theorem e3 (N : Nat) (a0 : (Int × (List (List Int) × Unit))) (a1 : List (Int × (List Int × Unit))) : bodyK (x3 N) [.bool] [.tmp 4] b3 (entry (.pr (.val (.pair (.int .i64) (.pair (.sl false (.sl false (.int .i64))) .unit))) (.pr (.val (.sl false (.pair (.int .i64) (.pair (.sl false (.int .i64)) .unit)))) .un)) (a0, (a1, ()))) = f3 N a0 a1 := by kernel_rfl
theorem k3 (N : Nat) : CalleeOK Go.Proofs.Try.prog 3 (c3 N) :=
  fn_ok (fn := Go.Proofs.Try.f3) (body := b3) (c := x3 N) Go.Proofs.Try.func3 (by kernel_rfl) (by kernel_rfl) ⟨ttL_ok, mtL_ok, eqL_ok, env_cons (forall_mem1 (k12 N)) (env_cons (forall_mem1 (k13 N)) (env_cons (forall_mem1 (k14 N)) (env_cons (forall_mem1 (k15 N)) (env_cons (forall_mem1 (k16 N)) (env_cons (forall_mem1 (k17 N)) (env_cons (forall_mem1 (k18 N)) (env_cons (forall_mem1 (k19 N)) (env_nil))))))))⟩ mixed (by kernel_rfl) (Nat.le_of_ble_eq_true (by kernel_rfl)) (by kernel_rfl) (by decide)
    (loops_ok (by kernel_rfl : loopsOf b3 = []) .nil) fun d => e3 N d.1 d.2.1
/-! ### 20: keyhole/keyholelaw42.Run -/
def f20_L3 {R : Type} (N : Nat) (t2 : Int) (t1 : List (Int × (List Int × Unit))) (o1 : (Int × (List (List Int) × Unit))) (kb : Int × (List (Int × (Int × Unit))) → Option R) (kx0 : (List (Int × (Int × Unit))) → Option R) : Int × (List (Int × (Int × Unit))) → Option R :=
  fun (t8, o0) =>
    (cond (!(decide (t8 = (-1))))
        (some (decide (t8 < (len t1))))
        (some false)).bind fun b =>
    cond b
      ((idx t1 t8).bind fun x =>
      (idx o1.2.1 x.1).bind fun x_1 =>
      (idx x_1 t2).bind fun x_2 =>
      chk (decide ((o0.length.succ) ≤ room)) <|
      (idx x.2.1 x_2).bind fun x_3 =>
      kb (x_3, (o0 ++ ((x.1, (x_2, ())) :: ([] : List (Int × (Int × Unit)))))))
      (kx0 o0)
def f20 (N : Nat) (a0 : (Int × (List (List Int) × Unit))) (a1 : List (Int × (List Int × Unit))) (a2 : Int) : Option (List (Int × (Int × Unit))) :=
  iter (fun w => f20_L3 N a2 a1 a0 w
    (fun o0_1 =>
      some o0_1)) N (0, ([] : List (Int × (Int × Unit))))
def c20 (N : Nat) : Callee := .pure (.pr (.val (.pair (.int .i64) (.pair (.sl false (.sl false (.int .i64))) .unit))) (.pr (.val (.sl false (.pair (.int .i64) (.pair (.sl false (.int .i64)) .unit)))) (.pr (.val (.int .i64)) .un))) [(.sl true (.pair (.int .i64) (.pair (.int .i64) .unit)))] fun d => f20 N d.1 d.2.1 d.2.2.1
def F20_3 : SForm := ⟨[(7, (.ref 0)), (2, (.val (.int .i64))), (3, (.bptr 1 [])), (8, (.val (.int .i64))), (1, (.val (.sl false (.pair (.int .i64) (.pair (.sl false (.int .i64)) .unit)))))], [.row (.pair (.int .i64) (.pair (.int .i64) .unit)), .cell (.val (.pair (.int .i64) (.pair (.sl false (.sl false (.int .i64))) .unit)))]⟩
def G20_3 (N : Nat) : (R : Type) → F20_3.den → (AExit → St → Option R) → Option R := fun R d k => iter (fun kb => f20_L3 N d.1.2.1 d.1.2.2.2.2.1 d.2.2.1 kb
    (fun y0 => k (.exit 0) (St.of [(7, (.ref 0 [] 0))] [.row (.pair (.int .i64) (.pair (.int .i64) .unit)) y0 0]))) N (d.1.2.2.2.1, d.2.1)
def lp20 (N : Nat) : Nat → Option LoopFn := fun r => cond (Nat.beq r 3) (some fun R sl os k => F20_3.take sl os fun d => G20_3 N R d k) (none)
def x20 (N : Nat) : Ctx := { fuel := N, tt := getL ttL, mt := getL mtL, ntmps := 46, env := fun f => (getL [] f).getD [], cut := getL [(3, ⟨[7, 2, 3, 8, 1], []⟩)], exits := fun r => getL ((getL [(3, [(0, ⟨[7], []⟩)])] r).getD []), res := ⟨[6], []⟩, own := fun _ => none, lp := lp20 N, eqs := fun T => memN T eqL }
noncomputable def b20 : Code := ((Go.Proofs.Try.f20).body).getD .skip
theorem s20_3 (N : Nat) {R : Type} (k : AExit → St → Option R) (t2 : Int) (t1 : List (Int × (List Int × Unit))) (o1 : (Int × (List (List Int) × Unit))) (kb : List (Nat × AVal) → List Obj → Option R) (x : Int × (List (Int × (Int × Unit)))) : codeK (x20 N) (loopAt 3 (loopsOf b20)) (St.of [(7, (.ref 0 [] 0)), (2, (.data (.int .i64) t2)), (3, (.bptr 1 [])), (8, (.data (.int .i64) x.1)), (1, (.data (.sl false (.pair (.int .i64) (.pair (.sl false (.int .i64)) .unit))) t1))] [.row (.pair (.int .i64) (.pair (.int .i64) .unit)) x.2 0, .cell (.data (.pair (.int .i64) (.pair (.sl false (.sl false (.int .i64))) .unit)) o1)]) (kLoop (x20 N) 3 ⟨[7, 2, 3, 8, 1], []⟩ kb k) = f20_L3 N t2 t1 o1 (fun y => kb [(7, (.ref 0 [] 0)), (2, (.data (.int .i64) t2)), (3, (.bptr 1 [])), (8, (.data (.int .i64) y.1)), (1, (.data (.sl false (.pair (.int .i64) (.pair (.sl false (.int .i64)) .unit))) t1))] [.row (.pair (.int .i64) (.pair (.int .i64) .unit)) y.2 0, .cell (.data (.pair (.int .i64) (.pair (.sl false (.sl false (.int .i64))) .unit)) o1)])
    (fun y0 => k (.exit 0) (St.of [(7, (.ref 0 [] 0))] [.row (.pair (.int .i64) (.pair (.int .i64) .unit)) y0 0])) x := by kernel_rfl
theorem l20_3 (N : Nat) : LoopOK (x20 N) (loopAt 3 (loopsOf b20)) :=
  loop_mk (G20_3 N) (by kernel_rfl) (by kernel_rfl) (by kernel_rfl) fun R k d =>
    loop_eq (st := fun (x : Int × (List (Int × (Int × Unit)))) => ([(7, (.ref 0 [] 0)), (2, (.data (.int .i64) d.1.2.1)), (3, (.bptr 1 [])), (8, (.data (.int .i64) x.1)), (1, (.data (.sl false (.pair (.int .i64) (.pair (.sl false (.int .i64)) .unit))) d.1.2.2.2.2.1))], [.row (.pair (.int .i64) (.pair (.int .i64) .unit)) x.2 0, .cell (.data (.pair (.int .i64) (.pair (.sl false (.sl false (.int .i64))) .unit)) d.2.2.1)])) (s20_3 N k d.1.2.1 d.1.2.2.2.2.1 d.2.2.1) N (d.1.2.2.2.1, d.2.1)
theorem e20 (N : Nat) (a0 : (Int × (List (List Int) × Unit))) (a1 : List (Int × (List Int × Unit))) (a2 : Int) : bodyK (x20 N) [(.sl true (.pair (.int .i64) (.pair (.int .i64) .unit)))] [.tmp 6] b20 (entry (.pr (.val (.pair (.int .i64) (.pair (.sl false (.sl false (.int .i64))) .unit))) (.pr (.val (.sl false (.pair (.int .i64) (.pair (.sl false (.int .i64)) .unit)))) (.pr (.val (.int .i64)) .un))) (a0, (a1, (a2, ())))) = f20 N a0 a1 a2 := by kernel_rfl
theorem k20 (N : Nat) : CalleeOK Go.Proofs.Try.prog 20 (c20 N) :=
  fn_ok (fn := Go.Proofs.Try.f20) (body := b20) (c := x20 N) Go.Proofs.Try.func20 (by kernel_rfl) (by kernel_rfl) ⟨ttL_ok, mtL_ok, eqL_ok, env_nil⟩ mixed (by kernel_rfl) (Nat.le_of_ble_eq_true (by kernel_rfl)) (by kernel_rfl) (by decide)
    (loops_ok (by kernel_rfl : loopsOf b20 = [loopAt 3 (loopsOf b20)]) (.cons (l20_3 N) .nil)) fun d => e20 N d.1 d.2.1 d.2.2.1
/-! ### 46: keyhole/keyholelaw42.Split$1 -/
def f46 (N : Nat) (a0 : Int) (a1 : Int) (a2 : List (List (Int × (Int × Unit)))) : Option (Bool) :=
  (idx a2 a0).bind fun x =>
  (idx a2 a1).bind fun x_1 =>
  (f34 N x x_1).bind fun r =>
  some r
def c46 (N : Nat) : Callee := .pure (.pr (.val (.int .i64)) (.pr (.val (.int .i64)) (.pr (.val (.ptr (.sl false (.sl false (.pair (.int .i64) (.pair (.int .i64) .unit)))))) .un))) [.bool] fun d => f46 N d.1 d.2.1 d.2.2.1
def lp46 (N : Nat) : Nat → Option LoopFn := fun r => none
def x46 (N : Nat) : Ctx := { fuel := N, tt := getL ttL, mt := getL mtL, ntmps := 15, env := fun f => (getL [(34, [c34 N])] f).getD [], cut := getL [], exits := fun r => getL ((getL [] r).getD []), res := ⟨[5], []⟩, own := fun _ => none, lp := lp46 N, eqs := fun T => memN T eqL }
noncomputable def b46 : Code := ((Go.Proofs.Try.f46).body).getD .skip
theorem e46 (N : Nat) (a0 : Int) (a1 : Int) (a2 : List (List (Int × (Int × Unit)))) : bodyK (x46 N) [.bool] [.tmp 5] b46 (entry (.pr (.val (.int .i64)) (.pr (.val (.int .i64)) (.pr (.val (.ptr (.sl false (.sl false (.pair (.int .i64) (.pair (.int .i64) .unit)))))) .un))) (a0, (a1, (a2, ())))) = f46 N a0 a1 a2 := by kernel_rfl
theorem k46 (N : Nat) : CalleeOK Go.Proofs.Try.prog 46 (c46 N) :=
  fn_ok (fn := Go.Proofs.Try.f46) (body := b46) (c := x46 N) Go.Proofs.Try.func46 (by kernel_rfl) (by kernel_rfl) ⟨ttL_ok, mtL_ok, eqL_ok, env_cons (forall_mem1 (k34 N)) (env_nil)⟩ mixed (by kernel_rfl) (Nat.le_of_ble_eq_true (by kernel_rfl)) (by kernel_rfl) (by decide)
    (loops_ok (by kernel_rfl : loopsOf b46 = []) .nil) fun d => e46 N d.1 d.2.1 d.2.2.1
/-! ### 31: keyhole/keyholelaw42.Label -/
def f31_L7 {R : Type} (N : Nat) (t7_1 : Int) (t1_1 : (List (List (Int × (Int × Unit))) × Unit)) (t0_1 : Int) (t6_1 : Int) (o0_1 : List Int) (kb : Int × Int → Option R) (kx2 : Int → Option R) : Int × Int → Option R :=
  fun (t9, t8) =>
    (cond (decide (t9 < t7_1))
        (some (decide (t8 < 0)))
        (some false)).bind fun b =>
    cond b
      ((f46 N t7_1 t9 t1_1.1).bind fun r =>
      cond r
        (chk (inb o0_1 t9) <|
        (idx o0_1 t9).bind fun x =>
        kb ((wi64 (t9 + 1)), x))
        (kb ((wi64 (t9 + 1)), t8)))
      (kx2 t8)
def f31_L3 {R : Type} (N : Nat) (t1 : (List (List (Int × (Int × Unit))) × Unit)) (t0 : Int) (kb : Int × Int × List Int → Option R) (kx0 : (List Int) → Option R) : Int × Int × List Int → Option R :=
  fun (t7, t6, o0) =>
    cond (decide (t7 < t0))
      (iter (fun w => f31_L7 N t7 t1 t0 t6 o0 w
        (fun t8_1 =>
          cond (decide (t8_1 < 0))
            (chk (decide ((o0.length.succ) ≤ room)) <|
            kb ((wi64 (t7 + 1)), (wi64 (t6 + 1)), (o0 ++ (t6 :: ([] : List Int)))))
            (chk (decide ((o0.length.succ) ≤ room)) <|
            kb ((wi64 (t7 + 1)), t6, (o0 ++ (t8_1 :: ([] : List Int))))))) N (0, (-1)))
      (kx0 o0)
def f31 (N : Nat) (a0 : Int) (a1 : (List (List (Int × (Int × Unit))) × Unit)) : Option (List Int) :=
  iter (fun w => f31_L3 N a1 a0 w
    (fun o0_2 =>
      some o0_2)) N (0, 0, ([] : List Int))
def c31 (N : Nat) : Callee := .pure (.pr (.val (.int .i64)) (.pr (.val (.fn 46 (.pair (.ptr (.sl false (.sl false (.pair (.int .i64) (.pair (.int .i64) .unit))))) .unit))) .un)) [(.sl true (.int .i64))] fun d => f31 N d.1 d.2.1
def F31_7 : SForm := ⟨[(9, (.val (.int .i64))), (5, (.ref 0)), (7, (.val (.int .i64))), (1, (.val (.fn 46 (.pair (.ptr (.sl false (.sl false (.pair (.int .i64) (.pair (.int .i64) .unit))))) .unit)))), (0, (.val (.int .i64))), (6, (.val (.int .i64))), (8, (.val (.int .i64)))], [.row (.int .i64)]⟩
def G31_7 (N : Nat) : (R : Type) → F31_7.den → (AExit → St → Option R) → Option R := fun R d k => iter (fun kb => f31_L7 N d.1.2.2.1 d.1.2.2.2.1 d.1.2.2.2.2.1 d.1.2.2.2.2.2.1 d.2.1 kb
    (fun y4 => k (.exit 2) (St.of [(1, (.data (.fn 46 (.pair (.ptr (.sl false (.sl false (.pair (.int .i64) (.pair (.int .i64) .unit))))) .unit)) d.1.2.2.2.1)), (0, (.data (.int .i64) d.1.2.2.2.2.1)), (7, (.data (.int .i64) d.1.2.2.1)), (5, (.ref 0 [] 0)), (6, (.data (.int .i64) d.1.2.2.2.2.2.1)), (8, (.data (.int .i64) y4))] [.row (.int .i64) d.2.1 0]))) N (d.1.1, d.1.2.2.2.2.2.2.1)
def F31_3 : SForm := ⟨[(5, (.ref 0)), (7, (.val (.int .i64))), (1, (.val (.fn 46 (.pair (.ptr (.sl false (.sl false (.pair (.int .i64) (.pair (.int .i64) .unit))))) .unit)))), (6, (.val (.int .i64))), (0, (.val (.int .i64)))], [.row (.int .i64)]⟩
def G31_3 (N : Nat) : (R : Type) → F31_3.den → (AExit → St → Option R) → Option R := fun R d k => iter (fun kb => f31_L3 N d.1.2.2.1 d.1.2.2.2.2.1 kb
    (fun y0 => k (.exit 0) (St.of [(5, (.ref 0 [] 0))] [.row (.int .i64) y0 0]))) N (d.1.2.1, d.1.2.2.2.1, d.2.1)
def lp31 (N : Nat) : Nat → Option LoopFn := fun r => cond (Nat.beq r 7) (some fun R sl os k => F31_7.take sl os fun d => G31_7 N R d k) (cond (Nat.beq r 3) (some fun R sl os k => F31_3.take sl os fun d => G31_3 N R d k) (none))
def x31 (N : Nat) : Ctx := { fuel := N, tt := getL ttL, mt := getL mtL, ntmps := 43, env := fun f => (getL [(46, [c46 N])] f).getD [], cut := getL [(3, ⟨[5, 7, 1, 6, 0], []⟩), (7, ⟨[9, 5, 7, 1, 0, 6, 8], []⟩)], exits := fun r => getL ((getL [(3, [(0, ⟨[5], []⟩)]), (7, [(2, ⟨[1, 0, 7, 5, 6, 8], []⟩)])] r).getD []), res := ⟨[4], []⟩, own := fun _ => none, lp := lp31 N, eqs := fun T => memN T eqL }
noncomputable def b31 : Code := ((Go.Proofs.Try.f31).body).getD .skip
theorem s31_7 (N : Nat) {R : Type} (k : AExit → St → Option R) (t7_1 : Int) (t1_1 : (List (List (Int × (Int × Unit))) × Unit)) (t0_1 : Int) (t6_1 : Int) (o0_1 : List Int) (kb : List (Nat × AVal) → List Obj → Option R) (x : Int × Int) : codeK (x31 N) (loopAt 7 (loopsOf b31)) (St.of [(9, (.data (.int .i64) x.1)), (5, (.ref 0 [] 0)), (7, (.data (.int .i64) t7_1)), (1, (.data (.fn 46 (.pair (.ptr (.sl false (.sl false (.pair (.int .i64) (.pair (.int .i64) .unit))))) .unit)) t1_1)), (0, (.data (.int .i64) t0_1)), (6, (.data (.int .i64) t6_1)), (8, (.data (.int .i64) x.2))] [.row (.int .i64) o0_1 0]) (kLoop (x31 N) 7 ⟨[9, 5, 7, 1, 0, 6, 8], []⟩ kb k) = f31_L7 N t7_1 t1_1 t0_1 t6_1 o0_1 (fun y => kb [(9, (.data (.int .i64) y.1)), (5, (.ref 0 [] 0)), (7, (.data (.int .i64) t7_1)), (1, (.data (.fn 46 (.pair (.ptr (.sl false (.sl false (.pair (.int .i64) (.pair (.int .i64) .unit))))) .unit)) t1_1)), (0, (.data (.int .i64) t0_1)), (6, (.data (.int .i64) t6_1)), (8, (.data (.int .i64) y.2))] [.row (.int .i64) o0_1 0])
    (fun y4 => k (.exit 2) (St.of [(1, (.data (.fn 46 (.pair (.ptr (.sl false (.sl false (.pair (.int .i64) (.pair (.int .i64) .unit))))) .unit)) t1_1)), (0, (.data (.int .i64) t0_1)), (7, (.data (.int .i64) t7_1)), (5, (.ref 0 [] 0)), (6, (.data (.int .i64) t6_1)), (8, (.data (.int .i64) y4))] [.row (.int .i64) o0_1 0])) x := by kernel_rfl
theorem l31_7 (N : Nat) : LoopOK (x31 N) (loopAt 7 (loopsOf b31)) :=
  loop_mk (G31_7 N) (by kernel_rfl) (by kernel_rfl) (by kernel_rfl) fun R k d =>
    loop_eq (st := fun (x : Int × Int) => ([(9, (.data (.int .i64) x.1)), (5, (.ref 0 [] 0)), (7, (.data (.int .i64) d.1.2.2.1)), (1, (.data (.fn 46 (.pair (.ptr (.sl false (.sl false (.pair (.int .i64) (.pair (.int .i64) .unit))))) .unit)) d.1.2.2.2.1)), (0, (.data (.int .i64) d.1.2.2.2.2.1)), (6, (.data (.int .i64) d.1.2.2.2.2.2.1)), (8, (.data (.int .i64) x.2))], [.row (.int .i64) d.2.1 0])) (s31_7 N k d.1.2.2.1 d.1.2.2.2.1 d.1.2.2.2.2.1 d.1.2.2.2.2.2.1 d.2.1) N (d.1.1, d.1.2.2.2.2.2.2.1)
theorem s31_3 (N : Nat) {R : Type} (k : AExit → St → Option R) (t1 : (List (List (Int × (Int × Unit))) × Unit)) (t0 : Int) (kb : List (Nat × AVal) → List Obj → Option R) (x : Int × Int × List Int) : codeK (x31 N) (loopAt 3 (loopsOf b31)) (St.of [(5, (.ref 0 [] 0)), (7, (.data (.int .i64) x.1)), (1, (.data (.fn 46 (.pair (.ptr (.sl false (.sl false (.pair (.int .i64) (.pair (.int .i64) .unit))))) .unit)) t1)), (6, (.data (.int .i64) x.2.1)), (0, (.data (.int .i64) t0))] [.row (.int .i64) x.2.2 0]) (kLoop (x31 N) 3 ⟨[5, 7, 1, 6, 0], []⟩ kb k) = f31_L3 N t1 t0 (fun y => kb [(5, (.ref 0 [] 0)), (7, (.data (.int .i64) y.1)), (1, (.data (.fn 46 (.pair (.ptr (.sl false (.sl false (.pair (.int .i64) (.pair (.int .i64) .unit))))) .unit)) t1)), (6, (.data (.int .i64) y.2.1)), (0, (.data (.int .i64) t0))] [.row (.int .i64) y.2.2 0])
    (fun y0 => k (.exit 0) (St.of [(5, (.ref 0 [] 0))] [.row (.int .i64) y0 0])) x := by kernel_rfl
theorem l31_3 (N : Nat) : LoopOK (x31 N) (loopAt 3 (loopsOf b31)) :=
  loop_mk (G31_3 N) (by kernel_rfl) (by kernel_rfl) (by kernel_rfl) fun R k d =>
    loop_eq (st := fun (x : Int × Int × List Int) => ([(5, (.ref 0 [] 0)), (7, (.data (.int .i64) x.1)), (1, (.data (.fn 46 (.pair (.ptr (.sl false (.sl false (.pair (.int .i64) (.pair (.int .i64) .unit))))) .unit)) d.1.2.2.1)), (6, (.data (.int .i64) x.2.1)), (0, (.data (.int .i64) d.1.2.2.2.2.1))], [.row (.int .i64) x.2.2 0])) (s31_3 N k d.1.2.2.1 d.1.2.2.2.2.1) N (d.1.2.1, d.1.2.2.2.1, d.2.1)
theorem e31 (N : Nat) (a0 : Int) (a1 : (List (List (Int × (Int × Unit))) × Unit)) : bodyK (x31 N) [(.sl true (.int .i64))] [.tmp 4] b31 (entry (.pr (.val (.int .i64)) (.pr (.val (.fn 46 (.pair (.ptr (.sl false (.sl false (.pair (.int .i64) (.pair (.int .i64) .unit))))) .unit))) .un)) (a0, (a1, ()))) = f31 N a0 a1 := by kernel_rfl
theorem k31 (N : Nat) : CalleeOK Go.Proofs.Try.prog 31 (c31 N) :=
  fn_ok (fn := Go.Proofs.Try.f31) (body := b31) (c := x31 N) Go.Proofs.Try.func31 (by kernel_rfl) (by kernel_rfl) ⟨ttL_ok, mtL_ok, eqL_ok, env_cons (forall_mem1 (k46 N)) (env_nil)⟩ mixed (by kernel_rfl) (Nat.le_of_ble_eq_true (by kernel_rfl)) (by kernel_rfl) (by decide)
    (loops_ok (by kernel_rfl : loopsOf b31 = [loopAt 3 (loopsOf b31), loopAt 7 (loopsOf b31)]) (.cons (l31_3 N) (.cons (l31_7 N) .nil))) fun d => e31 N d.1 d.2.1
/-! ### 22: keyhole/keyholelaw42.Split -/
def f22_L3 {R : Type} (N : Nat) (t1 : List (Int × (List Int × Unit))) (o2 : (Int × (List (List Int) × Unit))) (kb : Int × (List (List (Int × (Int × Unit)))) → Option R) (kx0 : (List (List (Int × (Int × Unit)))) → Option R) : Int × (List (List (Int × (Int × Unit)))) → Option R :=
  fun (t6, o1) =>
    cond (decide (t6 < o2.1))
      ((f20 N o2 t1 t6).bind fun r =>
      chk (decide ((o1.length.succ) ≤ room)) <|
      kb ((wi64 (t6 + 1)), (o1 ++ (r :: ([] : List (List (Int × (Int × Unit))))))))
      (kx0 o1)
def f22 (N : Nat) (a0 : (Int × (List (List Int) × Unit))) (a1 : List (Int × (List Int × Unit))) : Option (List Int) :=
  iter (fun w => f22_L3 N a1 a0 w
    (fun o1_1 =>
      (f31 N a0.1 (o1_1, ())).bind fun r_1 =>
      some r_1)) N (0, ([] : List (List (Int × (Int × Unit)))))
def c22 (N : Nat) : Callee := .pure (.pr (.val (.pair (.int .i64) (.pair (.sl false (.sl false (.int .i64))) .unit))) (.pr (.val (.sl false (.pair (.int .i64) (.pair (.sl false (.int .i64)) .unit)))) .un)) [(.sl true (.int .i64))] fun d => f22 N d.1 d.2.1
def F22_3 : SForm := ⟨[(6, (.val (.int .i64))), (5, (.bptr 0 [])), (1, (.val (.sl false (.pair (.int .i64) (.pair (.sl false (.int .i64)) .unit))))), (2, (.bptr 2 []))], [.cell (.ref 1), .row (.sl false (.pair (.int .i64) (.pair (.int .i64) .unit))), .cell (.val (.pair (.int .i64) (.pair (.sl false (.sl false (.int .i64))) .unit)))]⟩
def G22_3 (N : Nat) : (R : Type) → F22_3.den → (AExit → St → Option R) → Option R := fun R d k => iter (fun kb => f22_L3 N d.1.2.2.1 d.2.2.2.1 kb
    (fun y0 => k (.exit 0) (St.of [(5, (.bptr 0 [])), (2, (.bptr 2 []))] [.cell (.ref 1 [] 0), .row (.sl false (.pair (.int .i64) (.pair (.int .i64) .unit))) y0 0, .cell (.data (.pair (.int .i64) (.pair (.sl false (.sl false (.int .i64))) .unit)) d.2.2.2.1)]))) N (d.1.1, d.2.2.1)
def lp22 (N : Nat) : Nat → Option LoopFn := fun r => cond (Nat.beq r 3) (some fun R sl os k => F22_3.take sl os fun d => G22_3 N R d k) (none)
def x22 (N : Nat) : Ctx := { fuel := N, tt := getL ttL, mt := getL mtL, ntmps := 25, env := fun f => (getL [(20, [c20 N]), (31, [c31 N])] f).getD [], cut := getL [(3, ⟨[6, 5, 1, 2], []⟩)], exits := fun r => getL ((getL [(3, [(0, ⟨[5, 2], []⟩)])] r).getD []), res := ⟨[4], []⟩, own := fun _ => none, lp := lp22 N, eqs := fun T => memN T eqL }
noncomputable def b22 : Code := ((Go.Proofs.Try.f22).body).getD .skip
theorem s22_3 (N : Nat) {R : Type} (k : AExit → St → Option R) (t1 : List (Int × (List Int × Unit))) (o2 : (Int × (List (List Int) × Unit))) (kb : List (Nat × AVal) → List Obj → Option R) (x : Int × (List (List (Int × (Int × Unit))))) : codeK (x22 N) (loopAt 3 (loopsOf b22)) (St.of [(6, (.data (.int .i64) x.1)), (5, (.bptr 0 [])), (1, (.data (.sl false (.pair (.int .i64) (.pair (.sl false (.int .i64)) .unit))) t1)), (2, (.bptr 2 []))] [.cell (.ref 1 [] 0), .row (.sl false (.pair (.int .i64) (.pair (.int .i64) .unit))) x.2 0, .cell (.data (.pair (.int .i64) (.pair (.sl false (.sl false (.int .i64))) .unit)) o2)]) (kLoop (x22 N) 3 ⟨[6, 5, 1, 2], []⟩ kb k) = f22_L3 N t1 o2 (fun y => kb [(6, (.data (.int .i64) y.1)), (5, (.bptr 0 [])), (1, (.data (.sl false (.pair (.int .i64) (.pair (.sl false (.int .i64)) .unit))) t1)), (2, (.bptr 2 []))] [.cell (.ref 1 [] 0), .row (.sl false (.pair (.int .i64) (.pair (.int .i64) .unit))) y.2 0, .cell (.data (.pair (.int .i64) (.pair (.sl false (.sl false (.int .i64))) .unit)) o2)])
    (fun y0 => k (.exit 0) (St.of [(5, (.bptr 0 [])), (2, (.bptr 2 []))] [.cell (.ref 1 [] 0), .row (.sl false (.pair (.int .i64) (.pair (.int .i64) .unit))) y0 0, .cell (.data (.pair (.int .i64) (.pair (.sl false (.sl false (.int .i64))) .unit)) o2)])) x := by kernel_rfl
theorem l22_3 (N : Nat) : LoopOK (x22 N) (loopAt 3 (loopsOf b22)) :=
  loop_mk (G22_3 N) (by kernel_rfl) (by kernel_rfl) (by kernel_rfl) fun R k d =>
    loop_eq (st := fun (x : Int × (List (List (Int × (Int × Unit))))) => ([(6, (.data (.int .i64) x.1)), (5, (.bptr 0 [])), (1, (.data (.sl false (.pair (.int .i64) (.pair (.sl false (.int .i64)) .unit))) d.1.2.2.1)), (2, (.bptr 2 []))], [.cell (.ref 1 [] 0), .row (.sl false (.pair (.int .i64) (.pair (.int .i64) .unit))) x.2 0, .cell (.data (.pair (.int .i64) (.pair (.sl false (.sl false (.int .i64))) .unit)) d.2.2.2.1)])) (s22_3 N k d.1.2.2.1 d.2.2.2.1) N (d.1.1, d.2.2.1)
theorem e22 (N : Nat) (a0 : (Int × (List (List Int) × Unit))) (a1 : List (Int × (List Int × Unit))) : bodyK (x22 N) [(.sl true (.int .i64))] [.tmp 4] b22 (entry (.pr (.val (.pair (.int .i64) (.pair (.sl false (.sl false (.int .i64))) .unit))) (.pr (.val (.sl false (.pair (.int .i64) (.pair (.sl false (.int .i64)) .unit)))) .un)) (a0, (a1, ()))) = f22 N a0 a1 := by kernel_rfl
theorem k22 (N : Nat) : CalleeOK Go.Proofs.Try.prog 22 (c22 N) :=
  fn_ok (fn := Go.Proofs.Try.f22) (body := b22) (c := x22 N) Go.Proofs.Try.func22 (by kernel_rfl) (by kernel_rfl) ⟨ttL_ok, mtL_ok, eqL_ok, env_cons (forall_mem1 (k20 N)) (env_cons (forall_mem1 (k31 N)) (env_nil))⟩ mixed (by kernel_rfl) (Nat.le_of_ble_eq_true (by kernel_rfl)) (by kernel_rfl) (by decide)
    (loops_ok (by kernel_rfl : loopsOf b22 = [loopAt 3 (loopsOf b22)]) (.cons (l22_3 N) .nil)) fun d => e22 N d.1 d.2.1
/-! ### 4: keyhole/keyholelaw42.StrategySplit -/
def f4_L9 {R : Type} (N : Nat) (t1 : List (Int × (List Int × Unit))) (t7 : Int) (t8 : Int) (t6 : Int) (o0 : (Int × (List (List Int) × Unit))) (o1 : List Int) (kb : Int × Int → Option R) (kx0 : Int → Option R) : Int × Int → Option R :=
  fun (t10, t9) =>
    cond (decide (t10 < o0.1))
      ((f20 N o0 t1 t10).bind fun r_5 =>
      kb ((wi64 (t10 + 1)), (maxI t9 (len r_5))))
      (kx0 t9)
def f4 (N : Nat) (a0 : (Int × (List (List Int) × Unit))) (a1 : List (Int × (List Int × Unit))) : Option (Bool) :=
  (f12 N).bind fun r =>
  cond (!r)
    (some false)
    ((f13 N a0 a1 62 60).bind fun r_1 =>
    (cond (!r_1)
        (some true)
        ((f14 N a0 a1).bind fun r_2 =>
        some (!(decide (r_2 = 0))))).bind fun b =>
    cond b
      (some true)
      ((f15 N a0 a1).bind fun r_3 =>
      (f16 N a0 a1).bind fun r_4 =>
      iter (fun w => f4_L9 N a1 r_4.1 r_4.2 r_3.2 a0 r_3.1 w
        (fun t9_1 =>
          (cond (decide (r_3.2 = 0))
              ((f22 N a0 a1).bind fun r_6 =>
              (f21 N r_3.1 r_6).bind fun r_7 =>
              some r_7)
              (some false)).bind fun b_1 =>
          (cond b_1
              (some (decide (r_4.2 = 0)))
              (some false)).bind fun b_2 =>
          (cond b_2
              (some (decide (r_4.1 = t9_1)))
              (some false)).bind fun b_3 =>
          some b_3)) N (0, 0)))
def c4 (N : Nat) : Callee := .pure (.pr (.val (.pair (.int .i64) (.pair (.sl false (.sl false (.int .i64))) .unit))) (.pr (.val (.sl false (.pair (.int .i64) (.pair (.sl false (.int .i64)) .unit)))) .un)) [.bool] fun d => f4 N d.1 d.2.1
def F4_9 : SForm := ⟨[(10, (.val (.int .i64))), (1, (.val (.sl false (.pair (.int .i64) (.pair (.sl false (.int .i64)) .unit))))), (2, (.bptr 0 [])), (9, (.val (.int .i64))), (7, (.val (.int .i64))), (8, (.val (.int .i64))), (5, (.ref 1)), (6, (.val (.int .i64)))], [.cell (.val (.pair (.int .i64) (.pair (.sl false (.sl false (.int .i64))) .unit))), .row (.int .i64)]⟩
def G4_9 (N : Nat) : (R : Type) → F4_9.den → (AExit → St → Option R) → Option R := fun R d k => iter (fun kb => f4_L9 N d.1.2.1 d.1.2.2.2.2.1 d.1.2.2.2.2.2.1 d.1.2.2.2.2.2.2.2.1 d.2.1 d.2.2.1 kb
    (fun y0 => k (.exit 0) (St.of [(9, (.data (.int .i64) y0)), (7, (.data (.int .i64) d.1.2.2.2.2.1)), (8, (.data (.int .i64) d.1.2.2.2.2.2.1)), (1, (.data (.sl false (.pair (.int .i64) (.pair (.sl false (.int .i64)) .unit))) d.1.2.1)), (2, (.bptr 0 [])), (5, (.ref 1 [] 0)), (6, (.data (.int .i64) d.1.2.2.2.2.2.2.2.1))] [.cell (.data (.pair (.int .i64) (.pair (.sl false (.sl false (.int .i64))) .unit)) d.2.1), .row (.int .i64) d.2.2.1 0]))) N (d.1.1, d.1.2.2.2.1)
def lp4 (N : Nat) : Nat → Option LoopFn := fun r => cond (Nat.beq r 9) (some fun R sl os k => F4_9.take sl os fun d => G4_9 N R d k) (none)
def x4 (N : Nat) : Ctx := { fuel := N, tt := getL ttL, mt := getL mtL, ntmps := 66, env := fun f => (getL [(12, [c12 N]), (13, [c13 N]), (14, [c14 N]), (15, [c15 N]), (16, [c16 N]), (20, [c20 N]), (22, [c22 N]), (21, [c21 N])] f).getD [], cut := getL [(9, ⟨[10, 1, 2, 9, 7, 8, 5, 6], []⟩)], exits := fun r => getL ((getL [(9, [(0, ⟨[9, 7, 8, 1, 2, 5, 6], []⟩)])] r).getD []), res := ⟨[4], []⟩, own := fun _ => none, lp := lp4 N, eqs := fun T => memN T eqL }
noncomputable def b4 : Code := ((Go.Proofs.Try.f4).body).getD .skip
theorem s4_9 (N : Nat) {R : Type} (k : AExit → St → Option R) (t1 : List (Int × (List Int × Unit))) (t7 : Int) (t8 : Int) (t6 : Int) (o0 : (Int × (List (List Int) × Unit))) (o1 : List Int) (kb : List (Nat × AVal) → List Obj → Option R) (x : Int × Int) : codeK (x4 N) (loopAt 9 (loopsOf b4)) (St.of [(10, (.data (.int .i64) x.1)), (1, (.data (.sl false (.pair (.int .i64) (.pair (.sl false (.int .i64)) .unit))) t1)), (2, (.bptr 0 [])), (9, (.data (.int .i64) x.2)), (7, (.data (.int .i64) t7)), (8, (.data (.int .i64) t8)), (5, (.ref 1 [] 0)), (6, (.data (.int .i64) t6))] [.cell (.data (.pair (.int .i64) (.pair (.sl false (.sl false (.int .i64))) .unit)) o0), .row (.int .i64) o1 0]) (kLoop (x4 N) 9 ⟨[10, 1, 2, 9, 7, 8, 5, 6], []⟩ kb k) = f4_L9 N t1 t7 t8 t6 o0 o1 (fun y => kb [(10, (.data (.int .i64) y.1)), (1, (.data (.sl false (.pair (.int .i64) (.pair (.sl false (.int .i64)) .unit))) t1)), (2, (.bptr 0 [])), (9, (.data (.int .i64) y.2)), (7, (.data (.int .i64) t7)), (8, (.data (.int .i64) t8)), (5, (.ref 1 [] 0)), (6, (.data (.int .i64) t6))] [.cell (.data (.pair (.int .i64) (.pair (.sl false (.sl false (.int .i64))) .unit)) o0), .row (.int .i64) o1 0])
    (fun y0 => k (.exit 0) (St.of [(9, (.data (.int .i64) y0)), (7, (.data (.int .i64) t7)), (8, (.data (.int .i64) t8)), (1, (.data (.sl false (.pair (.int .i64) (.pair (.sl false (.int .i64)) .unit))) t1)), (2, (.bptr 0 [])), (5, (.ref 1 [] 0)), (6, (.data (.int .i64) t6))] [.cell (.data (.pair (.int .i64) (.pair (.sl false (.sl false (.int .i64))) .unit)) o0), .row (.int .i64) o1 0])) x := by kernel_rfl
theorem l4_9 (N : Nat) : LoopOK (x4 N) (loopAt 9 (loopsOf b4)) :=
  loop_mk (G4_9 N) (by kernel_rfl) (by kernel_rfl) (by kernel_rfl) fun R k d =>
    loop_eq (st := fun (x : Int × Int) => ([(10, (.data (.int .i64) x.1)), (1, (.data (.sl false (.pair (.int .i64) (.pair (.sl false (.int .i64)) .unit))) d.1.2.1)), (2, (.bptr 0 [])), (9, (.data (.int .i64) x.2)), (7, (.data (.int .i64) d.1.2.2.2.2.1)), (8, (.data (.int .i64) d.1.2.2.2.2.2.1)), (5, (.ref 1 [] 0)), (6, (.data (.int .i64) d.1.2.2.2.2.2.2.2.1))], [.cell (.data (.pair (.int .i64) (.pair (.sl false (.sl false (.int .i64))) .unit)) d.2.1), .row (.int .i64) d.2.2.1 0])) (s4_9 N k d.1.2.1 d.1.2.2.2.2.1 d.1.2.2.2.2.2.1 d.1.2.2.2.2.2.2.2.1 d.2.1 d.2.2.1) N (d.1.1, d.1.2.2.2.1)
theorem e4 (N : Nat) (a0 : (Int × (List (List Int) × Unit))) (a1 : List (Int × (List Int × Unit))) : bodyK (x4 N) [.bool] [.tmp 4] b4 (entry (.pr (.val (.pair (.int .i64) (.pair (.sl false (.sl false (.int .i64))) .unit))) (.pr (.val (.sl false (.pair (.int .i64) (.pair (.sl false (.int .i64)) .unit)))) .un)) (a0, (a1, ()))) = f4 N a0 a1 := by kernel_rfl
theorem k4 (N : Nat) : CalleeOK Go.Proofs.Try.prog 4 (c4 N) :=
  fn_ok (fn := Go.Proofs.Try.f4) (body := b4) (c := x4 N) Go.Proofs.Try.func4 (by kernel_rfl) (by kernel_rfl) ⟨ttL_ok, mtL_ok, eqL_ok, env_cons (forall_mem1 (k12 N)) (env_cons (forall_mem1 (k13 N)) (env_cons (forall_mem1 (k14 N)) (env_cons (forall_mem1 (k15 N)) (env_cons (forall_mem1 (k16 N)) (env_cons (forall_mem1 (k20 N)) (env_cons (forall_mem1 (k22 N)) (env_cons (forall_mem1 (k21 N)) (env_nil))))))))⟩ mixed (by kernel_rfl) (Nat.le_of_ble_eq_true (by kernel_rfl)) (by kernel_rfl) (by decide)
    (loops_ok (by kernel_rfl : loopsOf b4 = [loopAt 9 (loopsOf b4)]) (.cons (l4_9 N) .nil)) fun d => e4 N d.1 d.2.1
/-! ### 24: keyhole/keyholelaw42.Refines -/
def f24_L5 {R : Type} (N : Nat) (t1_1 : List Int) (t5 : Int) (t0_1 : List Int) (t8_1 : Int) (t9_1 : Int) (t13 : Int) (kb : Int → Option R) (kret : Bool → Option R) (kx2 : Unit → Option R) : Int → Option R :=
  fun t14 =>
    cond (decide (t14 < t13))
      ((idx t0_1 t5).bind fun x =>
      (idx t0_1 t14).bind fun x_1 =>
      (cond (decide (x = x_1))
          ((idx t1_1 t5).bind fun x_2 =>
          (idx t1_1 t14).bind fun x_3 =>
          some (!(decide (x_2 = x_3))))
          (some false)).bind fun b =>
      cond b
        (kret false)
        (kb (wi64 (t14 + 1))))
      (kx2 ())
def f24_L2 {R : Type} (N : Nat) (t1 : List Int) (t0 : List Int) (t8 : Int) (kb : Int → Option R) (kret : Bool → Option R) (kx0 : Unit → Option R) : Int → Option R :=
  fun t9 =>
    cond (decide (t9 < t8))
      (iter (fun w => f24_L5 N t1 t9 t0 t8 t9 (len t0) w
        (fun t4 =>
          kret t4)
        (fun (_ : Unit) =>
          kb (wi64 (t9 + 1)))) N 0)
      (kx0 ())
def f24 (N : Nat) (a0 : List Int) (a1 : List Int) : Option (Bool) :=
  iter (fun w => f24_L2 N a1 a0 (len a0) w
    (fun t4_1 =>
      some t4_1)
    (fun (_ : Unit) =>
      some (decide ((len a0) = (len a1))))) N 0
def c24 (N : Nat) : Callee := .pure (.pr (.val (.sl false (.int .i64))) (.pr (.val (.sl false (.int .i64))) .un)) [.bool] fun d => f24 N d.1 d.2.1
def F24_5 : SForm := ⟨[(14, (.val (.int .i64))), (1, (.val (.sl false (.int .i64)))), (5, (.val (.int .i64))), (0, (.val (.sl false (.int .i64)))), (8, (.val (.int .i64))), (9, (.val (.int .i64))), (13, (.val (.int .i64)))], []⟩
def G24_5 (N : Nat) : (R : Type) → F24_5.den → (AExit → St → Option R) → Option R := fun R d k => iter (fun kb => f24_L5 N d.1.2.1 d.1.2.2.1 d.1.2.2.2.1 d.1.2.2.2.2.1 d.1.2.2.2.2.2.1 d.1.2.2.2.2.2.2.1 kb
    (fun y0 => k .ret (St.of [(4, (.data .bool y0))] []))
    (fun _ => k (.exit 2) (St.of [(1, (.data (.sl false (.int .i64)) d.1.2.1)), (0, (.data (.sl false (.int .i64)) d.1.2.2.2.1)), (8, (.data (.int .i64) d.1.2.2.2.2.1)), (9, (.data (.int .i64) d.1.2.2.2.2.2.1))] []))) N d.1.1
def F24_2 : SForm := ⟨[(1, (.val (.sl false (.int .i64)))), (0, (.val (.sl false (.int .i64)))), (9, (.val (.int .i64))), (8, (.val (.int .i64)))], []⟩
def G24_2 (N : Nat) : (R : Type) → F24_2.den → (AExit → St → Option R) → Option R := fun R d k => iter (fun kb => f24_L2 N d.1.1 d.1.2.1 d.1.2.2.2.1 kb
    (fun y0 => k .ret (St.of [(4, (.data .bool y0))] []))
    (fun _ => k (.exit 0) (St.of [(1, (.data (.sl false (.int .i64)) d.1.1)), (0, (.data (.sl false (.int .i64)) d.1.2.1))] []))) N d.1.2.2.1
def lp24 (N : Nat) : Nat → Option LoopFn := fun r => cond (Nat.beq r 5) (some fun R sl os k => F24_5.take sl os fun d => G24_5 N R d k) (cond (Nat.beq r 2) (some fun R sl os k => F24_2.take sl os fun d => G24_2 N R d k) (none))
def x24 (N : Nat) : Ctx := { fuel := N, tt := getL ttL, mt := getL mtL, ntmps := 44, env := fun f => (getL [] f).getD [], cut := getL [(2, ⟨[1, 0, 9, 8], []⟩), (5, ⟨[14, 1, 5, 0, 8, 9, 13], []⟩)], exits := fun r => getL ((getL [(2, [(0, ⟨[1, 0], []⟩)]), (5, [(2, ⟨[1, 0, 8, 9], []⟩)])] r).getD []), res := ⟨[4], []⟩, own := fun _ => none, lp := lp24 N, eqs := fun T => memN T eqL }
noncomputable def b24 : Code := ((Go.Proofs.Try.f24).body).getD .skip
theorem s24_5 (N : Nat) {R : Type} (k : AExit → St → Option R) (t1_1 : List Int) (t5 : Int) (t0_1 : List Int) (t8_1 : Int) (t9_1 : Int) (t13 : Int) (kb : List (Nat × AVal) → List Obj → Option R) (x : Int) : codeK (x24 N) (loopAt 5 (loopsOf b24)) (St.of [(14, (.data (.int .i64) x)), (1, (.data (.sl false (.int .i64)) t1_1)), (5, (.data (.int .i64) t5)), (0, (.data (.sl false (.int .i64)) t0_1)), (8, (.data (.int .i64) t8_1)), (9, (.data (.int .i64) t9_1)), (13, (.data (.int .i64) t13))] []) (kLoop (x24 N) 5 ⟨[14, 1, 5, 0, 8, 9, 13], []⟩ kb k) = f24_L5 N t1_1 t5 t0_1 t8_1 t9_1 t13 (fun y => kb [(14, (.data (.int .i64) y)), (1, (.data (.sl false (.int .i64)) t1_1)), (5, (.data (.int .i64) t5)), (0, (.data (.sl false (.int .i64)) t0_1)), (8, (.data (.int .i64) t8_1)), (9, (.data (.int .i64) t9_1)), (13, (.data (.int .i64) t13))] [])
    (fun y0 => k .ret (St.of [(4, (.data .bool y0))] []))
    (fun _ => k (.exit 2) (St.of [(1, (.data (.sl false (.int .i64)) t1_1)), (0, (.data (.sl false (.int .i64)) t0_1)), (8, (.data (.int .i64) t8_1)), (9, (.data (.int .i64) t9_1))] [])) x := by kernel_rfl
theorem l24_5 (N : Nat) : LoopOK (x24 N) (loopAt 5 (loopsOf b24)) :=
  loop_mk (G24_5 N) (by kernel_rfl) (by kernel_rfl) (by kernel_rfl) fun R k d =>
    loop_eq (st := fun (x : Int) => ([(14, (.data (.int .i64) x)), (1, (.data (.sl false (.int .i64)) d.1.2.1)), (5, (.data (.int .i64) d.1.2.2.1)), (0, (.data (.sl false (.int .i64)) d.1.2.2.2.1)), (8, (.data (.int .i64) d.1.2.2.2.2.1)), (9, (.data (.int .i64) d.1.2.2.2.2.2.1)), (13, (.data (.int .i64) d.1.2.2.2.2.2.2.1))], [])) (s24_5 N k d.1.2.1 d.1.2.2.1 d.1.2.2.2.1 d.1.2.2.2.2.1 d.1.2.2.2.2.2.1 d.1.2.2.2.2.2.2.1) N d.1.1
theorem s24_2 (N : Nat) {R : Type} (k : AExit → St → Option R) (t1 : List Int) (t0 : List Int) (t8 : Int) (kb : List (Nat × AVal) → List Obj → Option R) (x : Int) : codeK (x24 N) (loopAt 2 (loopsOf b24)) (St.of [(1, (.data (.sl false (.int .i64)) t1)), (0, (.data (.sl false (.int .i64)) t0)), (9, (.data (.int .i64) x)), (8, (.data (.int .i64) t8))] []) (kLoop (x24 N) 2 ⟨[1, 0, 9, 8], []⟩ kb k) = f24_L2 N t1 t0 t8 (fun y => kb [(1, (.data (.sl false (.int .i64)) t1)), (0, (.data (.sl false (.int .i64)) t0)), (9, (.data (.int .i64) y)), (8, (.data (.int .i64) t8))] [])
    (fun y0 => k .ret (St.of [(4, (.data .bool y0))] []))
    (fun _ => k (.exit 0) (St.of [(1, (.data (.sl false (.int .i64)) t1)), (0, (.data (.sl false (.int .i64)) t0))] [])) x := by kernel_rfl
theorem l24_2 (N : Nat) : LoopOK (x24 N) (loopAt 2 (loopsOf b24)) :=
  loop_mk (G24_2 N) (by kernel_rfl) (by kernel_rfl) (by kernel_rfl) fun R k d =>
    loop_eq (st := fun (x : Int) => ([(1, (.data (.sl false (.int .i64)) d.1.1)), (0, (.data (.sl false (.int .i64)) d.1.2.1)), (9, (.data (.int .i64) x)), (8, (.data (.int .i64) d.1.2.2.2.1))], [])) (s24_2 N k d.1.1 d.1.2.1 d.1.2.2.2.1) N d.1.2.2.1
theorem e24 (N : Nat) (a0 : List Int) (a1 : List Int) : bodyK (x24 N) [.bool] [.tmp 4] b24 (entry (.pr (.val (.sl false (.int .i64))) (.pr (.val (.sl false (.int .i64))) .un)) (a0, (a1, ()))) = f24 N a0 a1 := by kernel_rfl
theorem k24 (N : Nat) : CalleeOK Go.Proofs.Try.prog 24 (c24 N) :=
  fn_ok (fn := Go.Proofs.Try.f24) (body := b24) (c := x24 N) Go.Proofs.Try.func24 (by kernel_rfl) (by kernel_rfl) ⟨ttL_ok, mtL_ok, eqL_ok, env_nil⟩ mixed (by kernel_rfl) (Nat.le_of_ble_eq_true (by kernel_rfl)) (by kernel_rfl) (by decide)
    (loops_ok (by kernel_rfl : loopsOf b24 = [loopAt 2 (loopsOf b24), loopAt 5 (loopsOf b24)]) (.cons (l24_2 N) (.cons (l24_5 N) .nil))) fun d => e24 N d.1 d.2.1
/-! ### 5: keyhole/keyholelaw42.StrategyCoarser -/
def f5_L7 {R : Type} (N : Nat) (t25 : List (Int × (List Int × Unit))) (t1 : List (Int × (List Int × Unit))) (t26 : Int) (o1 : (Int × (List (List Int) × Unit))) (kb : Int × List Int → Option R) (kx0 : (List Int) → Option R) : Int × List Int → Option R :=
  fun (t27, o0) =>
    cond (decide (t27 < t26))
      ((idx t25 t27).bind fun x =>
      chk (decide ((o0.length.succ) ≤ room)) <|
      kb ((wi64 (t27 + 1)), (o0 ++ (x.1 :: ([] : List Int)))))
      (kx0 o0)
def f5 (N : Nat) (a0 : (Int × (List (List Int) × Unit))) (a1 : List (Int × (List Int × Unit))) : Option (Bool) :=
  (f12 N).bind fun r =>
  cond (!r)
    (some false)
    ((f13 N a0 a1 62 60).bind fun r_1 =>
    (cond (!r_1)
        (some true)
        ((f14 N a0 a1).bind fun r_2 =>
        some (!(decide (r_2 = 0))))).bind fun b =>
    cond b
      (some true)
      (iter (fun w => f5_L7 N a1 a1 (len a1) a0 w
        (fun o1_1 =>
          (f15 N a0 a1).bind fun r_3 =>
          (f23 N a0 o1_1).bind fun r_4 =>
          (cond (decide (r_3.2 = 0))
              (some (decide (r_4.2 = 0)))
              (some false)).bind fun b_1 =>
          (cond b_1
              (some (decide ((len r_3.1) = a0.1)))
              (some false)).bind fun b_2 =>
          (cond b_2
              ((f24 N r_4.1 r_3.1).bind fun r_5 =>
              some r_5)
              (some false)).bind fun b_3 =>
          some b_3)) N (0, ([] : List Int))))
def c5 (N : Nat) : Callee := .pure (.pr (.val (.pair (.int .i64) (.pair (.sl false (.sl false (.int .i64))) .unit))) (.pr (.val (.sl false (.pair (.int .i64) (.pair (.sl false (.int .i64)) .unit)))) .un)) [.bool] fun d => f5 N d.1 d.2.1
def F5_7 : SForm := ⟨[(27, (.val (.int .i64))), (5, (.ref 0)), (25, (.val (.sl false (.pair (.int .i64) (.pair (.sl false (.int .i64)) .unit))))), (2, (.bptr 1 [])), (1, (.val (.sl false (.pair (.int .i64) (.pair (.sl false (.int .i64)) .unit))))), (26, (.val (.int .i64)))], [.row (.int .i64), .cell (.val (.pair (.int .i64) (.pair (.sl false (.sl false (.int .i64))) .unit)))]⟩
def G5_7 (N : Nat) : (R : Type) → F5_7.den → (AExit → St → Option R) → Option R := fun R d k => iter (fun kb => f5_L7 N d.1.2.2.1 d.1.2.2.2.2.1 d.1.2.2.2.2.2.1 d.2.2.1 kb
    (fun y2 => k (.exit 0) (St.of [(2, (.bptr 0 [])), (5, (.ref 1 [] 0)), (1, (.data (.sl false (.pair (.int .i64) (.pair (.sl false (.int .i64)) .unit))) d.1.2.2.2.2.1))] [.cell (.data (.pair (.int .i64) (.pair (.sl false (.sl false (.int .i64))) .unit)) d.2.2.1), .row (.int .i64) y2 0]))) N (d.1.1, d.2.1)
def lp5 (N : Nat) : Nat → Option LoopFn := fun r => cond (Nat.beq r 7) (some fun R sl os k => F5_7.take sl os fun d => G5_7 N R d k) (none)
def x5 (N : Nat) : Ctx := { fuel := N, tt := getL ttL, mt := getL mtL, ntmps := 67, env := fun f => (getL [(12, [c12 N]), (13, [c13 N]), (14, [c14 N]), (15, [c15 N]), (23, [c23 N]), (24, [c24 N])] f).getD [], cut := getL [(7, ⟨[27, 5, 25, 2, 1, 26], []⟩)], exits := fun r => getL ((getL [(7, [(0, ⟨[2, 5, 1], []⟩)])] r).getD []), res := ⟨[4], []⟩, own := fun _ => none, lp := lp5 N, eqs := fun T => memN T eqL }
noncomputable def b5 : Code := ((Go.Proofs.Try.f5).body).getD .skip
theorem s5_7 (N : Nat) {R : Type} (k : AExit → St → Option R) (t25 : List (Int × (List Int × Unit))) (t1 : List (Int × (List Int × Unit))) (t26 : Int) (o1 : (Int × (List (List Int) × Unit))) (kb : List (Nat × AVal) → List Obj → Option R) (x : Int × List Int) : codeK (x5 N) (loopAt 7 (loopsOf b5)) (St.of [(27, (.data (.int .i64) x.1)), (5, (.ref 0 [] 0)), (25, (.data (.sl false (.pair (.int .i64) (.pair (.sl false (.int .i64)) .unit))) t25)), (2, (.bptr 1 [])), (1, (.data (.sl false (.pair (.int .i64) (.pair (.sl false (.int .i64)) .unit))) t1)), (26, (.data (.int .i64) t26))] [.row (.int .i64) x.2 0, .cell (.data (.pair (.int .i64) (.pair (.sl false (.sl false (.int .i64))) .unit)) o1)]) (kLoop (x5 N) 7 ⟨[27, 5, 25, 2, 1, 26], []⟩ kb k) = f5_L7 N t25 t1 t26 o1 (fun y => kb [(27, (.data (.int .i64) y.1)), (5, (.ref 0 [] 0)), (25, (.data (.sl false (.pair (.int .i64) (.pair (.sl false (.int .i64)) .unit))) t25)), (2, (.bptr 1 [])), (1, (.data (.sl false (.pair (.int .i64) (.pair (.sl false (.int .i64)) .unit))) t1)), (26, (.data (.int .i64) t26))] [.row (.int .i64) y.2 0, .cell (.data (.pair (.int .i64) (.pair (.sl false (.sl false (.int .i64))) .unit)) o1)])
    (fun y2 => k (.exit 0) (St.of [(2, (.bptr 0 [])), (5, (.ref 1 [] 0)), (1, (.data (.sl false (.pair (.int .i64) (.pair (.sl false (.int .i64)) .unit))) t1))] [.cell (.data (.pair (.int .i64) (.pair (.sl false (.sl false (.int .i64))) .unit)) o1), .row (.int .i64) y2 0])) x := by kernel_rfl
theorem l5_7 (N : Nat) : LoopOK (x5 N) (loopAt 7 (loopsOf b5)) :=
  loop_mk (G5_7 N) (by kernel_rfl) (by kernel_rfl) (by kernel_rfl) fun R k d =>
    loop_eq (st := fun (x : Int × List Int) => ([(27, (.data (.int .i64) x.1)), (5, (.ref 0 [] 0)), (25, (.data (.sl false (.pair (.int .i64) (.pair (.sl false (.int .i64)) .unit))) d.1.2.2.1)), (2, (.bptr 1 [])), (1, (.data (.sl false (.pair (.int .i64) (.pair (.sl false (.int .i64)) .unit))) d.1.2.2.2.2.1)), (26, (.data (.int .i64) d.1.2.2.2.2.2.1))], [.row (.int .i64) x.2 0, .cell (.data (.pair (.int .i64) (.pair (.sl false (.sl false (.int .i64))) .unit)) d.2.2.1)])) (s5_7 N k d.1.2.2.1 d.1.2.2.2.2.1 d.1.2.2.2.2.2.1 d.2.2.1) N (d.1.1, d.2.1)
theorem e5 (N : Nat) (a0 : (Int × (List (List Int) × Unit))) (a1 : List (Int × (List Int × Unit))) : bodyK (x5 N) [.bool] [.tmp 4] b5 (entry (.pr (.val (.pair (.int .i64) (.pair (.sl false (.sl false (.int .i64))) .unit))) (.pr (.val (.sl false (.pair (.int .i64) (.pair (.sl false (.int .i64)) .unit)))) .un)) (a0, (a1, ()))) = f5 N a0 a1 := by kernel_rfl
theorem k5 (N : Nat) : CalleeOK Go.Proofs.Try.prog 5 (c5 N) :=
  fn_ok (fn := Go.Proofs.Try.f5) (body := b5) (c := x5 N) Go.Proofs.Try.func5 (by kernel_rfl) (by kernel_rfl) ⟨ttL_ok, mtL_ok, eqL_ok, env_cons (forall_mem1 (k12 N)) (env_cons (forall_mem1 (k13 N)) (env_cons (forall_mem1 (k14 N)) (env_cons (forall_mem1 (k15 N)) (env_cons (forall_mem1 (k23 N)) (env_cons (forall_mem1 (k24 N)) (env_nil))))))⟩ mixed (by kernel_rfl) (Nat.le_of_ble_eq_true (by kernel_rfl)) (by kernel_rfl) (by decide)
    (loops_ok (by kernel_rfl : loopsOf b5 = [loopAt 7 (loopsOf b5)]) (.cons (l5_7 N) .nil)) fun d => e5 N d.1 d.2.1
/-! ### 33: keyhole/strategy.Run -/
def f33 (N : Nat) (a0 : (Int × (List (List Int) × Unit))) (a1 : List (Int × (List Int × Unit))) (a2 : Int) : Option ((List (Int × (Int × Unit))) × Int) :=
  (f47 N a0 a1 a2).bind fun r =>
  cond (!(decide (r = 0)))
    (some (([] : List (Int × (Int × Unit))), r))
    ((f48 N a0 a1 a2).bind fun r_1 =>
    some (r_1, 0))
def c33 (N : Nat) : Callee := .pure (.pr (.val (.pair (.int .i64) (.pair (.sl false (.sl false (.int .i64))) .unit))) (.pr (.val (.sl false (.pair (.int .i64) (.pair (.sl false (.int .i64)) .unit)))) (.pr (.val (.int .i64)) .un))) [(.sl true (.pair (.int .i64) (.pair (.int .i64) .unit))), (.int .i64)] fun d => f33 N d.1 d.2.1 d.2.2.1
def lp33 (N : Nat) : Nat → Option LoopFn := fun r => none
def x33 (N : Nat) : Ctx := { fuel := N, tt := getL ttL, mt := getL mtL, ntmps := 20, env := fun f => (getL [(47, [c47 N]), (48, [c48 N])] f).getD [], cut := getL [], exits := fun r => getL ((getL [] r).getD []), res := ⟨[6, 7], []⟩, own := fun _ => none, lp := lp33 N, eqs := fun T => memN T eqL }
noncomputable def b33 : Code := ((Go.Proofs.Try.f33).body).getD .skip
theorem e33 (N : Nat) (a0 : (Int × (List (List Int) × Unit))) (a1 : List (Int × (List Int × Unit))) (a2 : Int) : bodyK (x33 N) [(.sl true (.pair (.int .i64) (.pair (.int .i64) .unit))), (.int .i64)] [.tmp 6, .tmp 7] b33 (entry (.pr (.val (.pair (.int .i64) (.pair (.sl false (.sl false (.int .i64))) .unit))) (.pr (.val (.sl false (.pair (.int .i64) (.pair (.sl false (.int .i64)) .unit)))) (.pr (.val (.int .i64)) .un))) (a0, (a1, (a2, ())))) = f33 N a0 a1 a2 := by kernel_rfl
theorem k33 (N : Nat) : CalleeOK Go.Proofs.Try.prog 33 (c33 N) :=
  fn_ok (fn := Go.Proofs.Try.f33) (body := b33) (c := x33 N) Go.Proofs.Try.func33 (by kernel_rfl) (by kernel_rfl) ⟨ttL_ok, mtL_ok, eqL_ok, env_cons (forall_mem1 (k47 N)) (env_cons (forall_mem1 (k48 N)) (env_nil))⟩ mixed (by kernel_rfl) (Nat.le_of_ble_eq_true (by kernel_rfl)) (by kernel_rfl) (by decide)
    (loops_ok (by kernel_rfl : loopsOf b33 = []) .nil) fun d => e33 N d.1 d.2.1 d.2.2.1
/-! ### 8: keyhole/keyholelaw42.StrategyRun -/
def f8 (N : Nat) (a0 : (Int × (List (List Int) × Unit))) (a1 : List (Int × (List Int × Unit))) (a2 : Int) : Option (Bool) :=
  (f12 N).bind fun r =>
  cond (!r)
    (some false)
    ((f13 N a0 a1 62 60).bind fun r_1 =>
    cond (!r_1)
      (some true)
      ((f14 N a0 a1).bind fun r_2 =>
      (cond (decide (r_2 = 0))
          ((cond (decide (a2 < 0))
              (some true)
              (some (decide (a0.1 ≤ a2)))).bind fun b =>
          some b)
          (some false)).bind fun b_1 =>
      cond b_1
        ((f33 N a0 a1 a2).bind fun r_3 =>
        (f27 N a0 a1 a2).bind fun r_4 =>
        (cond (decide (r_3.2 = 3))
            (some (decide (r_4.2 = 3)))
            (some false)).bind fun b_2 =>
        (cond b_2
            (some (decide ((len r_3.1) = 0)))
            (some false)).bind fun b_3 =>
        (cond b_3
            (some (decide (r_4.1 = 0)))
            (some false)).bind fun b_4 =>
        some b_4)
        ((f33 N a0 a1 a2).bind fun r_5 =>
        (f27 N a0 a1 a2).bind fun r_6 =>
        cond (!(decide (r_2 = 0)))
          ((cond (decide (r_5.2 = r_2))
              (some (decide (r_6.2 = r_2)))
              (some false)).bind fun b_5 =>
          (cond b_5
              (some (decide ((len r_5.1) = 0)))
              (some false)).bind fun b_6 =>
          (cond b_6
              (some (decide (r_6.1 = 0)))
              (some false)).bind fun b_7 =>
          some b_7)
          ((cond (decide (r_5.2 = 0))
              ((f20 N a0 a1 a2).bind fun r_7 =>
              (f34 N r_5.1 r_7).bind fun r_8 =>
              some r_8)
              (some false)).bind fun b_8 =>
          (cond b_8
              (some (decide ((len r_5.1) ≤ (len a1))))
              (some false)).bind fun b_9 =>
          some b_9))))
def c8 (N : Nat) : Callee := .pure (.pr (.val (.pair (.int .i64) (.pair (.sl false (.sl false (.int .i64))) .unit))) (.pr (.val (.sl false (.pair (.int .i64) (.pair (.sl false (.int .i64)) .unit)))) (.pr (.val (.int .i64)) .un))) [.bool] fun d => f8 N d.1 d.2.1 d.2.2.1
def lp8 (N : Nat) : Nat → Option LoopFn := fun r => none
def x8 (N : Nat) : Ctx := { fuel := N, tt := getL ttL, mt := getL mtL, ntmps := 83, env := fun f => (getL [(12, [c12 N]), (13, [c13 N]), (14, [c14 N]), (33, [c33 N]), (27, [c27 N]), (20, [c20 N]), (34, [c34 N])] f).getD [], cut := getL [], exits := fun r => getL ((getL [] r).getD []), res := ⟨[6], []⟩, own := fun _ => none, lp := lp8 N, eqs := fun T => memN T eqL }
noncomputable def b8 : Code := ((Go.Proofs.Try.f8).body).getD .skip
theorem e8 (N : Nat) (a0 : (Int × (List (List Int) × Unit))) (a1 : List (Int × (List Int × Unit))) (a2 : Int) : bodyK (x8 N) [.bool] [.tmp 6] b8 (entry (.pr (.val (.pair (.int .i64) (.pair (.sl false (.sl false (.int .i64))) .unit))) (.pr (.val (.sl false (.pair (.int .i64) (.pair (.sl false (.int .i64)) .unit)))) (.pr (.val (.int .i64)) .un))) (a0, (a1, (a2, ())))) = f8 N a0 a1 a2 := by kernel_rfl
theorem k8 (N : Nat) : CalleeOK Go.Proofs.Try.prog 8 (c8 N) :=
  fn_ok (fn := Go.Proofs.Try.f8) (body := b8) (c := x8 N) Go.Proofs.Try.func8 (by kernel_rfl) (by kernel_rfl) ⟨ttL_ok, mtL_ok, eqL_ok, env_cons (forall_mem1 (k12 N)) (env_cons (forall_mem1 (k13 N)) (env_cons (forall_mem1 (k14 N)) (env_cons (forall_mem1 (k33 N)) (env_cons (forall_mem1 (k27 N)) (env_cons (forall_mem1 (k20 N)) (env_cons (forall_mem1 (k34 N)) (env_nil)))))))⟩ mixed (by kernel_rfl) (Nat.le_of_ble_eq_true (by kernel_rfl)) (by kernel_rfl) (by decide)
    (loops_ok (by kernel_rfl : loopsOf b8 = []) .nil) fun d => e8 N d.1 d.2.1 d.2.2.1
/-! ### 57: slices.Index[[]int,int] -/
def f57_L2 {R : Type} (N : Nat) (t0 : List Int) (t1 : Int) (t7 : Int) (kb : Int → Option R) (kret : Int → Option R) (kx0 : Unit → Option R) : Int → Option R :=
  fun t8 =>
    cond (decide (t8 < t7))
      ((idx t0 t8).bind fun x =>
      cond (decide (t1 = x))
        (kret t8)
        (kb (wi64 (t8 + 1))))
      (kx0 ())
def f57 (N : Nat) (a0 : List Int) (a1 : Int) : Option (Int) :=
  iter (fun w => f57_L2 N a0 a1 (len a0) w
    (fun t4 =>
      some t4)
    (fun (_ : Unit) =>
      some (-1))) N 0
def c57 (N : Nat) : Callee := .pure (.pr (.val (.sl false (.int .i64))) (.pr (.val (.int .i64)) .un)) [(.int .i64)] fun d => f57 N d.1 d.2.1
def F57_2 : SForm := ⟨[(8, (.val (.int .i64))), (0, (.val (.sl false (.int .i64)))), (1, (.val (.int .i64))), (7, (.val (.int .i64)))], []⟩
def G57_2 (N : Nat) : (R : Type) → F57_2.den → (AExit → St → Option R) → Option R := fun R d k => iter (fun kb => f57_L2 N d.1.2.1 d.1.2.2.1 d.1.2.2.2.1 kb
    (fun y0 => k .ret (St.of [(4, (.data (.int .i64) y0))] []))
    (fun _ => k (.exit 0) (St.of [] []))) N d.1.1
def lp57 (N : Nat) : Nat → Option LoopFn := fun r => cond (Nat.beq r 2) (some fun R sl os k => F57_2.take sl os fun d => G57_2 N R d k) (none)
def x57 (N : Nat) : Ctx := { fuel := N, tt := getL ttL, mt := getL mtL, ntmps := 19, env := fun f => (getL [] f).getD [], cut := getL [(2, ⟨[8, 0, 1, 7], []⟩)], exits := fun r => getL ((getL [(2, [(0, ⟨[], []⟩)])] r).getD []), res := ⟨[4], []⟩, own := fun _ => none, lp := lp57 N, eqs := fun T => memN T eqL }
noncomputable def b57 : Code := ((Go.Proofs.Try.f57).body).getD .skip
theorem s57_2 (N : Nat) {R : Type} (k : AExit → St → Option R) (t0 : List Int) (t1 : Int) (t7 : Int) (kb : List (Nat × AVal) → List Obj → Option R) (x : Int) : codeK (x57 N) (loopAt 2 (loopsOf b57)) (St.of [(8, (.data (.int .i64) x)), (0, (.data (.sl false (.int .i64)) t0)), (1, (.data (.int .i64) t1)), (7, (.data (.int .i64) t7))] []) (kLoop (x57 N) 2 ⟨[8, 0, 1, 7], []⟩ kb k) = f57_L2 N t0 t1 t7 (fun y => kb [(8, (.data (.int .i64) y)), (0, (.data (.sl false (.int .i64)) t0)), (1, (.data (.int .i64) t1)), (7, (.data (.int .i64) t7))] [])
    (fun y0 => k .ret (St.of [(4, (.data (.int .i64) y0))] []))
    (fun _ => k (.exit 0) (St.of [] [])) x := by kernel_rfl
theorem l57_2 (N : Nat) : LoopOK (x57 N) (loopAt 2 (loopsOf b57)) :=
  loop_mk (G57_2 N) (by kernel_rfl) (by kernel_rfl) (by kernel_rfl) fun R k d =>
    loop_eq (st := fun (x : Int) => ([(8, (.data (.int .i64) x)), (0, (.data (.sl false (.int .i64)) d.1.2.1)), (1, (.data (.int .i64) d.1.2.2.1)), (7, (.data (.int .i64) d.1.2.2.2.1))], [])) (s57_2 N k d.1.2.1 d.1.2.2.1 d.1.2.2.2.1) N d.1.1
theorem e57 (N : Nat) (a0 : List Int) (a1 : Int) : bodyK (x57 N) [(.int .i64)] [.tmp 4] b57 (entry (.pr (.val (.sl false (.int .i64))) (.pr (.val (.int .i64)) .un)) (a0, (a1, ()))) = f57 N a0 a1 := by kernel_rfl
theorem k57 (N : Nat) : CalleeOK Go.Proofs.Try.prog 57 (c57 N) :=
  fn_ok (fn := Go.Proofs.Try.f57) (body := b57) (c := x57 N) Go.Proofs.Try.func57 (by kernel_rfl) (by kernel_rfl) ⟨ttL_ok, mtL_ok, eqL_ok, env_nil⟩ mixed (by kernel_rfl) (Nat.le_of_ble_eq_true (by kernel_rfl)) (by kernel_rfl) (by decide)
    (loops_ok (by kernel_rfl : loopsOf b57 = [loopAt 2 (loopsOf b57)]) (.cons (l57_2 N) .nil)) fun d => e57 N d.1 d.2.1
/-! ### 51: slices.Contains[[]int,int] -/
def f51 (N : Nat) (a0 : List Int) (a1 : Int) : Option (Bool) :=
  (f57 N a0 a1).bind fun r =>
  some (decide (0 ≤ r))
def c51 (N : Nat) : Callee := .pure (.pr (.val (.sl false (.int .i64))) (.pr (.val (.int .i64)) .un)) [.bool] fun d => f51 N d.1 d.2.1
def lp51 (N : Nat) : Nat → Option LoopFn := fun r => none
def x51 (N : Nat) : Ctx := { fuel := N, tt := getL ttL, mt := getL mtL, ntmps := 9, env := fun f => (getL [(57, [c57 N])] f).getD [], cut := getL [], exits := fun r => getL ((getL [] r).getD []), res := ⟨[4], []⟩, own := fun _ => none, lp := lp51 N, eqs := fun T => memN T eqL }
noncomputable def b51 : Code := ((Go.Proofs.Try.f51).body).getD .skip
theorem e51 (N : Nat) (a0 : List Int) (a1 : Int) : bodyK (x51 N) [.bool] [.tmp 4] b51 (entry (.pr (.val (.sl false (.int .i64))) (.pr (.val (.int .i64)) .un)) (a0, (a1, ()))) = f51 N a0 a1 := by kernel_rfl
theorem k51 (N : Nat) : CalleeOK Go.Proofs.Try.prog 51 (c51 N) :=
  fn_ok (fn := Go.Proofs.Try.f51) (body := b51) (c := x51 N) Go.Proofs.Try.func51 (by kernel_rfl) (by kernel_rfl) ⟨ttL_ok, mtL_ok, eqL_ok, env_cons (forall_mem1 (k57 N)) (env_nil)⟩ mixed (by kernel_rfl) (Nat.le_of_ble_eq_true (by kernel_rfl)) (by kernel_rfl) (by decide)
    (loops_ok (by kernel_rfl : loopsOf b51 = []) .nil) fun d => e51 N d.1 d.2.1
/-! ### 37: keyhole/keyholelaw42.Spent -/
def f37_L3 {R : Type} (N : Nat) (t2 : Int) (t1 : List (Int × (List Int × Unit))) (o1 : (Int × (List (List Int) × Unit))) (kb : Int × List Int → Option R) (kx0 : (List Int) → Option R) : Int × List Int → Option R :=
  fun (t8, o0) =>
    cond (decide (t8 < o1.1))
      (chk (decide ((o0.length.succ) ≤ room)) <|
      kb ((wi64 (t8 + 1)), (o0 ++ (t8 :: ([] : List Int)))))
      (kx0 o0)
def f37_L12 {R : Type} (N : Nat) (t32_1 : Int) (t33_1 : Int) (t9_1 : Int) (t40 : Int) (o1_3 : (Int × (Int × Unit))) (o3 : (Int × (List (List Int) × Unit))) (o4 : List Int) (o5 : List (Int × (Int × Unit))) (kb : Int × List Int × List Int → Option R) (kx4 : (List Int) → (List Int) → Option R) : Int × List Int × List Int → Option R :=
  fun (t41, o0_2, o2_1) =>
    cond (decide (t41 < t40))
      (chk (inb o4 t41) <|
      (idx o4 t41).bind fun x_1 =>
      (idx o3.2.1 o1_3.1).bind fun x_2 =>
      (idx x_2 x_1).bind fun x_3 =>
      (f51 N o2_1 x_3).bind fun r_1 =>
      cond (!r_1)
        (chk (decide ((o2_1.length.succ) ≤ room)) <|
        cond (decide (x_3 = o1_3.2.1))
          (chk (decide ((o0_2.length.succ) ≤ room)) <|
          kb ((wi64 (t41 + 1)), (o0_2 ++ (x_1 :: ([] : List Int))), (o2_1 ++ (x_3 :: ([] : List Int)))))
          (kb ((wi64 (t41 + 1)), o0_2, (o2_1 ++ (x_3 :: ([] : List Int))))))
        (cond (decide (x_3 = o1_3.2.1))
          (chk (decide ((o0_2.length.succ) ≤ room)) <|
          kb ((wi64 (t41 + 1)), (o0_2 ++ (x_1 :: ([] : List Int))), o2_1))
          (kb ((wi64 (t41 + 1)), o0_2, o2_1))))
      (kx4 o2_1 o0_2)
def f37_L8 {R : Type} (N : Nat) (t32 : Int) (o0_1 : (Int × (List (List Int) × Unit))) (o2 : List (Int × (Int × Unit))) (kb : Int × Int × List Int → Option R) (kx2 : Int → Option R) : Int × Int × List Int → Option R :=
  fun (t33, t9, o1_2) =>
    cond (decide (t33 < t32))
      (chk (inb o2 t33) <|
      (idx o2 t33).bind fun x =>
      iter (fun w => f37_L12 N t32 t33 t9 (len o1_2) (x.1, x.2) o0_1 o1_2 o2 w
        (fun o2_2 o3_1 =>
          kb ((wi64 (t33 + 1)), (minI (wi64 (t9 * (len o2_2))) 1099511627776), o3_1))) N (0, ([] : List Int), ([] : List Int)))
      (kx2 t9)
def f37 (N : Nat) (a0 : (Int × (List (List Int) × Unit))) (a1 : List (Int × (List Int × Unit))) (a2 : Int) : Option (Int) :=
  iter (fun w => f37_L3 N a2 a1 a0 w
    (fun o1_1 =>
      (f20 N a0 a1 a2).bind fun r =>
      iter (fun w => f37_L8 N (len r) a0 r w
        (fun t9_2 =>
          some t9_2)) N (0, 1, o1_1))) N (0, ([] : List Int))
def c37 (N : Nat) : Callee := .pure (.pr (.val (.pair (.int .i64) (.pair (.sl false (.sl false (.int .i64))) .unit))) (.pr (.val (.sl false (.pair (.int .i64) (.pair (.sl false (.int .i64)) .unit)))) (.pr (.val (.int .i64)) .un))) [(.int .i64)] fun d => f37 N d.1 d.2.1 d.2.2.1
def F37_3 : SForm := ⟨[(8, (.val (.int .i64))), (7, (.ref 0)), (3, (.bptr 1 [])), (2, (.val (.int .i64))), (1, (.val (.sl false (.pair (.int .i64) (.pair (.sl false (.int .i64)) .unit)))))], [.row (.int .i64), .cell (.val (.pair (.int .i64) (.pair (.sl false (.sl false (.int .i64))) .unit)))]⟩
def G37_3 (N : Nat) : (R : Type) → F37_3.den → (AExit → St → Option R) → Option R := fun R d k => iter (fun kb => f37_L3 N d.1.2.2.2.1 d.1.2.2.2.2.1 d.2.2.1 kb
    (fun y3 => k (.exit 0) (St.of [(3, (.bptr 0 [])), (7, (.ref 1 [] 0)), (2, (.data (.int .i64) d.1.2.2.2.1)), (1, (.data (.sl false (.pair (.int .i64) (.pair (.sl false (.int .i64)) .unit))) d.1.2.2.2.2.1))] [.cell (.data (.pair (.int .i64) (.pair (.sl false (.sl false (.int .i64))) .unit)) d.2.2.1), .row (.int .i64) y3 0]))) N (d.1.1, d.2.1)
def F37_12 : SForm := ⟨[(41, (.val (.int .i64))), (13, (.ref 0)), (11, (.bptr 1 [])), (12, (.ref 2)), (3, (.bptr 3 [])), (39, (.ref 4)), (31, (.ref 5)), (32, (.val (.int .i64))), (33, (.val (.int .i64))), (9, (.val (.int .i64))), (40, (.val (.int .i64)))], [.row (.int .i64), .cell (.val (.pair (.int .i64) (.pair (.int .i64) .unit))), .row (.int .i64), .cell (.val (.pair (.int .i64) (.pair (.sl false (.sl false (.int .i64))) .unit))), .row (.int .i64), .row (.pair (.int .i64) (.pair (.int .i64) .unit))]⟩
def G37_12 (N : Nat) : (R : Type) → F37_12.den → (AExit → St → Option R) → Option R := fun R d k => iter (fun kb => f37_L12 N d.1.2.2.2.2.2.2.2.1 d.1.2.2.2.2.2.2.2.2.1 d.1.2.2.2.2.2.2.2.2.2.1 d.1.2.2.2.2.2.2.2.2.2.2.1 d.2.2.1 d.2.2.2.2.1 d.2.2.2.2.2.1 d.2.2.2.2.2.2.1 kb
    (fun y5 y6 => k (.exit 4) (St.of [(3, (.bptr 0 [])), (31, (.ref 1 [] 0)), (32, (.data (.int .i64) d.1.2.2.2.2.2.2.2.1)), (33, (.data (.int .i64) d.1.2.2.2.2.2.2.2.2.1)), (12, (.ref 2 [] 0)), (9, (.data (.int .i64) d.1.2.2.2.2.2.2.2.2.2.1)), (13, (.ref 3 [] 0))] [.cell (.data (.pair (.int .i64) (.pair (.sl false (.sl false (.int .i64))) .unit)) d.2.2.2.2.1), .row (.pair (.int .i64) (.pair (.int .i64) .unit)) d.2.2.2.2.2.2.1 0, .row (.int .i64) y5 0, .row (.int .i64) y6 0]))) N (d.1.1, d.2.1, d.2.2.2.1)
def F37_8 : SForm := ⟨[(3, (.bptr 0 [])), (33, (.val (.int .i64))), (9, (.val (.int .i64))), (7, (.ref 1)), (31, (.ref 2)), (32, (.val (.int .i64)))], [.cell (.val (.pair (.int .i64) (.pair (.sl false (.sl false (.int .i64))) .unit))), .row (.int .i64), .row (.pair (.int .i64) (.pair (.int .i64) .unit))]⟩
def G37_8 (N : Nat) : (R : Type) → F37_8.den → (AExit → St → Option R) → Option R := fun R d k => iter (fun kb => f37_L8 N d.1.2.2.2.2.2.1 d.2.1 d.2.2.2.1 kb
    (fun y0 => k (.exit 2) (St.of [(9, (.data (.int .i64) y0))] []))) N (d.1.2.1, d.1.2.2.1, d.2.2.1)
def lp37 (N : Nat) : Nat → Option LoopFn := fun r => cond (Nat.beq r 3) (some fun R sl os k => F37_3.take sl os fun d => G37_3 N R d k) (cond (Nat.beq r 12) (some fun R sl os k => F37_12.take sl os fun d => G37_12 N R d k) (cond (Nat.beq r 8) (some fun R sl os k => F37_8.take sl os fun d => G37_8 N R d k) (none)))
def x37 (N : Nat) : Ctx := { fuel := N, tt := getL ttL, mt := getL mtL, ntmps := 79, env := fun f => (getL [(20, [c20 N]), (51, [c51 N])] f).getD [], cut := getL [(3, ⟨[8, 7, 3, 2, 1], []⟩), (8, ⟨[3, 33, 9, 7, 31, 32], []⟩), (12, ⟨[41, 13, 11, 12, 3, 39, 31, 32, 33, 9, 40], []⟩)], exits := fun r => getL ((getL [(3, [(0, ⟨[3, 7, 2, 1], []⟩)]), (8, [(2, ⟨[9], []⟩)]), (12, [(4, ⟨[3, 31, 32, 33, 12, 9, 13], []⟩)])] r).getD []), res := ⟨[6], []⟩, own := fun _ => none, lp := lp37 N, eqs := fun T => memN T eqL }
noncomputable def b37 : Code := ((Go.Proofs.Try.f37).body).getD .skip
theorem s37_3 (N : Nat) {R : Type} (k : AExit → St → Option R) (t2 : Int) (t1 : List (Int × (List Int × Unit))) (o1 : (Int × (List (List Int) × Unit))) (kb : List (Nat × AVal) → List Obj → Option R) (x : Int × List Int) : codeK (x37 N) (loopAt 3 (loopsOf b37)) (St.of [(8, (.data (.int .i64) x.1)), (7, (.ref 0 [] 0)), (3, (.bptr 1 [])), (2, (.data (.int .i64) t2)), (1, (.data (.sl false (.pair (.int .i64) (.pair (.sl false (.int .i64)) .unit))) t1))] [.row (.int .i64) x.2 0, .cell (.data (.pair (.int .i64) (.pair (.sl false (.sl false (.int .i64))) .unit)) o1)]) (kLoop (x37 N) 3 ⟨[8, 7, 3, 2, 1], []⟩ kb k) = f37_L3 N t2 t1 o1 (fun y => kb [(8, (.data (.int .i64) y.1)), (7, (.ref 0 [] 0)), (3, (.bptr 1 [])), (2, (.data (.int .i64) t2)), (1, (.data (.sl false (.pair (.int .i64) (.pair (.sl false (.int .i64)) .unit))) t1))] [.row (.int .i64) y.2 0, .cell (.data (.pair (.int .i64) (.pair (.sl false (.sl false (.int .i64))) .unit)) o1)])
    (fun y3 => k (.exit 0) (St.of [(3, (.bptr 0 [])), (7, (.ref 1 [] 0)), (2, (.data (.int .i64) t2)), (1, (.data (.sl false (.pair (.int .i64) (.pair (.sl false (.int .i64)) .unit))) t1))] [.cell (.data (.pair (.int .i64) (.pair (.sl false (.sl false (.int .i64))) .unit)) o1), .row (.int .i64) y3 0])) x := by kernel_rfl
theorem l37_3 (N : Nat) : LoopOK (x37 N) (loopAt 3 (loopsOf b37)) :=
  loop_mk (G37_3 N) (by kernel_rfl) (by kernel_rfl) (by kernel_rfl) fun R k d =>
    loop_eq (st := fun (x : Int × List Int) => ([(8, (.data (.int .i64) x.1)), (7, (.ref 0 [] 0)), (3, (.bptr 1 [])), (2, (.data (.int .i64) d.1.2.2.2.1)), (1, (.data (.sl false (.pair (.int .i64) (.pair (.sl false (.int .i64)) .unit))) d.1.2.2.2.2.1))], [.row (.int .i64) x.2 0, .cell (.data (.pair (.int .i64) (.pair (.sl false (.sl false (.int .i64))) .unit)) d.2.2.1)])) (s37_3 N k d.1.2.2.2.1 d.1.2.2.2.2.1 d.2.2.1) N (d.1.1, d.2.1)
theorem s37_12 (N : Nat) {R : Type} (k : AExit → St → Option R) (t32_1 : Int) (t33_1 : Int) (t9_1 : Int) (t40 : Int) (o1_3 : (Int × (Int × Unit))) (o3 : (Int × (List (List Int) × Unit))) (o4 : List Int) (o5 : List (Int × (Int × Unit))) (kb : List (Nat × AVal) → List Obj → Option R) (x : Int × List Int × List Int) : codeK (x37 N) (loopAt 12 (loopsOf b37)) (St.of [(41, (.data (.int .i64) x.1)), (13, (.ref 0 [] 0)), (11, (.bptr 1 [])), (12, (.ref 2 [] 0)), (3, (.bptr 3 [])), (39, (.ref 4 [] 0)), (31, (.ref 5 [] 0)), (32, (.data (.int .i64) t32_1)), (33, (.data (.int .i64) t33_1)), (9, (.data (.int .i64) t9_1)), (40, (.data (.int .i64) t40))] [.row (.int .i64) x.2.1 0, .cell (.data (.pair (.int .i64) (.pair (.int .i64) .unit)) o1_3), .row (.int .i64) x.2.2 0, .cell (.data (.pair (.int .i64) (.pair (.sl false (.sl false (.int .i64))) .unit)) o3), .row (.int .i64) o4 0, .row (.pair (.int .i64) (.pair (.int .i64) .unit)) o5 0]) (kLoop (x37 N) 12 ⟨[41, 13, 11, 12, 3, 39, 31, 32, 33, 9, 40], []⟩ kb k) = f37_L12 N t32_1 t33_1 t9_1 t40 o1_3 o3 o4 o5 (fun y => kb [(41, (.data (.int .i64) y.1)), (13, (.ref 0 [] 0)), (11, (.bptr 1 [])), (12, (.ref 2 [] 0)), (3, (.bptr 3 [])), (39, (.ref 4 [] 0)), (31, (.ref 5 [] 0)), (32, (.data (.int .i64) t32_1)), (33, (.data (.int .i64) t33_1)), (9, (.data (.int .i64) t9_1)), (40, (.data (.int .i64) t40))] [.row (.int .i64) y.2.1 0, .cell (.data (.pair (.int .i64) (.pair (.int .i64) .unit)) o1_3), .row (.int .i64) y.2.2 0, .cell (.data (.pair (.int .i64) (.pair (.sl false (.sl false (.int .i64))) .unit)) o3), .row (.int .i64) o4 0, .row (.pair (.int .i64) (.pair (.int .i64) .unit)) o5 0])
    (fun y5 y6 => k (.exit 4) (St.of [(3, (.bptr 0 [])), (31, (.ref 1 [] 0)), (32, (.data (.int .i64) t32_1)), (33, (.data (.int .i64) t33_1)), (12, (.ref 2 [] 0)), (9, (.data (.int .i64) t9_1)), (13, (.ref 3 [] 0))] [.cell (.data (.pair (.int .i64) (.pair (.sl false (.sl false (.int .i64))) .unit)) o3), .row (.pair (.int .i64) (.pair (.int .i64) .unit)) o5 0, .row (.int .i64) y5 0, .row (.int .i64) y6 0])) x := by kernel_rfl
theorem l37_12 (N : Nat) : LoopOK (x37 N) (loopAt 12 (loopsOf b37)) :=
  loop_mk (G37_12 N) (by kernel_rfl) (by kernel_rfl) (by kernel_rfl) fun R k d =>
    loop_eq (st := fun (x : Int × List Int × List Int) => ([(41, (.data (.int .i64) x.1)), (13, (.ref 0 [] 0)), (11, (.bptr 1 [])), (12, (.ref 2 [] 0)), (3, (.bptr 3 [])), (39, (.ref 4 [] 0)), (31, (.ref 5 [] 0)), (32, (.data (.int .i64) d.1.2.2.2.2.2.2.2.1)), (33, (.data (.int .i64) d.1.2.2.2.2.2.2.2.2.1)), (9, (.data (.int .i64) d.1.2.2.2.2.2.2.2.2.2.1)), (40, (.data (.int .i64) d.1.2.2.2.2.2.2.2.2.2.2.1))], [.row (.int .i64) x.2.1 0, .cell (.data (.pair (.int .i64) (.pair (.int .i64) .unit)) d.2.2.1), .row (.int .i64) x.2.2 0, .cell (.data (.pair (.int .i64) (.pair (.sl false (.sl false (.int .i64))) .unit)) d.2.2.2.2.1), .row (.int .i64) d.2.2.2.2.2.1 0, .row (.pair (.int .i64) (.pair (.int .i64) .unit)) d.2.2.2.2.2.2.1 0])) (s37_12 N k d.1.2.2.2.2.2.2.2.1 d.1.2.2.2.2.2.2.2.2.1 d.1.2.2.2.2.2.2.2.2.2.1 d.1.2.2.2.2.2.2.2.2.2.2.1 d.2.2.1 d.2.2.2.2.1 d.2.2.2.2.2.1 d.2.2.2.2.2.2.1) N (d.1.1, d.2.1, d.2.2.2.1)
theorem s37_8 (N : Nat) {R : Type} (k : AExit → St → Option R) (t32 : Int) (o0_1 : (Int × (List (List Int) × Unit))) (o2 : List (Int × (Int × Unit))) (kb : List (Nat × AVal) → List Obj → Option R) (x : Int × Int × List Int) : codeK (x37 N) (loopAt 8 (loopsOf b37)) (St.of [(3, (.bptr 0 [])), (33, (.data (.int .i64) x.1)), (9, (.data (.int .i64) x.2.1)), (7, (.ref 1 [] 0)), (31, (.ref 2 [] 0)), (32, (.data (.int .i64) t32))] [.cell (.data (.pair (.int .i64) (.pair (.sl false (.sl false (.int .i64))) .unit)) o0_1), .row (.int .i64) x.2.2 0, .row (.pair (.int .i64) (.pair (.int .i64) .unit)) o2 0]) (kLoop (x37 N) 8 ⟨[3, 33, 9, 7, 31, 32], []⟩ kb k) = f37_L8 N t32 o0_1 o2 (fun y => kb [(3, (.bptr 0 [])), (33, (.data (.int .i64) y.1)), (9, (.data (.int .i64) y.2.1)), (7, (.ref 1 [] 0)), (31, (.ref 2 [] 0)), (32, (.data (.int .i64) t32))] [.cell (.data (.pair (.int .i64) (.pair (.sl false (.sl false (.int .i64))) .unit)) o0_1), .row (.int .i64) y.2.2 0, .row (.pair (.int .i64) (.pair (.int .i64) .unit)) o2 0])
    (fun y0 => k (.exit 2) (St.of [(9, (.data (.int .i64) y0))] [])) x := by kernel_rfl
theorem l37_8 (N : Nat) : LoopOK (x37 N) (loopAt 8 (loopsOf b37)) :=
  loop_mk (G37_8 N) (by kernel_rfl) (by kernel_rfl) (by kernel_rfl) fun R k d =>
    loop_eq (st := fun (x : Int × Int × List Int) => ([(3, (.bptr 0 [])), (33, (.data (.int .i64) x.1)), (9, (.data (.int .i64) x.2.1)), (7, (.ref 1 [] 0)), (31, (.ref 2 [] 0)), (32, (.data (.int .i64) d.1.2.2.2.2.2.1))], [.cell (.data (.pair (.int .i64) (.pair (.sl false (.sl false (.int .i64))) .unit)) d.2.1), .row (.int .i64) x.2.2 0, .row (.pair (.int .i64) (.pair (.int .i64) .unit)) d.2.2.2.1 0])) (s37_8 N k d.1.2.2.2.2.2.1 d.2.1 d.2.2.2.1) N (d.1.2.1, d.1.2.2.1, d.2.2.1)
theorem e37 (N : Nat) (a0 : (Int × (List (List Int) × Unit))) (a1 : List (Int × (List Int × Unit))) (a2 : Int) : bodyK (x37 N) [(.int .i64)] [.tmp 6] b37 (entry (.pr (.val (.pair (.int .i64) (.pair (.sl false (.sl false (.int .i64))) .unit))) (.pr (.val (.sl false (.pair (.int .i64) (.pair (.sl false (.int .i64)) .unit)))) (.pr (.val (.int .i64)) .un))) (a0, (a1, (a2, ())))) = f37 N a0 a1 a2 := by kernel_rfl
theorem k37 (N : Nat) : CalleeOK Go.Proofs.Try.prog 37 (c37 N) :=
  fn_ok (fn := Go.Proofs.Try.f37) (body := b37) (c := x37 N) Go.Proofs.Try.func37 (by kernel_rfl) (by kernel_rfl) ⟨ttL_ok, mtL_ok, eqL_ok, env_cons (forall_mem1 (k20 N)) (env_cons (forall_mem1 (k51 N)) (env_nil))⟩ mixed (by kernel_rfl) (Nat.le_of_ble_eq_true (by kernel_rfl)) (by kernel_rfl) (by decide)
    (loops_ok (by kernel_rfl : loopsOf b37 = [loopAt 3 (loopsOf b37), loopAt 8 (loopsOf b37), loopAt 12 (loopsOf b37)]) (.cons (l37_3 N) (.cons (l37_8 N) (.cons (l37_12 N) .nil)))) fun d => e37 N d.1 d.2.1 d.2.2.1
/-! ### 10: keyhole/keyholelaw42.StrategySpent -/
def f10 (N : Nat) (a0 : (Int × (List (List Int) × Unit))) (a1 : List (Int × (List Int × Unit))) (a2 : Int) : Option (Bool) :=
  (f12 N).bind fun r =>
  cond (!r)
    (some false)
    ((f13 N a0 a1 62 60).bind fun r_1 =>
    (cond (!r_1)
        (some true)
        ((f14 N a0 a1).bind fun r_2 =>
        some (!(decide (r_2 = 0))))).bind fun b =>
    (cond b
        (some true)
        (some (decide (a2 < 0)))).bind fun b_1 =>
    (cond b_1
        (some true)
        (some (decide (a0.1 ≤ a2)))).bind fun b_2 =>
    cond b_2
      (some true)
      ((f27 N a0 a1 a2).bind fun r_3 =>
      (cond (decide (r_3.2 = 0))
          ((f37 N a0 a1 a2).bind fun r_4 =>
          some (decide (r_3.1 = (minI r_4 1048576))))
          (some false)).bind fun b_3 =>
      some b_3))
def c10 (N : Nat) : Callee := .pure (.pr (.val (.pair (.int .i64) (.pair (.sl false (.sl false (.int .i64))) .unit))) (.pr (.val (.sl false (.pair (.int .i64) (.pair (.sl false (.int .i64)) .unit)))) (.pr (.val (.int .i64)) .un))) [.bool] fun d => f10 N d.1 d.2.1 d.2.2.1
def lp10 (N : Nat) : Nat → Option LoopFn := fun r => none
def x10 (N : Nat) : Ctx := { fuel := N, tt := getL ttL, mt := getL mtL, ntmps := 49, env := fun f => (getL [(12, [c12 N]), (13, [c13 N]), (14, [c14 N]), (27, [c27 N]), (37, [c37 N])] f).getD [], cut := getL [], exits := fun r => getL ((getL [] r).getD []), res := ⟨[6], []⟩, own := fun _ => none, lp := lp10 N, eqs := fun T => memN T eqL }
noncomputable def b10 : Code := ((Go.Proofs.Try.f10).body).getD .skip
theorem e10 (N : Nat) (a0 : (Int × (List (List Int) × Unit))) (a1 : List (Int × (List Int × Unit))) (a2 : Int) : bodyK (x10 N) [.bool] [.tmp 6] b10 (entry (.pr (.val (.pair (.int .i64) (.pair (.sl false (.sl false (.int .i64))) .unit))) (.pr (.val (.sl false (.pair (.int .i64) (.pair (.sl false (.int .i64)) .unit)))) (.pr (.val (.int .i64)) .un))) (a0, (a1, (a2, ())))) = f10 N a0 a1 a2 := by kernel_rfl
theorem k10 (N : Nat) : CalleeOK Go.Proofs.Try.prog 10 (c10 N) :=
  fn_ok (fn := Go.Proofs.Try.f10) (body := b10) (c := x10 N) Go.Proofs.Try.func10 (by kernel_rfl) (by kernel_rfl) ⟨ttL_ok, mtL_ok, eqL_ok, env_cons (forall_mem1 (k12 N)) (env_cons (forall_mem1 (k13 N)) (env_cons (forall_mem1 (k14 N)) (env_cons (forall_mem1 (k27 N)) (env_cons (forall_mem1 (k37 N)) (env_nil)))))⟩ mixed (by kernel_rfl) (Nat.le_of_ble_eq_true (by kernel_rfl)) (by kernel_rfl) (by decide)
    (loops_ok (by kernel_rfl : loopsOf b10 = []) .nil) fun d => e10 N d.1 d.2.1 d.2.2.1

end Go.Kz
