/-
  The functions of the program as plain functions on lists and numbers, and the proofs that the program computes them. Printed by a program.
-/
import Derived.Test.YtpgoaohglhjbcaaKzAR
import Derived.Test.YtpgoaohglhjbcaaKzAS
import Derived.Test.YtpgoaohglhjbcaaKzL06
import Derived.Test.YtpgoaohglhjbcaaProg
set_option linter.unusedSimpArgs false
set_option maxRecDepth 100000
set_option linter.unusedVariables false
namespace Go.Kz
open Go.Proofs
noncomputable section

def ttL : List (Nat × Ty) := [(2, (.int .i64)), (3, (.int .i64)), (4, .bool), (5, (.int .u8)), (6, (.int .u8)), (7, (.pair (.int .i64) (.pair (.int .i64) (.pair .bool (.pair (.int .u8) .unit))))), (8, (.pair (.int .i64) (.pair (.int .i64) (.pair .bool (.pair (.int .u8) .unit))))), (9, .str), (10, .str), (11, .str), (12, (.int .u64)), (13, (.pair .str (.pair (.int .u64) .unit))), (14, (.pair .str (.pair (.int .u64) .unit))), (21, (.int .i32)), (22, (.sl false (.arr 2 (.int .i64)))), (23, (.pair (.int .i64) (.pair (.sl false (.arr 2 (.int .i64))) .unit))), (24, (.pair (.int .i64) (.pair (.sl false (.arr 2 (.int .i64))) .unit))), (27, (.sl false (.int .i64))), (28, (.int .i64)), (36, (.sl false .bool)), (37, (.arr 2 (.int .i64))), (42, (.sl false (.sl false (.int .i64)))), (45, (.sl false (.sl false .bool))), (58, (.sl false (.int .i64))), (80, (.sl false (.pair (.int .i64) (.pair (.int .i64) .unit)))), (81, (.pair (.int .i64) (.pair (.int .i64) .unit))), (82, (.pair (.int .i64) (.pair (.int .i64) .unit))), (86, (.int .u64)), (88, (.int .i64)), (95, (.int .u32)), (97, (.int .u64)), (98, (.int .u64)), (113, (.int .u8)), (114, (.int .u8)), (117, (.int .i32)), (118, (.int .i32))]
def mtL : List (Nat × Ty × Ty) := [(75, (.int .i64), (.int .i64))]
def eqL : List Nat := [7, 8, 37, 81, 82]
def ctL : List Nat := [57, 3]
def msL : List (Nat × String × Nat × Option Nat) := [(57, "Len", 47, some 58), (57, "Less", 96, some 58), (57, "Pop", 97, none), (57, "Push", 98, none), (57, "Swap", 99, some 58)]
theorem ttL_ok : TtOK Go.Proofs.Try.prog (getL ttL) := ttB_ok (by kernel_rfl)
theorem mtL_ok : MtOK Go.Proofs.Try.prog (getL mtL) := mtB_ok (by kernel_rfl)
theorem eqL_ok : EqsOK Go.Proofs.Try.prog (fun T => memN T eqL) := eqsB_ok (by kernel_rfl)
theorem ctL_ok : CtOK Go.Proofs.Try.prog (fun T => memN T ctL) := ctB_ok (by kernel_rfl)
theorem msL_ok : MsOK Go.Proofs.Try.prog (getMs msL) := msB_ok (by kernel_rfl)
theorem mixed : Go.Proofs.Try.prog.follows .mixedOrders = true := by kernel_rfl

def f52 (N : Nat) (a0 : (Int × (List (List Int) × Unit))) (a1 : Int) : Option (Bool) :=
  (cond (decide (0 ≤ a1))
      (some (decide (a1 < a0.1)))
      (some false)).bind fun b =>
  some b
def c52 (N : Nat) : Callee := .pure (.pr (.val (.pair (.int .i64) (.pair (.sl false (.arr 2 (.int .i64))) .unit))) (.pr (.val (.int .i64)) .un)) [.bool] fun d => f52 N d.1 d.2.1
def lp52 (N : Nat) : Nat → Option LoopFn := fun r => none
def x52 (N : Nat) : Ctx := { fuel := N, tt := getL ttL, mt := getL mtL, ntmps := 13, env := fun f => (getL [] f).getD [], cut := getL [], exits := fun r => getL ((getL [] r).getD []), res := ⟨[4], []⟩, own := fun _ => none, lp := lp52 N, eqs := fun T => memN T eqL, ct := fun T => memN T ctL, ms := getMs msL }
noncomputable def b52 : Code := ((Go.Proofs.Try.f52).body).getD .skip
theorem e52 (N : Nat) (a0 : (Int × (List (List Int) × Unit))) (a1 : Int) : bodyK (x52 N) [.bool] [.tmp 4] b52 (entry (.pr (.val (.pair (.int .i64) (.pair (.sl false (.arr 2 (.int .i64))) .unit))) (.pr (.val (.int .i64)) .un)) (a0, (a1, ()))) = f52 N a0 a1 := by kernel_rfl
theorem k52 (N : Nat) : CalleeOK Go.Proofs.Try.prog 52 (c52 N) :=
  fn_ok (fn := Go.Proofs.Try.f52) (body := b52) (c := x52 N) Go.Proofs.Try.func52 (by kernel_rfl) (by kernel_rfl) ⟨ttL_ok, mtL_ok, eqL_ok, ctL_ok, msL_ok, env_nil⟩ mixed (by kernel_rfl) (Nat.le_of_ble_eq_true (by kernel_rfl)) (by kernel_rfl) (by decide)
    (loops_ok (by kernel_rfl : loopsOf b52 = []) .nil) fun d => e52 N d.1 d.2.1
def f34_L6 {R : Type} (N : Nat) (t18 : List (List Int)) (t19 : Int) (o0 : (Int × (List (List Int) × Unit))) (kb : Int → Option R) (kret : Int → Option R) (kx0 : Unit → Option R) : Int → Option R :=
  fun t20 =>
    cond (decide (t20 < t19))
      ((idx t18 t20).bind fun x =>
      chk (inb x 0) <|
      (idx x 0).bind fun x_1 =>
      (f52 N o0 x_1).bind fun r =>
      (cond (!r)
          (some true)
          (chk (inb x 1) <|
          (idx x 1).bind fun x_2 =>
          (f52 N o0 x_2).bind fun r_1 =>
          some (!r_1))).bind fun b_1 =>
      cond b_1
        (kret 3)
        (kb (wi64 (t20 + 1))))
      (kx0 ())
def f34 (N : Nat) (a0 : (Int × (List (List Int) × Unit))) : Option (Int) :=
  cond (decide (a0.1 < 0))
    (some 1)
    ((cond (decide (4096 < a0.1))
        (some true)
        (some (decide (1048576 < (len a0.2.1))))).bind fun b =>
    cond b
      (some 4)
      (iter (fun w => f34_L6 N a0.2.1 (len a0.2.1) a0 w
        (fun t2 =>
          some t2)
        (fun (_ : Unit) =>
          some 0)) N 0))
def c34 (N : Nat) : Callee := .pure (.pr (.val (.pair (.int .i64) (.pair (.sl false (.arr 2 (.int .i64))) .unit))) .un) [(.int .i64)] fun d => f34 N d.1
def F34_6 : SForm := ⟨[(20, (.val (.int .i64))), (1, (.bptr 0 [])), (18, (.val (.sl false (.arr 2 (.int .i64))))), (19, (.val (.int .i64)))], [.cell (.val (.pair (.int .i64) (.pair (.sl false (.arr 2 (.int .i64))) .unit)))]⟩
def G34_6 (N : Nat) : (R : Type) → F34_6.den → (AExit → St → Option R) → Option R := fun R d k => iter (fun kb => f34_L6 N d.1.2.2.1 d.1.2.2.2.1 d.2.1 kb
    (fun y0 => k .ret (St.of [(2, (.data (.int .i64) y0))] []))
    (fun _ => k (.exit 0) (St.of [] []))) N d.1.1
def lp34 (N : Nat) : Nat → Option LoopFn := fun r => cond (Nat.beq r 6) (some fun R sl os k => F34_6.take sl os fun d => G34_6 N R d k) (none)
def x34 (N : Nat) : Ctx := { fuel := N, tt := getL ttL, mt := getL mtL, ntmps := 37, env := fun f => (getL [(52, [c52 N])] f).getD [], cut := getL [(6, ⟨[20, 1, 18, 19], []⟩)], exits := fun r => getL ((getL [(6, [(0, ⟨[], []⟩)])] r).getD []), res := ⟨[2], []⟩, own := fun _ => none, lp := lp34 N, eqs := fun T => memN T eqL, ct := fun T => memN T ctL, ms := getMs msL }
noncomputable def b34 : Code := ((Go.Proofs.Try.f34).body).getD .skip
theorem s34_6 (N : Nat) {R : Type} (k : AExit → St → Option R) (t18 : List (List Int)) (t19 : Int) (o0 : (Int × (List (List Int) × Unit))) (kb : List (Nat × AVal) → List Obj → Option R) (x : Int) : codeK (x34 N) (loopAt 6 (loopsOf b34)) (St.of [(20, (.data (.int .i64) x)), (1, (.bptr 0 [])), (18, (.data (.sl false (.arr 2 (.int .i64))) t18)), (19, (.data (.int .i64) t19))] [.cell (.data (.pair (.int .i64) (.pair (.sl false (.arr 2 (.int .i64))) .unit)) o0)]) (kLoop (x34 N) 6 ⟨[20, 1, 18, 19], []⟩ kb k) = f34_L6 N t18 t19 o0 (fun y => kb [(20, (.data (.int .i64) y)), (1, (.bptr 0 [])), (18, (.data (.sl false (.arr 2 (.int .i64))) t18)), (19, (.data (.int .i64) t19))] [.cell (.data (.pair (.int .i64) (.pair (.sl false (.arr 2 (.int .i64))) .unit)) o0)])
    (fun y0 => k .ret (St.of [(2, (.data (.int .i64) y0))] []))
    (fun _ => k (.exit 0) (St.of [] [])) x := by kernel_rfl
theorem l34_6 (N : Nat) : LoopOK (x34 N) (loopAt 6 (loopsOf b34)) :=
  loop_mk (G34_6 N) (by kernel_rfl) (by kernel_rfl) (by kernel_rfl) fun R k d =>
    loop_eq (st := fun (x : Int) => ([(20, (.data (.int .i64) x)), (1, (.bptr 0 [])), (18, (.data (.sl false (.arr 2 (.int .i64))) d.1.2.2.1)), (19, (.data (.int .i64) d.1.2.2.2.1))], [.cell (.data (.pair (.int .i64) (.pair (.sl false (.arr 2 (.int .i64))) .unit)) d.2.1)])) (s34_6 N k d.1.2.2.1 d.1.2.2.2.1 d.2.1) N d.1.1
theorem e34 (N : Nat) (a0 : (Int × (List (List Int) × Unit))) : bodyK (x34 N) [(.int .i64)] [.tmp 2] b34 (entry (.pr (.val (.pair (.int .i64) (.pair (.sl false (.arr 2 (.int .i64))) .unit))) .un) (a0, ())) = f34 N a0 := by kernel_rfl
theorem k34 (N : Nat) : CalleeOK Go.Proofs.Try.prog 34 (c34 N) :=
  fn_ok (fn := Go.Proofs.Try.f34) (body := b34) (c := x34 N) Go.Proofs.Try.func34 (by kernel_rfl) (by kernel_rfl) ⟨ttL_ok, mtL_ok, eqL_ok, ctL_ok, msL_ok, env_cons (forall_mem1 (k52 N)) (env_nil)⟩ mixed (by kernel_rfl) (Nat.le_of_ble_eq_true (by kernel_rfl)) (by kernel_rfl) (by decide)
    (loops_ok (by kernel_rfl : loopsOf b34 = [loopAt 6 (loopsOf b34)]) (.cons (l34_6 N) .nil)) fun d => e34 N d.1
def f42_L3 {R : Type} (N : Nat) (t7 : List (List Int)) (t8 : Int) (kb : Int × List (List Int) → Option R) (kx0 : (List (List Int)) → Option R) : Int × List (List Int) → Option R :=
  fun (t9, o0) =>
    cond (decide (t9 < t8))
      ((idx t7 t9).bind fun x =>
      chk (inb x 1) <|
      (idx x 1).bind fun x_1 =>
      chk (inb x 0) <|
      (idx x 0).bind fun x_2 =>
      chk (decide ((Nat.succ (List.length o0)) ≤ room)) <|
      kb ((wi64 (t9 + 1)), (o0 ++ ((x_1 :: (x_2 :: ([] : List Int))) :: ([] : List (List Int))))))
      (kx0 o0)
def f42 (N : Nat) (a0 : (Int × (List (List Int) × Unit))) : Option (List (List Int)) :=
  iter (fun w => f42_L3 N a0.2.1 (len a0.2.1) w
    (fun o0_1 =>
      some o0_1)) N (0, ([] : List (List Int)))
def c42 (N : Nat) : Callee := .pure (.pr (.val (.pair (.int .i64) (.pair (.sl false (.arr 2 (.int .i64))) .unit))) .un) [(.sl false (.arr 2 (.int .i64)))] fun d => f42 N d.1
def F42_3 : SForm := ⟨[(9, (.val (.int .i64))), (3, (.ref 0)), (7, (.val (.sl false (.arr 2 (.int .i64))))), (8, (.val (.int .i64)))], [.row (.arr 2 (.int .i64))]⟩
def G42_3 (N : Nat) : (R : Type) → F42_3.den → (AExit → St → Option R) → Option R := fun R d k => iter (fun kb => f42_L3 N d.1.2.2.1 d.1.2.2.2.1 kb
    (fun y0 => k (.exit 0) (St.of [(3, (.ref 0 [] 0))] [.row (.arr 2 (.int .i64)) y0 0]))) N (d.1.1, d.2.1)
def lp42 (N : Nat) : Nat → Option LoopFn := fun r => cond (Nat.beq r 3) (some fun R sl os k => F42_3.take sl os fun d => G42_3 N R d k) (none)
def x42 (N : Nat) : Ctx := { fuel := N, tt := getL ttL, mt := getL mtL, ntmps := 23, env := fun f => (getL [] f).getD [], cut := getL [(3, ⟨[9, 3, 7, 8], [(3, none, .row (.arr 2 (.int .i64)))]⟩)], exits := fun r => getL ((getL [(3, [(0, ⟨[3], []⟩)])] r).getD []), res := ⟨[2], []⟩, own := fun _ => none, lp := lp42 N, eqs := fun T => memN T eqL, ct := fun T => memN T ctL, ms := getMs msL }
noncomputable def b42 : Code := ((Go.Proofs.Try.f42).body).getD .skip
theorem s42_3 (N : Nat) {R : Type} (k : AExit → St → Option R) (t7 : List (List Int)) (t8 : Int) (kb : List (Nat × AVal) → List Obj → Option R) (x : Int × List (List Int)) : codeK (x42 N) (loopAt 3 (loopsOf b42)) (St.of [(9, (.data (.int .i64) x.1)), (3, (.ref 0 [] 0)), (7, (.data (.sl false (.arr 2 (.int .i64))) t7)), (8, (.data (.int .i64) t8))] [.row (.arr 2 (.int .i64)) x.2 0]) (kLoop (x42 N) 3 ⟨[9, 3, 7, 8], [(3, none, .row (.arr 2 (.int .i64)))]⟩ kb k) = f42_L3 N t7 t8 (fun y => kb [(9, (.data (.int .i64) y.1)), (3, (.ref 0 [] 0)), (7, (.data (.sl false (.arr 2 (.int .i64))) t7)), (8, (.data (.int .i64) t8))] [.row (.arr 2 (.int .i64)) y.2 0])
    (fun y0 => k (.exit 0) (St.of [(3, (.ref 0 [] 0))] [.row (.arr 2 (.int .i64)) y0 0])) x := by kernel_rfl
theorem l42_3 (N : Nat) : LoopOK (x42 N) (loopAt 3 (loopsOf b42)) :=
  loop_mk (G42_3 N) (by kernel_rfl) (by kernel_rfl) (by kernel_rfl) fun R k d =>
    loop_eq (st := fun (x : Int × List (List Int)) => ([(9, (.data (.int .i64) x.1)), (3, (.ref 0 [] 0)), (7, (.data (.sl false (.arr 2 (.int .i64))) d.1.2.2.1)), (8, (.data (.int .i64) d.1.2.2.2.1))], [.row (.arr 2 (.int .i64)) x.2 0])) (s42_3 N k d.1.2.2.1 d.1.2.2.2.1) N (d.1.1, d.2.1)
theorem e42 (N : Nat) (a0 : (Int × (List (List Int) × Unit))) : bodyK (x42 N) [(.sl false (.arr 2 (.int .i64)))] [.tmp 2] b42 (entry (.pr (.val (.pair (.int .i64) (.pair (.sl false (.arr 2 (.int .i64))) .unit))) .un) (a0, ())) = f42 N a0 := by kernel_rfl
theorem k42 (N : Nat) : CalleeOK Go.Proofs.Try.prog 42 (c42 N) :=
  fn_ok (fn := Go.Proofs.Try.f42) (body := b42) (c := x42 N) Go.Proofs.Try.func42 (by kernel_rfl) (by kernel_rfl) ⟨ttL_ok, mtL_ok, eqL_ok, ctL_ok, msL_ok, env_nil⟩ mixed (by kernel_rfl) (Nat.le_of_ble_eq_true (by kernel_rfl)) (by kernel_rfl) (by decide)
    (loops_ok (by kernel_rfl : loopsOf b42 = [loopAt 3 (loopsOf b42)]) (.cons (l42_3 N) .nil)) fun d => e42 N d.1
def f58 (N : Nat) (a0 : List (List Int)) : Option (List (List Int)) := chk (decide (0 + List.length a0 ≤ room)) (some a0)
def c58 (N : Nat) : Callee := .pure (.pr (.val (.sl false (.arr 2 (.int .i64)))) .un) [(.sl true (.arr 2 (.int .i64)))] fun d => f58 N d.1
def x58 (N : Nat) : Ctx := { fuel := N, tt := getL ttL, mt := getL mtL, ntmps := 8, env := fun f => (getL [] f).getD [], cut := fun _ => none, exits := fun _ _ => none, res := ⟨[2], []⟩, own := fun _ => none, lp := fun _ => none, eqs := fun T => memN T eqL, ct := fun T => memN T ctL, ms := getMs msL }
theorem k58 (N : Nat) : CalleeOK Go.Proofs.Try.prog 58 (c58 N) :=
  fn_ok_nil (fn := Go.Proofs.Try.f58) (c := x58 N) (p := .pr (.val (.sl false (.arr 2 (.int .i64)))) .un) (ts := [(.sl true (.arr 2 (.int .i64)))]) (t := (.arr 2 (.int .i64))) (σ0 := fun d => ⟨(entry (.pr (.val (.sl false (.arr 2 (.int .i64)))) .un) d |>.set 2 .nilS).slots, fun _ => none, 8⟩) Go.Proofs.Try.func58 (by kernel_rfl) rfl ⟨ttL_ok, mtL_ok, eqL_ok, ctL_ok, msL_ok, env_nil⟩ mixed (by kernel_rfl) (Nat.le_of_ble_eq_true (by kernel_rfl)) (by kernel_rfl)
    (AllL.mem .nil) (AllL.mem .nil) (AllL.mem .nil) (fun d => by kernel_rfl) rfl rfl rfl rfl rfl rfl (Nat.le_of_ble_eq_true (by kernel_rfl)) (Nat.le_of_ble_eq_true (by kernel_rfl)) (by kernel_rfl : (x58 N).tt 22 = some (.sl false (.arr 2 (.int .i64)))) (fun d => d.1) (fun d => by kernel_rfl)
    (fun d b hb => match d, b, hb with
      | (a0, u), false, _ => by kernel_rfl
      | ([], u), true, _ => by kernel_rfl
      | (_ :: _, u), true, hb => nomatch hb rfl)
def f60 (N : Nat) (a0 : List Int) (a1 : List Int) : Option (Int) :=
  chk (inb a0 0) <|
  (idx a0 0).bind fun x =>
  chk (inb a1 0) <|
  (idx a1 0).bind fun x_1 =>
  cond (!(decide (x = x_1)))
    (chk (inb a0 0) <|
    (idx a0 0).bind fun x_2 =>
    chk (inb a1 0) <|
    (idx a1 0).bind fun x_3 =>
    some (wi64 (x_2 - x_3)))
    (chk (inb a0 1) <|
    (idx a0 1).bind fun x_4 =>
    chk (inb a1 1) <|
    (idx a1 1).bind fun x_5 =>
    some (wi64 (x_4 - x_5)))
def c60 (N : Nat) : Callee := .pure (.pr (.val (.arr 2 (.int .i64))) (.pr (.val (.arr 2 (.int .i64))) .un)) [(.int .i64)] fun d => f60 N d.1 d.2.1
def lp60 (N : Nat) : Nat → Option LoopFn := fun r => none
def x60 (N : Nat) : Ctx := { fuel := N, tt := getL ttL, mt := getL mtL, ntmps := 20, env := fun f => (getL [] f).getD [], cut := getL [], exits := fun r => getL ((getL [] r).getD []), res := ⟨[4], []⟩, own := fun _ => none, lp := lp60 N, eqs := fun T => memN T eqL, ct := fun T => memN T ctL, ms := getMs msL }
noncomputable def b60 : Code := ((Go.Proofs.Try.f60).body).getD .skip
theorem e60 (N : Nat) (a0 : List Int) (a1 : List Int) : bodyK (x60 N) [(.int .i64)] [.tmp 4] b60 (entry (.pr (.val (.arr 2 (.int .i64))) (.pr (.val (.arr 2 (.int .i64))) .un)) (a0, (a1, ()))) = f60 N a0 a1 := by kernel_rfl
theorem k60 (N : Nat) : CalleeOK Go.Proofs.Try.prog 60 (c60 N) :=
  fn_ok (fn := Go.Proofs.Try.f60) (body := b60) (c := x60 N) Go.Proofs.Try.func60 (by kernel_rfl) (by kernel_rfl) ⟨ttL_ok, mtL_ok, eqL_ok, ctL_ok, msL_ok, env_nil⟩ mixed (by kernel_rfl) (Nat.le_of_ble_eq_true (by kernel_rfl)) (by kernel_rfl) (by decide)
    (loops_ok (by kernel_rfl : loopsOf b60 = []) .nil) fun d => e60 N d.1 d.2.1
def f59 (N : Nat) (a1 : Unit) (o0 : List (List Int)) : Option ((Unit × Unit) × ((List (List Int)) × Unit)) := (sortS (.arr 2 (.int .i64)) (fun x y => f60 N x y) o0).map fun l => (((), ()), (l, ()))
def c59 (N : Nat) : Callee := .mut ⟨[(0, .ref 0), (1, .val (.fn 60 .unit))], [.row (.arr 2 (.int .i64))]⟩ [0] ⟨[(0, .ref 0)], [.row (.arr 2 (.int .i64))]⟩ fun d => f59 N d.1.2.1 d.2.1
theorem k59 (N : Nat) : CalleeOK Go.Proofs.Try.prog 59 (c59 N) :=
  sortFuncS_ok Go.Proofs.Try.sortL59 (t := (.arr 2 (.int .i64))) (by kernel_rfl) (by kernel_rfl) (fun w => Go.Proofs.Try.isAgg37 w) (fun w => Go.Proofs.Try.sizeOf37 w) (Go.Proofs.enters_of Go.Proofs.Try.func60 (by kernel_rfl) rfl) (k60 N)
def f61_L9 {R : Type} (N : Nat) (t4a : Int) (t4b : Int) (kb : Int × Int × List (List Int) → Option R) (kx2 : Int → (List (List Int)) → Option R) : Int × Int × List (List Int) → Option R :=
  fun (t5, t3_1, o0_2) =>
    cond (decide (t5 < (t4b - t4a)))
      (chk ((decide (0 ≤ t5)) && (decide (t5 < (t4b - t4a)))) <|
      (idx o0_2 (t4a + t5)).bind fun x_2 =>
      chk ((decide (0 ≤ (wi64 (t5 - 1)))) && (decide ((wi64 (t5 - 1)) < (t4b - t4a)))) <|
      (idx o0_2 (t4a + (wi64 (t5 - 1)))).bind fun x_3 =>
      cond (!(eqD (.arr 2 (.int .i64)) x_2 x_3))
        (chk ((decide (0 ≤ t5)) && (decide (t5 < (t4b - t4a)))) <|
        (idx o0_2 (t4a + t5)).bind fun x_4 =>
        chk (inb o0_2 t3_1) <|
        (idx o0_2 t3_1).bind fun x_5 =>
        (idx o0_2 t3_1).bind fun x_6 =>
        kb ((wi64 (t5 + 1)), (wi64 (t3_1 + 1)), (setI o0_2 t3_1 x_4)))
        (kb ((wi64 (t5 + 1)), t3_1, o0_2)))
      (kx2 t3_1 o0_2)
def f61_L4 {R : Type} (N : Nat) (o0_1 : List (List Int)) (kb : Int → Option R) (kret : (List (List Int)) → Option R) (kx0 : Unit → Option R) : Int → Option R :=
  fun t3 =>
    cond (decide (t3 < (len o0_1)))
      (chk (inb o0_1 t3) <|
      (idx o0_1 t3).bind fun x =>
      chk (inb o0_1 (wi64 (t3 - 1))) <|
      (idx o0_1 (wi64 (t3 - 1))).bind fun x_1 =>
      cond (eqD (.arr 2 (.int .i64)) x x_1)
        (chk (((decide (0 ≤ t3)) && (decide (t3 ≤ (len o0_1)))) && (decide ((len o0_1) ≤ (len o0_1)))) <|
        iter (fun w => f61_L9 N t3 (len o0_1) w
          (fun t3_2 o0_3 =>
            chk (((decide (0 ≤ t3_2)) && (decide (t3_2 ≤ (len o0_3)))) && (decide ((len o0_3) ≤ (len o0_3)))) <|
            chk ((decide (0 ≤ t3_2)) && (decide (t3_2 ≤ (len (clearL (List.replicate 2 0 : List Int) o0_3 t3_2 (len o0_3)))))) <|
            kret (sub (clearL (List.replicate 2 0 : List Int) o0_3 t3_2 (len o0_3)) 0 t3_2))) N (1, t3, o0_1))
        (kb (wi64 (t3 + 1))))
      (kx0 ())
def f61 (N : Nat) (o0 : List (List Int)) : Option (((Unit × Unit) × ((List (List Int)) × Unit))) :=
  cond (decide ((len o0) < 2))
    (some (((), ()), (o0, ())))
    (iter (fun w => f61_L4 N o0 w
      (fun o0_4 =>
        some (((), ()), (o0_4, ())))
      (fun (_ : Unit) =>
        some (((), ()), (o0, ())))) N 1)
def fi61 : SForm := ⟨[(0, (.ref 0))], [.row (.arr 2 (.int .i64))]⟩
def fo61 : SForm := ⟨[(2, (.ref 0))], [.row (.arr 2 (.int .i64))]⟩
def c61 (N : Nat) : Callee := .mut fi61 [] fo61 fun d => f61 N d.2.1
def F61_9 : SForm := ⟨[(5, (.val (.int .i64))), (3, (.val (.int .i64))), (4, (.view 0)), (0, (.ref 0))], [.row (.arr 2 (.int .i64))]⟩
def G61_9 (N : Nat) : (R : Type) → F61_9.den → (AExit → St → Option R) → Option R := fun R d k => iter (fun kb => f61_L9 N d.1.2.2.1.1 d.1.2.2.1.2 kb
    (fun y0 y1 => k (.exit 2) (St.of [(3, (.data (.int .i64) y0)), (0, (.ref 0 [] 0))] [.row (.arr 2 (.int .i64)) y1 0]))) N (d.1.1, d.1.2.1, d.2.1)
def F61_4 : SForm := ⟨[(3, (.val (.int .i64))), (0, (.ref 0))], [.row (.arr 2 (.int .i64))]⟩
def G61_4 (N : Nat) : (R : Type) → F61_4.den → (AExit → St → Option R) → Option R := fun R d k => iter (fun kb => f61_L4 N d.2.1 kb
    (fun y0 => k .ret (St.of [(2, (.ref 0 [] 0))] [.row (.arr 2 (.int .i64)) y0 0]))
    (fun _ => k (.exit 0) (St.of [(0, (.ref 0 [] 0))] [.row (.arr 2 (.int .i64)) d.2.1 0]))) N d.1.1
def lp61 (N : Nat) : Nat → Option LoopFn := fun r => cond (Nat.beq r 9) (some fun R sl os k => F61_9.take sl os fun d => G61_9 N R d k) (cond (Nat.beq r 4) (some fun R sl os k => F61_4.take sl os fun d => G61_4 N R d k) (none))
def x61 (N : Nat) : Ctx := { fuel := N, tt := getL ttL, mt := getL mtL, ntmps := 61, env := fun f => (getL [] f).getD [], cut := getL [(4, ⟨[3, 0], []⟩), (9, ⟨[5, 3, 4, 0], []⟩)], exits := fun r => getL ((getL [(4, [(0, ⟨[0], []⟩)]), (9, [(2, ⟨[3, 0], []⟩)])] r).getD []), res := ⟨[2], [(2, none, .row (.arr 2 (.int .i64)))]⟩, own := fun _ => none, lp := lp61 N, eqs := fun T => memN T eqL, ct := fun T => memN T ctL, ms := getMs msL }
noncomputable def b61 : Code := ((Go.Proofs.Try.f61).body).getD .skip
theorem s61_9 (N : Nat) {R : Type} (k : AExit → St → Option R) (t4a : Int) (t4b : Int) (kb : List (Nat × AVal) → List Obj → Option R) (x : Int × Int × List (List Int)) : codeK (x61 N) (loopAt 9 (loopsOf b61)) (St.of [(5, (.data (.int .i64) x.1)), (3, (.data (.int .i64) x.2.1)), (4, (.view 0 [] 0 t4a t4b)), (0, (.ref 0 [] 0))] [.row (.arr 2 (.int .i64)) x.2.2 0]) (kLoop (x61 N) 9 ⟨[5, 3, 4, 0], []⟩ kb k) = f61_L9 N t4a t4b (fun y => kb [(5, (.data (.int .i64) y.1)), (3, (.data (.int .i64) y.2.1)), (4, (.view 0 [] 0 t4a t4b)), (0, (.ref 0 [] 0))] [.row (.arr 2 (.int .i64)) y.2.2 0])
    (fun y0 y1 => k (.exit 2) (St.of [(3, (.data (.int .i64) y0)), (0, (.ref 0 [] 0))] [.row (.arr 2 (.int .i64)) y1 0])) x := by kernel_rfl
theorem l61_9 (N : Nat) : LoopOK (x61 N) (loopAt 9 (loopsOf b61)) :=
  loop_mk (G61_9 N) (by kernel_rfl) (by kernel_rfl) (by kernel_rfl) fun R k d =>
    loop_eq (st := fun (x : Int × Int × List (List Int)) => ([(5, (.data (.int .i64) x.1)), (3, (.data (.int .i64) x.2.1)), (4, (.view 0 [] 0 d.1.2.2.1.1 d.1.2.2.1.2)), (0, (.ref 0 [] 0))], [.row (.arr 2 (.int .i64)) x.2.2 0])) (s61_9 N k d.1.2.2.1.1 d.1.2.2.1.2) N (d.1.1, d.1.2.1, d.2.1)
theorem s61_4 (N : Nat) {R : Type} (k : AExit → St → Option R) (o0_1 : List (List Int)) (kb : List (Nat × AVal) → List Obj → Option R) (x : Int) : codeK (x61 N) (loopAt 4 (loopsOf b61)) (St.of [(3, (.data (.int .i64) x)), (0, (.ref 0 [] 0))] [.row (.arr 2 (.int .i64)) o0_1 0]) (kLoop (x61 N) 4 ⟨[3, 0], []⟩ kb k) = f61_L4 N o0_1 (fun y => kb [(3, (.data (.int .i64) y)), (0, (.ref 0 [] 0))] [.row (.arr 2 (.int .i64)) o0_1 0])
    (fun y0 => k .ret (St.of [(2, (.ref 0 [] 0))] [.row (.arr 2 (.int .i64)) y0 0]))
    (fun _ => k (.exit 0) (St.of [(0, (.ref 0 [] 0))] [.row (.arr 2 (.int .i64)) o0_1 0])) x := by kernel_rfl
theorem l61_4 (N : Nat) : LoopOK (x61 N) (loopAt 4 (loopsOf b61)) :=
  loop_mk (G61_4 N) (by kernel_rfl) (by kernel_rfl) (by kernel_rfl) fun R k d =>
    loop_eq (st := fun (x : Int) => ([(3, (.data (.int .i64) x)), (0, (.ref 0 [] 0))], [.row (.arr 2 (.int .i64)) d.2.1 0])) (s61_4 N k d.2.1) N d.1.1
theorem e61 (N : Nat) (o0 : List (List Int)) : bodyM (x61 N) fo61 b61 (St.of [(0, (.ref 0 [] 0))] [.row (.arr 2 (.int .i64)) o0 0]) = f61 N o0 := by kernel_rfl
theorem k61 (N : Nat) : CalleeOK Go.Proofs.Try.prog 61 (c61 N) :=
  fn_ok_mut (fn := Go.Proofs.Try.f61) (body := b61) (c := x61 N) (rs := [2]) Go.Proofs.Try.func61 (by kernel_rfl) (by kernel_rfl) ⟨ttL_ok, mtL_ok, eqL_ok, ctL_ok, msL_ok, env_nil⟩ mixed (by kernel_rfl) (Nat.le_of_ble_eq_true (by kernel_rfl)) (by kernel_rfl) (by kernel_rfl) (by kernel_rfl) (anchB_ok (by kernel_rfl))
    (loops_ok (by kernel_rfl : loopsOf b61 = [loopAt 4 (loopsOf b61), loopAt 9 (loopsOf b61)]) (.cons (l61_4 N) (.cons (l61_9 N) .nil))) fun d => e61 N d.2.1
def f50 (N : Nat) (a0 : Int) (a1 : List (List Int)) : Option ((Int × (List (List Int) × Unit))) :=
  (f58 N a1).bind fun r =>
  (f59 N () r).bind fun r_1 =>
  (f61 N r_1.2.1).bind fun r_2 =>
  some (a0, (r_2.2.1, ()))
def c50 (N : Nat) : Callee := .pure (.pr (.val (.int .i64)) (.pr (.val (.sl false (.arr 2 (.int .i64)))) .un)) [(.pair (.int .i64) (.pair (.sl true (.arr 2 (.int .i64))) .unit))] fun d => f50 N d.1 d.2.1
def lp50 (N : Nat) : Nat → Option LoopFn := fun r => none
def x50 (N : Nat) : Ctx := { fuel := N, tt := getL ttL, mt := getL mtL, ntmps := 13, env := fun f => (getL [(58, [c58 N]), (59, [c59 N]), (61, [c61 N])] f).getD [], cut := getL [], exits := fun r => getL ((getL [] r).getD []), res := ⟨[4], []⟩, own := fun _ => none, lp := lp50 N, eqs := fun T => memN T eqL, ct := fun T => memN T ctL, ms := getMs msL }
noncomputable def b50 : Code := ((Go.Proofs.Try.f50).body).getD .skip
theorem e50 (N : Nat) (a0 : Int) (a1 : List (List Int)) : bodyK (x50 N) [(.pair (.int .i64) (.pair (.sl true (.arr 2 (.int .i64))) .unit))] [.cell 4 24] b50 (entry (.pr (.val (.int .i64)) (.pr (.val (.sl false (.arr 2 (.int .i64)))) .un)) (a0, (a1, ()))) = f50 N a0 a1 := by kernel_rfl
theorem k50 (N : Nat) : CalleeOK Go.Proofs.Try.prog 50 (c50 N) :=
  fn_ok (fn := Go.Proofs.Try.f50) (body := b50) (c := x50 N) Go.Proofs.Try.func50 (by kernel_rfl) (by kernel_rfl) ⟨ttL_ok, mtL_ok, eqL_ok, ctL_ok, msL_ok, env_cons (forall_mem1 (k58 N)) (env_cons (forall_mem1 (k59 N)) (env_cons (forall_mem1 (k61 N)) (env_nil)))⟩ mixed (by kernel_rfl) (Nat.le_of_ble_eq_true (by kernel_rfl)) (by kernel_rfl) (by decide)
    (loops_ok (by kernel_rfl : loopsOf b50 = []) .nil) fun d => e50 N d.1 d.2.1
def f41_L3 {R : Type} (N : Nat) (t14 : Int) (o1 : List (List Int)) (kb : Int × List (List Int) → Option R) (kx0 : (List (List Int)) → Option R) : Int × List (List Int) → Option R :=
  fun (t15, o0) =>
    cond (decide (t15 < t14))
      (chk (inb o1 t15) <|
      (idx o1 t15).bind fun x =>
      chk (inb x 0) <|
      chk (inb x 0) <|
      (idx x 0).bind fun x_1 =>
      chk (inb o0 x_1) <|
      (idx o0 x_1).bind fun x_2 =>
      chk (inb x 1) <|
      (idx x 1).bind fun x_3 =>
      (idx x 0).bind fun x_4 =>
      (idx o0 x_1).bind fun x_5 =>
      chk (decide ((Nat.succ (List.length x_5)) ≤ room)) <|
      chk (inb o0 x_4) <|
      chk (pathEq [.idx x_4] [.idx x_1]) <|
      (idx o0 x_4).bind fun x_6 =>
      kb ((wi64 (t15 + 1)), (setI o0 x_4 (x_5 ++ (x_3 :: ([] : List Int))))))
      (kx0 o0)
def f41 (N : Nat) (a0 : Int) (a1 : List (List Int)) : Option (List (List Int)) :=
  chk (((decide (0 ≤ a0)) && (decide (a0 ≤ a0))) && (decide (a0 ≤ ((room : Nat) : Int)))) <|
  (f50 N a0 a1).bind fun r =>
  iter (fun w => f41_L3 N (len r.2.1) r.2.1 w
    (fun o0_1 =>
      some o0_1)) N (0, (List.replicate (Int.toNat a0) ([] : List Int) : List (List Int)))
def c41 (N : Nat) : Callee := .pure (.pr (.val (.int .i64)) (.pr (.val (.sl false (.arr 2 (.int .i64)))) .un)) [(.sl false (.sl false (.int .i64)))] fun d => f41 N d.1 d.2.1
def F41_3 : SForm := ⟨[(15, (.val (.int .i64))), (5, (.nv 0)), (13, (.ref 1)), (14, (.val (.int .i64)))], [.nest (.sl true (.int .i64)), .row (.arr 2 (.int .i64))]⟩
def G41_3 (N : Nat) : (R : Type) → F41_3.den → (AExit → St → Option R) → Option R := fun R d k => iter (fun kb => f41_L3 N d.1.2.2.2.1 d.2.2.1 kb
    (fun y0 => k (.exit 0) (St.of [(5, (.nv false 0 [] 0))] [.nest (.sl true (.int .i64)) y0 0 0 none]))) N (d.1.1, d.2.1)
def lp41 (N : Nat) : Nat → Option LoopFn := fun r => cond (Nat.beq r 3) (some fun R sl os k => F41_3.take sl os fun d => G41_3 N R d k) (none)
def x41 (N : Nat) : Ctx := { fuel := N, tt := getL ttL, mt := getL mtL, ntmps := 34, env := fun f => (getL [(50, [c50 N])] f).getD [], cut := getL [(3, ⟨[15, 5, 13, 14], []⟩)], exits := fun r => getL ((getL [(3, [(0, ⟨[5], []⟩)])] r).getD []), res := ⟨[4], []⟩, own := getL [(9, (.sl true (.sl true (.int .i64))))], lp := lp41 N, eqs := fun T => memN T eqL, ct := fun T => memN T ctL, ms := getMs msL }
noncomputable def b41 : Code := ((Go.Proofs.Try.f41).body).getD .skip
theorem s41_3 (N : Nat) {R : Type} (k : AExit → St → Option R) (t14 : Int) (o1 : List (List Int)) (kb : List (Nat × AVal) → List Obj → Option R) (x : Int × List (List Int)) : codeK (x41 N) (loopAt 3 (loopsOf b41)) (St.of [(15, (.data (.int .i64) x.1)), (5, (.nv false 0 [] 0)), (13, (.ref 1 [] 0)), (14, (.data (.int .i64) t14))] [.nest (.sl true (.int .i64)) x.2 0 0 none, .row (.arr 2 (.int .i64)) o1 0]) (kLoop (x41 N) 3 ⟨[15, 5, 13, 14], []⟩ kb k) = f41_L3 N t14 o1 (fun y => kb [(15, (.data (.int .i64) y.1)), (5, (.nv false 0 [] 0)), (13, (.ref 1 [] 0)), (14, (.data (.int .i64) t14))] [.nest (.sl true (.int .i64)) y.2 0 0 none, .row (.arr 2 (.int .i64)) o1 0])
    (fun y0 => k (.exit 0) (St.of [(5, (.nv false 0 [] 0))] [.nest (.sl true (.int .i64)) y0 0 0 none])) x := by kernel_rfl
theorem l41_3 (N : Nat) : LoopOK (x41 N) (loopAt 3 (loopsOf b41)) :=
  loop_mk (G41_3 N) (by kernel_rfl) (by kernel_rfl) (by kernel_rfl) fun R k d =>
    loop_eq (st := fun (x : Int × List (List Int)) => ([(15, (.data (.int .i64) x.1)), (5, (.nv false 0 [] 0)), (13, (.ref 1 [] 0)), (14, (.data (.int .i64) d.1.2.2.2.1))], [.nest (.sl true (.int .i64)) x.2 0 0 none, .row (.arr 2 (.int .i64)) d.2.2.1 0])) (s41_3 N k d.1.2.2.2.1 d.2.2.1) N (d.1.1, d.2.1)
theorem e41 (N : Nat) (a0 : Int) (a1 : List (List Int)) : bodyK (x41 N) [(.sl false (.sl false (.int .i64)))] [.tmp 4] b41 (entry (.pr (.val (.int .i64)) (.pr (.val (.sl false (.arr 2 (.int .i64)))) .un)) (a0, (a1, ()))) = f41 N a0 a1 := by kernel_rfl
theorem k41 (N : Nat) : CalleeOK Go.Proofs.Try.prog 41 (c41 N) :=
  fn_ok (fn := Go.Proofs.Try.f41) (body := b41) (c := x41 N) Go.Proofs.Try.func41 (by kernel_rfl) (by kernel_rfl) ⟨ttL_ok, mtL_ok, eqL_ok, ctL_ok, msL_ok, env_cons (forall_mem1 (k50 N)) (env_nil)⟩ mixed (by kernel_rfl) (Nat.le_of_ble_eq_true (by kernel_rfl)) (by kernel_rfl) (by decide)
    (loops_ok (by kernel_rfl : loopsOf b41 = [loopAt 3 (loopsOf b41)]) (.cons (l41_3 N) .nil)) fun d => e41 N d.1 d.2.1
def f56_L10 {R : Type} (N : Nat) (t0_1 : List (List Int)) (t13_1 : Int) (t14_1 : Int) (kb : (List (Int × (Int × Unit))) × List Int × List Bool → Option R) (kx2 : (List Int) → (List Bool) → (List (Int × (Int × Unit))) → Option R) : (List (Int × (Int × Unit))) × List Int × List Bool → Option R :=
  fun (o0_1, o1_1, o2_1) =>
    cond (decide (0 < (len o0_1)))
      (chk (inb o0_1 (wi64 ((len o0_1) - 1))) <|
      (idx o0_1 (wi64 ((len o0_1) - 1))).bind fun x_3 =>
      (idx o0_1 (wi64 ((len o0_1) - 1))).bind fun x_4 =>
      (idx o0_1 (wi64 ((len o0_1) - 1))).bind fun x_5 =>
      (idx o0_1 (wi64 ((len o0_1) - 1))).bind fun x_6 =>
      (idx t0_1 x_6.1).bind fun x_7 =>
      cond (decide (x_4.2.1 = (len x_7)))
        ((idx o0_1 (wi64 ((len o0_1) - 1))).bind fun x_8 =>
        (idx o0_1 (wi64 ((len o0_1) - 1))).bind fun x_9 =>
        chk (decide ((Nat.succ (List.length o1_1)) ≤ room)) <|
        chk ((decide (0 ≤ (wi64 ((len o0_1) - 1)))) && (decide ((wi64 ((len o0_1) - 1)) ≤ (len o0_1)))) <|
        kb ((sub o0_1 0 (wi64 ((len o0_1) - 1))), (o1_1 ++ (x_9.1 :: ([] : List Int))), o2_1))
        ((idx o0_1 (wi64 ((len o0_1) - 1))).bind fun x_10 =>
        (idx o0_1 (wi64 ((len o0_1) - 1))).bind fun x_11 =>
        (idx t0_1 x_11.1).bind fun x_12 =>
        (idx o0_1 (wi64 ((len o0_1) - 1))).bind fun x_13 =>
        (idx o0_1 (wi64 ((len o0_1) - 1))).bind fun x_14 =>
        (idx x_12 x_14.2.1).bind fun x_15 =>
        (idx o0_1 (wi64 ((len o0_1) - 1))).bind fun x_16 =>
        (idx o0_1 (wi64 ((len o0_1) - 1))).bind fun x_17 =>
        (idx o0_1 (wi64 ((len o0_1) - 1))).bind fun x_18 =>
        (idx o0_1 (wi64 ((len o0_1) - 1))).bind fun x_19 =>
        (idx o0_1 (wi64 ((len o0_1) - 1))).bind fun x_20 =>
        chk (inb o2_1 x_15) <|
        (idx o2_1 x_15).bind fun x_21 =>
        cond (!x_21)
          (chk (inb o2_1 x_15) <|
          (idx o2_1 x_15).bind fun x_22 =>
          (idx o2_1 x_15).bind fun x_23 =>
          chk (decide ((Nat.succ (List.length (setI o0_1 (wi64 ((len o0_1) - 1)) (x_20.1, ((wi64 (x_17.2.1 + 1)), x_20.2.2))))) ≤ room)) <|
          kb (((setI o0_1 (wi64 ((len o0_1) - 1)) (x_20.1, ((wi64 (x_17.2.1 + 1)), x_20.2.2))) ++ ((x_15, (0, ())) :: ([] : List (Int × (Int × Unit))))), o1_1, (setI o2_1 x_15 true)))
          (kb ((setI o0_1 (wi64 ((len o0_1) - 1)) (x_20.1, ((wi64 (x_17.2.1 + 1)), x_20.2.2))), o1_1, o2_1))))
      (kx2 o1_1 o2_1 o0_1)
def f56_L5 {R : Type} (N : Nat) (t0 : List (List Int)) (t13 : Int) (kb : Int × List Int × List Bool × (List (Int × (Int × Unit))) → Option R) (kx0 : (List Int) → Option R) : Int × List Int × List Bool × (List (Int × (Int × Unit))) → Option R :=
  fun (t14, o0, o1, o2) =>
    cond (decide (t14 < t13))
      (chk (inb o1 t14) <|
      (idx o1 t14).bind fun x =>
      cond x
        (kb ((wi64 (t14 + 1)), o0, o1, o2))
        (chk (inb o1 t14) <|
        (idx o1 t14).bind fun x_1 =>
        (idx o1 t14).bind fun x_2 =>
        chk ((decide (0 ≤ 0)) && (decide (0 ≤ (len o2)))) <|
        chk (decide ((Nat.succ (List.length (sub o2 0 0))) ≤ room)) <|
        iter (fun w => f56_L10 N t0 t13 t14 w
          (fun o0_2 o1_2 o2_2 =>
            kb ((wi64 (t14 + 1)), o0_2, o1_2, o2_2))) N (((sub o2 0 0) ++ ((t14, (0, ())) :: ([] : List (Int × (Int × Unit))))), o0, (setI o1 t14 true))))
      (kx0 o0)
def f56 (N : Nat) (a0 : List (List Int)) : Option (List Int) :=
  chk (((decide (0 ≤ (len a0))) && (decide ((len a0) ≤ (len a0)))) && (decide ((len a0) ≤ ((room : Nat) : Int)))) <|
  iter (fun w => f56_L5 N a0 (len a0) w
    (fun o0_3 =>
      some o0_3)) N (0, ([] : List Int), (List.replicate (Int.toNat (len a0)) false : List Bool), ([] : List (Int × (Int × Unit))))
def c56 (N : Nat) : Callee := .pure (.pr (.val (.sl false (.sl false (.int .i64)))) .un) [(.sl true (.int .i64))] fun d => f56 N d.1
def F56_10 : SForm := ⟨[(5, (.ref 0)), (4, (.ref 1)), (3, (.ref 2)), (0, (.val (.sl false (.sl false (.int .i64))))), (13, (.val (.int .i64))), (14, (.val (.int .i64)))], [.row (.pair (.int .i64) (.pair (.int .i64) .unit)), .row (.int .i64), .row .bool]⟩
def G56_10 (N : Nat) : (R : Type) → F56_10.den → (AExit → St → Option R) → Option R := fun R d k => iter (fun kb => f56_L10 N d.1.2.2.2.1 d.1.2.2.2.2.1 d.1.2.2.2.2.2.1 kb
    (fun y3 y4 y5 => k (.exit 2) (St.of [(4, (.ref 0 [] 0)), (3, (.ref 1 [] 0)), (0, (.data (.sl false (.sl false (.int .i64))) d.1.2.2.2.1)), (5, (.ref 2 [] 0)), (13, (.data (.int .i64) d.1.2.2.2.2.1)), (14, (.data (.int .i64) d.1.2.2.2.2.2.1))] [.row (.int .i64) y3 0, .row .bool y4 0, .row (.pair (.int .i64) (.pair (.int .i64) .unit)) y5 0]))) N (d.2.1, d.2.2.1, d.2.2.2.1)
def F56_5 : SForm := ⟨[(14, (.val (.int .i64))), (4, (.ref 0)), (3, (.ref 1)), (0, (.val (.sl false (.sl false (.int .i64))))), (5, (.ref 2)), (13, (.val (.int .i64)))], [.row (.int .i64), .row .bool, .row (.pair (.int .i64) (.pair (.int .i64) .unit))]⟩
def G56_5 (N : Nat) : (R : Type) → F56_5.den → (AExit → St → Option R) → Option R := fun R d k => iter (fun kb => f56_L5 N d.1.2.2.2.1 d.1.2.2.2.2.2.1 kb
    (fun y0 => k (.exit 0) (St.of [(4, (.ref 0 [] 0))] [.row (.int .i64) y0 0]))) N (d.1.1, d.2.1, d.2.2.1, d.2.2.2.1)
def lp56 (N : Nat) : Nat → Option LoopFn := fun r => cond (Nat.beq r 10) (some fun R sl os k => F56_10.take sl os fun d => G56_10 N R d k) (cond (Nat.beq r 5) (some fun R sl os k => F56_5.take sl os fun d => G56_5 N R d k) (none))
def x56 (N : Nat) : Ctx := { fuel := N, tt := getL ttL, mt := getL mtL, ntmps := 98, env := fun f => (getL [] f).getD [], cut := getL [(5, ⟨[14, 4, 3, 0, 5, 13], [(4, none, .row (.int .i64)), (5, none, .row (.pair (.int .i64) (.pair (.int .i64) .unit)))]⟩), (10, ⟨[5, 4, 3, 0, 13, 14], [(5, none, .row (.pair (.int .i64) (.pair (.int .i64) .unit))), (4, none, .row (.int .i64))]⟩)], exits := fun r => getL ((getL [(5, [(0, ⟨[4], []⟩)]), (10, [(2, ⟨[4, 3, 0, 5, 13, 14], []⟩)])] r).getD []), res := ⟨[2], []⟩, own := fun _ => none, lp := lp56 N, eqs := fun T => memN T eqL, ct := fun T => memN T ctL, ms := getMs msL }
noncomputable def b56 : Code := ((Go.Proofs.Try.f56).body).getD .skip
theorem s56_10 (N : Nat) {R : Type} (k : AExit → St → Option R) (t0_1 : List (List Int)) (t13_1 : Int) (t14_1 : Int) (kb : List (Nat × AVal) → List Obj → Option R) (x : (List (Int × (Int × Unit))) × List Int × List Bool) : codeK (x56 N) (loopAt 10 (loopsOf b56)) (St.of [(5, (.ref 0 [] 0)), (4, (.ref 1 [] 0)), (3, (.ref 2 [] 0)), (0, (.data (.sl false (.sl false (.int .i64))) t0_1)), (13, (.data (.int .i64) t13_1)), (14, (.data (.int .i64) t14_1))] [.row (.pair (.int .i64) (.pair (.int .i64) .unit)) x.1 0, .row (.int .i64) x.2.1 0, .row .bool x.2.2 0]) (kLoop (x56 N) 10 ⟨[5, 4, 3, 0, 13, 14], [(5, none, .row (.pair (.int .i64) (.pair (.int .i64) .unit))), (4, none, .row (.int .i64))]⟩ kb k) = f56_L10 N t0_1 t13_1 t14_1 (fun y => kb [(5, (.ref 0 [] 0)), (4, (.ref 1 [] 0)), (3, (.ref 2 [] 0)), (0, (.data (.sl false (.sl false (.int .i64))) t0_1)), (13, (.data (.int .i64) t13_1)), (14, (.data (.int .i64) t14_1))] [.row (.pair (.int .i64) (.pair (.int .i64) .unit)) y.1 0, .row (.int .i64) y.2.1 0, .row .bool y.2.2 0])
    (fun y3 y4 y5 => k (.exit 2) (St.of [(4, (.ref 0 [] 0)), (3, (.ref 1 [] 0)), (0, (.data (.sl false (.sl false (.int .i64))) t0_1)), (5, (.ref 2 [] 0)), (13, (.data (.int .i64) t13_1)), (14, (.data (.int .i64) t14_1))] [.row (.int .i64) y3 0, .row .bool y4 0, .row (.pair (.int .i64) (.pair (.int .i64) .unit)) y5 0])) x := by kernel_rfl
theorem l56_10 (N : Nat) : LoopOK (x56 N) (loopAt 10 (loopsOf b56)) :=
  loop_mk (G56_10 N) (by kernel_rfl) (by kernel_rfl) (by kernel_rfl) fun R k d =>
    loop_eq (st := fun (x : (List (Int × (Int × Unit))) × List Int × List Bool) => ([(5, (.ref 0 [] 0)), (4, (.ref 1 [] 0)), (3, (.ref 2 [] 0)), (0, (.data (.sl false (.sl false (.int .i64))) d.1.2.2.2.1)), (13, (.data (.int .i64) d.1.2.2.2.2.1)), (14, (.data (.int .i64) d.1.2.2.2.2.2.1))], [.row (.pair (.int .i64) (.pair (.int .i64) .unit)) x.1 0, .row (.int .i64) x.2.1 0, .row .bool x.2.2 0])) (s56_10 N k d.1.2.2.2.1 d.1.2.2.2.2.1 d.1.2.2.2.2.2.1) N (d.2.1, d.2.2.1, d.2.2.2.1)
theorem s56_5 (N : Nat) {R : Type} (k : AExit → St → Option R) (t0 : List (List Int)) (t13 : Int) (kb : List (Nat × AVal) → List Obj → Option R) (x : Int × List Int × List Bool × (List (Int × (Int × Unit)))) : codeK (x56 N) (loopAt 5 (loopsOf b56)) (St.of [(14, (.data (.int .i64) x.1)), (4, (.ref 0 [] 0)), (3, (.ref 1 [] 0)), (0, (.data (.sl false (.sl false (.int .i64))) t0)), (5, (.ref 2 [] 0)), (13, (.data (.int .i64) t13))] [.row (.int .i64) x.2.1 0, .row .bool x.2.2.1 0, .row (.pair (.int .i64) (.pair (.int .i64) .unit)) x.2.2.2 0]) (kLoop (x56 N) 5 ⟨[14, 4, 3, 0, 5, 13], [(4, none, .row (.int .i64)), (5, none, .row (.pair (.int .i64) (.pair (.int .i64) .unit)))]⟩ kb k) = f56_L5 N t0 t13 (fun y => kb [(14, (.data (.int .i64) y.1)), (4, (.ref 0 [] 0)), (3, (.ref 1 [] 0)), (0, (.data (.sl false (.sl false (.int .i64))) t0)), (5, (.ref 2 [] 0)), (13, (.data (.int .i64) t13))] [.row (.int .i64) y.2.1 0, .row .bool y.2.2.1 0, .row (.pair (.int .i64) (.pair (.int .i64) .unit)) y.2.2.2 0])
    (fun y0 => k (.exit 0) (St.of [(4, (.ref 0 [] 0))] [.row (.int .i64) y0 0])) x := by kernel_rfl
theorem l56_5 (N : Nat) : LoopOK (x56 N) (loopAt 5 (loopsOf b56)) :=
  loop_mk (G56_5 N) (by kernel_rfl) (by kernel_rfl) (by kernel_rfl) fun R k d =>
    loop_eq (st := fun (x : Int × List Int × List Bool × (List (Int × (Int × Unit)))) => ([(14, (.data (.int .i64) x.1)), (4, (.ref 0 [] 0)), (3, (.ref 1 [] 0)), (0, (.data (.sl false (.sl false (.int .i64))) d.1.2.2.2.1)), (5, (.ref 2 [] 0)), (13, (.data (.int .i64) d.1.2.2.2.2.2.1))], [.row (.int .i64) x.2.1 0, .row .bool x.2.2.1 0, .row (.pair (.int .i64) (.pair (.int .i64) .unit)) x.2.2.2 0])) (s56_5 N k d.1.2.2.2.1 d.1.2.2.2.2.2.1) N (d.1.1, d.2.1, d.2.2.1, d.2.2.2.1)
theorem e56 (N : Nat) (a0 : List (List Int)) : bodyK (x56 N) [(.sl true (.int .i64))] [.tmp 2] b56 (entry (.pr (.val (.sl false (.sl false (.int .i64)))) .un) (a0, ())) = f56 N a0 := by kernel_rfl
theorem k56 (N : Nat) : CalleeOK Go.Proofs.Try.prog 56 (c56 N) :=
  fn_ok (fn := Go.Proofs.Try.f56) (body := b56) (c := x56 N) Go.Proofs.Try.func56 (by kernel_rfl) (by kernel_rfl) ⟨ttL_ok, mtL_ok, eqL_ok, ctL_ok, msL_ok, env_nil⟩ mixed (by kernel_rfl) (Nat.le_of_ble_eq_true (by kernel_rfl)) (by kernel_rfl) (by decide)
    (loops_ok (by kernel_rfl : loopsOf b56 = [loopAt 5 (loopsOf b56), loopAt 10 (loopsOf b56)]) (.cons (l56_5 N) (.cons (l56_10 N) .nil))) fun d => e56 N d.1
def f57_L1 {R : Type} (N : Nat) (kb : Int × Int × List Int → Option R) (kx0 : (List Int) → Option R) : Int × Int × List Int → Option R :=
  fun (t3, t2, o0_1) =>
    cond (decide (t2 < t3))
      (chk (inb o0_1 t3) <|
      (idx o0_1 t3).bind fun x =>
      chk (inb o0_1 t2) <|
      (idx o0_1 t2).bind fun x_1 =>
      chk (inb o0_1 t2) <|
      (idx o0_1 t2).bind fun x_2 =>
      (idx o0_1 t2).bind fun x_3 =>
      chk (inb (setI o0_1 t2 x) t3) <|
      (idx (setI o0_1 t2 x) t3).bind fun x_4 =>
      (idx (setI o0_1 t2 x) t3).bind fun x_5 =>
      kb ((wi64 (t3 - 1)), (wi64 (t2 + 1)), (setI (setI o0_1 t2 x) t3 x_1)))
      (kx0 o0_1)
def f57 (N : Nat) (o0 : List Int) : Option (((Unit × Unit) × ((List Int) × Unit))) :=
  iter (fun w => f57_L1 N w
    (fun o0_2 =>
      some (((), ()), (o0_2, ())))) N ((wi64 ((len o0) - 1)), 0, o0)
def fi57 : SForm := ⟨[(0, (.ref 0))], [.row (.int .i64)]⟩
def fo57 : SForm := ⟨[(0, (.ref 0))], [.row (.int .i64)]⟩
def c57 (N : Nat) : Callee := .mut fi57 [0] fo57 fun d => f57 N d.2.1
def F57_1 : SForm := ⟨[(3, (.val (.int .i64))), (2, (.val (.int .i64))), (0, (.ref 0))], [.row (.int .i64)]⟩
def G57_1 (N : Nat) : (R : Type) → F57_1.den → (AExit → St → Option R) → Option R := fun R d k => iter (fun kb => f57_L1 N kb
    (fun y0 => k (.exit 0) (St.of [(0, (.ref 0 [] 0))] [.row (.int .i64) y0 0]))) N (d.1.1, d.1.2.1, d.2.1)
def lp57 (N : Nat) : Nat → Option LoopFn := fun r => cond (Nat.beq r 1) (some fun R sl os k => F57_1.take sl os fun d => G57_1 N R d k) (none)
def x57 (N : Nat) : Ctx := { fuel := N, tt := getL ttL, mt := getL mtL, ntmps := 28, env := fun f => (getL [] f).getD [], cut := getL [(1, ⟨[3, 2, 0], []⟩)], exits := fun r => getL ((getL [(1, [(0, ⟨[0], []⟩)])] r).getD []), res := ⟨[0], []⟩, own := fun _ => none, lp := lp57 N, eqs := fun T => memN T eqL, ct := fun T => memN T ctL, ms := getMs msL }
noncomputable def b57 : Code := ((Go.Proofs.Try.f57).body).getD .skip
theorem s57_1 (N : Nat) {R : Type} (k : AExit → St → Option R) (kb : List (Nat × AVal) → List Obj → Option R) (x : Int × Int × List Int) : codeK (x57 N) (loopAt 1 (loopsOf b57)) (St.of [(3, (.data (.int .i64) x.1)), (2, (.data (.int .i64) x.2.1)), (0, (.ref 0 [] 0))] [.row (.int .i64) x.2.2 0]) (kLoop (x57 N) 1 ⟨[3, 2, 0], []⟩ kb k) = f57_L1 N (fun y => kb [(3, (.data (.int .i64) y.1)), (2, (.data (.int .i64) y.2.1)), (0, (.ref 0 [] 0))] [.row (.int .i64) y.2.2 0])
    (fun y0 => k (.exit 0) (St.of [(0, (.ref 0 [] 0))] [.row (.int .i64) y0 0])) x := by kernel_rfl
theorem l57_1 (N : Nat) : LoopOK (x57 N) (loopAt 1 (loopsOf b57)) :=
  loop_mk (G57_1 N) (by kernel_rfl) (by kernel_rfl) (by kernel_rfl) fun R k d =>
    loop_eq (st := fun (x : Int × Int × List Int) => ([(3, (.data (.int .i64) x.1)), (2, (.data (.int .i64) x.2.1)), (0, (.ref 0 [] 0))], [.row (.int .i64) x.2.2 0])) (s57_1 N k) N (d.1.1, d.1.2.1, d.2.1)
theorem e57 (N : Nat) (o0 : List Int) : bodyM (x57 N) fo57 b57 (St.of [(0, (.ref 0 [] 0))] [.row (.int .i64) o0 0]) = f57 N o0 := by kernel_rfl
theorem k57 (N : Nat) : CalleeOK Go.Proofs.Try.prog 57 (c57 N) :=
  fn_ok_mut (fn := Go.Proofs.Try.f57) (body := b57) (c := x57 N) (rs := []) Go.Proofs.Try.func57 (by kernel_rfl) (by kernel_rfl) ⟨ttL_ok, mtL_ok, eqL_ok, ctL_ok, msL_ok, env_nil⟩ mixed (by kernel_rfl) (Nat.le_of_ble_eq_true (by kernel_rfl)) (by kernel_rfl) (by kernel_rfl) (by kernel_rfl) (anchB_ok (by kernel_rfl))
    (loops_ok (by kernel_rfl : loopsOf b57 = [loopAt 1 (loopsOf b57)]) (.cons (l57_1 N) .nil)) fun d => e57 N d.2.1
def f49_L4 {R : Type} (N : Nat) (t3 : List (List Int)) (t28 : Int) (o1 : (Int × (List (List Int) × Unit))) (kb : Int × List Int → Option R) (kx0 : (List Int) → Option R) : Int × List Int → Option R :=
  fun (t29, o0) =>
    cond (decide (t29 < t28))
      (chk (inb o0 t29) <|
      (idx o0 t29).bind fun x =>
      (idx o0 t29).bind fun x_1 =>
      kb ((wi64 (t29 + 1)), (setI o0 t29 (-1))))
      (kx0 o0)
def f49_L20 {R : Type} (N : Nat) (t8_1 : Int) (t78 : List Int) (t3_3 : List (List Int)) (t45_2 : Int) (t46_2 : Int) (t79 : Int) (o2_2 : List Int) (o3_1 : (Int × (List (List Int) × Unit))) (kb : Int × List Int × List Int → Option R) (kx6 : (List Int) → (List Int) → Option R) : Int × List Int × List Int → Option R :=
  fun (t80, o0_4, o1_3) =>
    cond (decide (t80 < t79))
      ((idx t78 t80).bind fun x_8 =>
      chk (inb o1_3 x_8) <|
      (idx o1_3 x_8).bind fun x_9 =>
      cond (decide (x_9 < 0))
        (chk (inb o1_3 x_8) <|
        (idx o1_3 x_8).bind fun x_10 =>
        (idx o1_3 x_8).bind fun x_11 =>
        chk (decide ((Nat.succ (List.length o0_4)) ≤ room)) <|
        kb ((wi64 (t80 + 1)), (o0_4 ++ (x_8 :: ([] : List Int))), (setI o1_3 x_8 t8_1)))
        (kb ((wi64 (t80 + 1)), o0_4, o1_3)))
      (kx6 o1_3 o0_4)
def f49_L16 {R : Type} (N : Nat) (t8 : Int) (t3_2 : List (List Int)) (t45_1 : Int) (t46_1 : Int) (o2_1 : List Int) (o3 : (Int × (List (List Int) × Unit))) (kb : List Int × List Int → Option R) (kx4 : (List Int) → Option R) : List Int × List Int → Option R :=
  fun (o0_3, o1_2) =>
    cond (decide (0 < (len o1_2)))
      (chk (inb o1_2 (wi64 ((len o1_2) - 1))) <|
      (idx o1_2 (wi64 ((len o1_2) - 1))).bind fun x_6 =>
      chk ((decide (0 ≤ (wi64 ((len o1_2) - 1)))) && (decide ((wi64 ((len o1_2) - 1)) ≤ (len o1_2)))) <|
      (idx t3_2 x_6).bind fun x_7 =>
      iter (fun w => f49_L20 N t8 x_7 t3_2 t45_1 t46_1 (len x_7) o2_1 o3 w
        (fun o0_5 o1_4 =>
          kb (o0_5, o1_4))) N (0, (sub o1_2 0 (wi64 ((len o1_2) - 1))), o0_3))
      (kx4 o0_3)
def f49_L11 {R : Type} (N : Nat) (t3_1 : List (List Int)) (t45 : Int) (o1_1 : List Int) (o2 : (Int × (List (List Int) × Unit))) (kb : Int × List Int → Option R) (kx2 : (List Int) → Option R) : Int × List Int → Option R :=
  fun (t46, o0_2) =>
    cond (decide (t46 < t45))
      (chk (inb o1_1 t46) <|
      (idx o1_1 t46).bind fun x_2 =>
      chk (inb o0_2 x_2) <|
      (idx o0_2 x_2).bind fun x_3 =>
      cond (decide (0 ≤ x_3))
        (kb ((wi64 (t46 + 1)), o0_2))
        (chk (inb o0_2 x_2) <|
        (idx o0_2 x_2).bind fun x_4 =>
        (idx o0_2 x_2).bind fun x_5 =>
        iter (fun w => f49_L16 N x_2 t3_1 t45 t46 o1_1 o2 w
          (fun o0_6 =>
            kb ((wi64 (t46 + 1)), o0_6))) N ((setI o0_2 x_2 x_2), (x_2 :: ([] : List Int)))))
      (kx2 o0_2)
def f49_L30 {R : Type} (N : Nat) (t104 : Int) (o2_3 : List Int) (kb : Int × List Int × (List (Int × Int)) → Option R) (kx8 : (List Int) → Option R) : Int × List Int × (List (Int × Int)) → Option R :=
  fun (t105, o0_8, o1_5) =>
    cond (decide (t105 < t104))
      (chk (inb o2_3 t105) <|
      (idx o2_3 t105).bind fun x_12 =>
      cond (!(Option.isSome (mget (keyEq (.int .i64)) o1_5 x_12)))
        (chk (decide ((List.length o1_5) ≤ room)) <|
        chk (inb o0_8 t105) <|
        (idx o0_8 t105).bind fun x_13 =>
        (idx o0_8 t105).bind fun x_14 =>
        kb ((wi64 (t105 + 1)), (setI o0_8 t105 (len o1_5)), (mput (keyEq (.int .i64)) o1_5 x_12 (len o1_5))))
        (chk (inb o0_8 t105) <|
        (idx o0_8 t105).bind fun x_15 =>
        (idx o0_8 t105).bind fun x_16 =>
        kb ((wi64 (t105 + 1)), (setI o0_8 t105 (Option.getD (mget (keyEq (.int .i64)) o1_5 x_12) 0)), o1_5)))
      (kx8 o0_8)
def f49 (N : Nat) (a0 : (Int × (List (List Int) × Unit))) : Option (List Int) :=
  (f42 N a0).bind fun r =>
  (f41 N a0.1 r).bind fun r_1 =>
  chk (((decide (0 ≤ a0.1)) && (decide (a0.1 ≤ a0.1))) && (decide (a0.1 ≤ ((room : Nat) : Int)))) <|
  iter (fun w => f49_L4 N r_1 (len (List.replicate (Int.toNat a0.1) 0 : List Int)) a0 w
    (fun o0_1 =>
      (f41 N a0.1 a0.2.1).bind fun r_2 =>
      (f56 N r_2).bind fun r_3 =>
      (f57 N r_3).bind fun r_4 =>
      iter (fun w => f49_L11 N r_1 (len r_4.2.1) r_4.2.1 a0 w
        (fun o0_7 =>
          chk (((decide (0 ≤ a0.1)) && (decide (a0.1 ≤ a0.1))) && (decide (a0.1 ≤ ((room : Nat) : Int)))) <|
          iter (fun w => f49_L30 N (len o0_7) o0_7 w
            (fun o0_9 =>
              some o0_9)) N (0, (List.replicate (Int.toNat a0.1) 0 : List Int), ([] : List (Int × Int))))) N (0, o0_1))) N (0, (List.replicate (Int.toNat a0.1) 0 : List Int))
def c49 (N : Nat) : Callee := .pure (.pr (.val (.pair (.int .i64) (.pair (.sl false (.arr 2 (.int .i64))) .unit))) .un) [(.sl true (.int .i64))] fun d => f49 N d.1
def F49_4 : SForm := ⟨[(29, (.val (.int .i64))), (4, (.ref 0)), (3, (.val (.sl false (.sl false (.int .i64))))), (1, (.bptr 1 [])), (28, (.val (.int .i64)))], [.row (.int .i64), .cell (.val (.pair (.int .i64) (.pair (.sl false (.arr 2 (.int .i64))) .unit)))]⟩
def G49_4 (N : Nat) : (R : Type) → F49_4.den → (AExit → St → Option R) → Option R := fun R d k => iter (fun kb => f49_L4 N d.1.2.2.1 d.1.2.2.2.2.1 d.2.2.1 kb
    (fun y1 => k (.exit 0) (St.of [(4, (.ref 0 [] 0)), (3, (.data (.sl false (.sl false (.int .i64))) d.1.2.2.1)), (1, (.bptr 1 []))] [.row (.int .i64) y1 0, .cell (.data (.pair (.int .i64) (.pair (.sl false (.arr 2 (.int .i64))) .unit)) d.2.2.1)]))) N (d.1.1, d.2.1)
def F49_20 : SForm := ⟨[(80, (.val (.int .i64))), (9, (.ref 0)), (8, (.val (.int .i64))), (4, (.ref 1)), (78, (.val (.sl false (.int .i64)))), (3, (.val (.sl false (.sl false (.int .i64))))), (44, (.ref 2)), (1, (.bptr 3 [])), (45, (.val (.int .i64))), (46, (.val (.int .i64))), (79, (.val (.int .i64)))], [.row (.int .i64), .row (.int .i64), .row (.int .i64), .cell (.val (.pair (.int .i64) (.pair (.sl false (.arr 2 (.int .i64))) .unit)))]⟩
def G49_20 (N : Nat) : (R : Type) → F49_20.den → (AExit → St → Option R) → Option R := fun R d k => iter (fun kb => f49_L20 N d.1.2.2.1 d.1.2.2.2.2.1 d.1.2.2.2.2.2.1 d.1.2.2.2.2.2.2.2.2.1 d.1.2.2.2.2.2.2.2.2.2.1 d.1.2.2.2.2.2.2.2.2.2.2.1 d.2.2.2.1 d.2.2.2.2.1 kb
    (fun y4 y5 => k (.exit 6) (St.of [(8, (.data (.int .i64) d.1.2.2.1)), (4, (.ref 0 [] 0)), (3, (.data (.sl false (.sl false (.int .i64))) d.1.2.2.2.2.2.1)), (9, (.ref 1 [] 0)), (44, (.ref 2 [] 0)), (1, (.bptr 3 [])), (45, (.data (.int .i64) d.1.2.2.2.2.2.2.2.2.1)), (46, (.data (.int .i64) d.1.2.2.2.2.2.2.2.2.2.1))] [.row (.int .i64) y4 0, .row (.int .i64) y5 0, .row (.int .i64) d.2.2.2.1 0, .cell (.data (.pair (.int .i64) (.pair (.sl false (.arr 2 (.int .i64))) .unit)) d.2.2.2.2.1)]))) N (d.1.1, d.2.1, d.2.2.1)
def F49_16 : SForm := ⟨[(8, (.val (.int .i64))), (4, (.ref 0)), (3, (.val (.sl false (.sl false (.int .i64))))), (9, (.ref 1)), (44, (.ref 2)), (1, (.bptr 3 [])), (45, (.val (.int .i64))), (46, (.val (.int .i64)))], [.row (.int .i64), .row (.int .i64), .row (.int .i64), .cell (.val (.pair (.int .i64) (.pair (.sl false (.arr 2 (.int .i64))) .unit)))]⟩
def G49_16 (N : Nat) : (R : Type) → F49_16.den → (AExit → St → Option R) → Option R := fun R d k => iter (fun kb => f49_L16 N d.1.1 d.1.2.2.1 d.1.2.2.2.2.2.2.1 d.1.2.2.2.2.2.2.2.1 d.2.2.2.1 d.2.2.2.2.1 kb
    (fun y3 => k (.exit 4) (St.of [(4, (.ref 0 [] 0)), (3, (.data (.sl false (.sl false (.int .i64))) d.1.2.2.1)), (44, (.ref 1 [] 0)), (1, (.bptr 2 [])), (45, (.data (.int .i64) d.1.2.2.2.2.2.2.1)), (46, (.data (.int .i64) d.1.2.2.2.2.2.2.2.1))] [.row (.int .i64) y3 0, .row (.int .i64) d.2.2.2.1 0, .cell (.data (.pair (.int .i64) (.pair (.sl false (.arr 2 (.int .i64))) .unit)) d.2.2.2.2.1)]))) N (d.2.1, d.2.2.1)
def F49_11 : SForm := ⟨[(46, (.val (.int .i64))), (4, (.ref 0)), (3, (.val (.sl false (.sl false (.int .i64))))), (44, (.ref 1)), (1, (.bptr 2 [])), (45, (.val (.int .i64)))], [.row (.int .i64), .row (.int .i64), .cell (.val (.pair (.int .i64) (.pair (.sl false (.arr 2 (.int .i64))) .unit)))]⟩
def G49_11 (N : Nat) : (R : Type) → F49_11.den → (AExit → St → Option R) → Option R := fun R d k => iter (fun kb => f49_L11 N d.1.2.2.1 d.1.2.2.2.2.2.1 d.2.2.1 d.2.2.2.1 kb
    (fun y0 => k (.exit 2) (St.of [(4, (.ref 0 [] 0)), (1, (.bptr 1 []))] [.row (.int .i64) y0 0, .cell (.data (.pair (.int .i64) (.pair (.sl false (.arr 2 (.int .i64))) .unit)) d.2.2.2.1)]))) N (d.1.1, d.2.1)
def F49_30 : SForm := ⟨[(105, (.val (.int .i64))), (14, (.ref 0)), (13, (.mref 1)), (103, (.ref 2)), (104, (.val (.int .i64)))], [.row (.int .i64), .map (.int .i64) (.int .i64), .row (.int .i64)]⟩
def G49_30 (N : Nat) : (R : Type) → F49_30.den → (AExit → St → Option R) → Option R := fun R d k => iter (fun kb => f49_L30 N d.1.2.2.2.2.1 d.2.2.2.1 kb
    (fun y0 => k (.exit 8) (St.of [(14, (.ref 0 [] 0))] [.row (.int .i64) y0 0]))) N (d.1.1, d.2.1, d.2.2.1)
def lp49 (N : Nat) : Nat → Option LoopFn := fun r => cond (Nat.beq r 4) (some fun R sl os k => F49_4.take sl os fun d => G49_4 N R d k) (cond (Nat.beq r 20) (some fun R sl os k => F49_20.take sl os fun d => G49_20 N R d k) (cond (Nat.beq r 16) (some fun R sl os k => F49_16.take sl os fun d => G49_16 N R d k) (cond (Nat.beq r 11) (some fun R sl os k => F49_11.take sl os fun d => G49_11 N R d k) (cond (Nat.beq r 30) (some fun R sl os k => F49_30.take sl os fun d => G49_30 N R d k) (none)))))
def x49 (N : Nat) : Ctx := { fuel := N, tt := getL ttL, mt := getL mtL, ntmps := 129, env := fun f => (getL [(42, [c42 N]), (41, [c41 N]), (56, [c56 N]), (57, [c57 N])] f).getD [], cut := getL [(4, ⟨[29, 4, 3, 1, 28], []⟩), (11, ⟨[46, 4, 3, 44, 1, 45], []⟩), (16, ⟨[8, 4, 3, 9, 44, 1, 45, 46], []⟩), (20, ⟨[80, 9, 8, 4, 78, 3, 44, 1, 45, 46, 79], [(9, none, .row (.int .i64))]⟩), (30, ⟨[105, 14, 13, 103, 104], []⟩)], exits := fun r => getL ((getL [(4, [(0, ⟨[4, 3, 1], []⟩)]), (11, [(2, ⟨[4, 1], []⟩)]), (16, [(4, ⟨[4, 3, 44, 1, 45, 46], []⟩)]), (20, [(6, ⟨[8, 4, 3, 9, 44, 1, 45, 46], []⟩)]), (30, [(8, ⟨[14], []⟩)])] r).getD []), res := ⟨[2], []⟩, own := fun _ => none, lp := lp49 N, eqs := fun T => memN T eqL, ct := fun T => memN T ctL, ms := getMs msL }
noncomputable def b49 : Code := ((Go.Proofs.Try.f49).body).getD .skip
theorem s49_4 (N : Nat) {R : Type} (k : AExit → St → Option R) (t3 : List (List Int)) (t28 : Int) (o1 : (Int × (List (List Int) × Unit))) (kb : List (Nat × AVal) → List Obj → Option R) (x : Int × List Int) : codeK (x49 N) (loopAt 4 (loopsOf b49)) (St.of [(29, (.data (.int .i64) x.1)), (4, (.ref 0 [] 0)), (3, (.data (.sl false (.sl false (.int .i64))) t3)), (1, (.bptr 1 [])), (28, (.data (.int .i64) t28))] [.row (.int .i64) x.2 0, .cell (.data (.pair (.int .i64) (.pair (.sl false (.arr 2 (.int .i64))) .unit)) o1)]) (kLoop (x49 N) 4 ⟨[29, 4, 3, 1, 28], []⟩ kb k) = f49_L4 N t3 t28 o1 (fun y => kb [(29, (.data (.int .i64) y.1)), (4, (.ref 0 [] 0)), (3, (.data (.sl false (.sl false (.int .i64))) t3)), (1, (.bptr 1 [])), (28, (.data (.int .i64) t28))] [.row (.int .i64) y.2 0, .cell (.data (.pair (.int .i64) (.pair (.sl false (.arr 2 (.int .i64))) .unit)) o1)])
    (fun y1 => k (.exit 0) (St.of [(4, (.ref 0 [] 0)), (3, (.data (.sl false (.sl false (.int .i64))) t3)), (1, (.bptr 1 []))] [.row (.int .i64) y1 0, .cell (.data (.pair (.int .i64) (.pair (.sl false (.arr 2 (.int .i64))) .unit)) o1)])) x := by kernel_rfl
theorem l49_4 (N : Nat) : LoopOK (x49 N) (loopAt 4 (loopsOf b49)) :=
  loop_mk (G49_4 N) (by kernel_rfl) (by kernel_rfl) (by kernel_rfl) fun R k d =>
    loop_eq (st := fun (x : Int × List Int) => ([(29, (.data (.int .i64) x.1)), (4, (.ref 0 [] 0)), (3, (.data (.sl false (.sl false (.int .i64))) d.1.2.2.1)), (1, (.bptr 1 [])), (28, (.data (.int .i64) d.1.2.2.2.2.1))], [.row (.int .i64) x.2 0, .cell (.data (.pair (.int .i64) (.pair (.sl false (.arr 2 (.int .i64))) .unit)) d.2.2.1)])) (s49_4 N k d.1.2.2.1 d.1.2.2.2.2.1 d.2.2.1) N (d.1.1, d.2.1)
theorem s49_20 (N : Nat) {R : Type} (k : AExit → St → Option R) (t8_1 : Int) (t78 : List Int) (t3_3 : List (List Int)) (t45_2 : Int) (t46_2 : Int) (t79 : Int) (o2_2 : List Int) (o3_1 : (Int × (List (List Int) × Unit))) (kb : List (Nat × AVal) → List Obj → Option R) (x : Int × List Int × List Int) : codeK (x49 N) (loopAt 20 (loopsOf b49)) (St.of [(80, (.data (.int .i64) x.1)), (9, (.ref 0 [] 0)), (8, (.data (.int .i64) t8_1)), (4, (.ref 1 [] 0)), (78, (.data (.sl false (.int .i64)) t78)), (3, (.data (.sl false (.sl false (.int .i64))) t3_3)), (44, (.ref 2 [] 0)), (1, (.bptr 3 [])), (45, (.data (.int .i64) t45_2)), (46, (.data (.int .i64) t46_2)), (79, (.data (.int .i64) t79))] [.row (.int .i64) x.2.1 0, .row (.int .i64) x.2.2 0, .row (.int .i64) o2_2 0, .cell (.data (.pair (.int .i64) (.pair (.sl false (.arr 2 (.int .i64))) .unit)) o3_1)]) (kLoop (x49 N) 20 ⟨[80, 9, 8, 4, 78, 3, 44, 1, 45, 46, 79], [(9, none, .row (.int .i64))]⟩ kb k) = f49_L20 N t8_1 t78 t3_3 t45_2 t46_2 t79 o2_2 o3_1 (fun y => kb [(80, (.data (.int .i64) y.1)), (9, (.ref 0 [] 0)), (8, (.data (.int .i64) t8_1)), (4, (.ref 1 [] 0)), (78, (.data (.sl false (.int .i64)) t78)), (3, (.data (.sl false (.sl false (.int .i64))) t3_3)), (44, (.ref 2 [] 0)), (1, (.bptr 3 [])), (45, (.data (.int .i64) t45_2)), (46, (.data (.int .i64) t46_2)), (79, (.data (.int .i64) t79))] [.row (.int .i64) y.2.1 0, .row (.int .i64) y.2.2 0, .row (.int .i64) o2_2 0, .cell (.data (.pair (.int .i64) (.pair (.sl false (.arr 2 (.int .i64))) .unit)) o3_1)])
    (fun y4 y5 => k (.exit 6) (St.of [(8, (.data (.int .i64) t8_1)), (4, (.ref 0 [] 0)), (3, (.data (.sl false (.sl false (.int .i64))) t3_3)), (9, (.ref 1 [] 0)), (44, (.ref 2 [] 0)), (1, (.bptr 3 [])), (45, (.data (.int .i64) t45_2)), (46, (.data (.int .i64) t46_2))] [.row (.int .i64) y4 0, .row (.int .i64) y5 0, .row (.int .i64) o2_2 0, .cell (.data (.pair (.int .i64) (.pair (.sl false (.arr 2 (.int .i64))) .unit)) o3_1)])) x := by kernel_rfl
theorem l49_20 (N : Nat) : LoopOK (x49 N) (loopAt 20 (loopsOf b49)) :=
  loop_mk (G49_20 N) (by kernel_rfl) (by kernel_rfl) (by kernel_rfl) fun R k d =>
    loop_eq (st := fun (x : Int × List Int × List Int) => ([(80, (.data (.int .i64) x.1)), (9, (.ref 0 [] 0)), (8, (.data (.int .i64) d.1.2.2.1)), (4, (.ref 1 [] 0)), (78, (.data (.sl false (.int .i64)) d.1.2.2.2.2.1)), (3, (.data (.sl false (.sl false (.int .i64))) d.1.2.2.2.2.2.1)), (44, (.ref 2 [] 0)), (1, (.bptr 3 [])), (45, (.data (.int .i64) d.1.2.2.2.2.2.2.2.2.1)), (46, (.data (.int .i64) d.1.2.2.2.2.2.2.2.2.2.1)), (79, (.data (.int .i64) d.1.2.2.2.2.2.2.2.2.2.2.1))], [.row (.int .i64) x.2.1 0, .row (.int .i64) x.2.2 0, .row (.int .i64) d.2.2.2.1 0, .cell (.data (.pair (.int .i64) (.pair (.sl false (.arr 2 (.int .i64))) .unit)) d.2.2.2.2.1)])) (s49_20 N k d.1.2.2.1 d.1.2.2.2.2.1 d.1.2.2.2.2.2.1 d.1.2.2.2.2.2.2.2.2.1 d.1.2.2.2.2.2.2.2.2.2.1 d.1.2.2.2.2.2.2.2.2.2.2.1 d.2.2.2.1 d.2.2.2.2.1) N (d.1.1, d.2.1, d.2.2.1)
theorem s49_16 (N : Nat) {R : Type} (k : AExit → St → Option R) (t8 : Int) (t3_2 : List (List Int)) (t45_1 : Int) (t46_1 : Int) (o2_1 : List Int) (o3 : (Int × (List (List Int) × Unit))) (kb : List (Nat × AVal) → List Obj → Option R) (x : List Int × List Int) : codeK (x49 N) (loopAt 16 (loopsOf b49)) (St.of [(8, (.data (.int .i64) t8)), (4, (.ref 0 [] 0)), (3, (.data (.sl false (.sl false (.int .i64))) t3_2)), (9, (.ref 1 [] 0)), (44, (.ref 2 [] 0)), (1, (.bptr 3 [])), (45, (.data (.int .i64) t45_1)), (46, (.data (.int .i64) t46_1))] [.row (.int .i64) x.1 0, .row (.int .i64) x.2 0, .row (.int .i64) o2_1 0, .cell (.data (.pair (.int .i64) (.pair (.sl false (.arr 2 (.int .i64))) .unit)) o3)]) (kLoop (x49 N) 16 ⟨[8, 4, 3, 9, 44, 1, 45, 46], []⟩ kb k) = f49_L16 N t8 t3_2 t45_1 t46_1 o2_1 o3 (fun y => kb [(8, (.data (.int .i64) t8)), (4, (.ref 0 [] 0)), (3, (.data (.sl false (.sl false (.int .i64))) t3_2)), (9, (.ref 1 [] 0)), (44, (.ref 2 [] 0)), (1, (.bptr 3 [])), (45, (.data (.int .i64) t45_1)), (46, (.data (.int .i64) t46_1))] [.row (.int .i64) y.1 0, .row (.int .i64) y.2 0, .row (.int .i64) o2_1 0, .cell (.data (.pair (.int .i64) (.pair (.sl false (.arr 2 (.int .i64))) .unit)) o3)])
    (fun y3 => k (.exit 4) (St.of [(4, (.ref 0 [] 0)), (3, (.data (.sl false (.sl false (.int .i64))) t3_2)), (44, (.ref 1 [] 0)), (1, (.bptr 2 [])), (45, (.data (.int .i64) t45_1)), (46, (.data (.int .i64) t46_1))] [.row (.int .i64) y3 0, .row (.int .i64) o2_1 0, .cell (.data (.pair (.int .i64) (.pair (.sl false (.arr 2 (.int .i64))) .unit)) o3)])) x := by kernel_rfl
theorem l49_16 (N : Nat) : LoopOK (x49 N) (loopAt 16 (loopsOf b49)) :=
  loop_mk (G49_16 N) (by kernel_rfl) (by kernel_rfl) (by kernel_rfl) fun R k d =>
    loop_eq (st := fun (x : List Int × List Int) => ([(8, (.data (.int .i64) d.1.1)), (4, (.ref 0 [] 0)), (3, (.data (.sl false (.sl false (.int .i64))) d.1.2.2.1)), (9, (.ref 1 [] 0)), (44, (.ref 2 [] 0)), (1, (.bptr 3 [])), (45, (.data (.int .i64) d.1.2.2.2.2.2.2.1)), (46, (.data (.int .i64) d.1.2.2.2.2.2.2.2.1))], [.row (.int .i64) x.1 0, .row (.int .i64) x.2 0, .row (.int .i64) d.2.2.2.1 0, .cell (.data (.pair (.int .i64) (.pair (.sl false (.arr 2 (.int .i64))) .unit)) d.2.2.2.2.1)])) (s49_16 N k d.1.1 d.1.2.2.1 d.1.2.2.2.2.2.2.1 d.1.2.2.2.2.2.2.2.1 d.2.2.2.1 d.2.2.2.2.1) N (d.2.1, d.2.2.1)
theorem s49_11 (N : Nat) {R : Type} (k : AExit → St → Option R) (t3_1 : List (List Int)) (t45 : Int) (o1_1 : List Int) (o2 : (Int × (List (List Int) × Unit))) (kb : List (Nat × AVal) → List Obj → Option R) (x : Int × List Int) : codeK (x49 N) (loopAt 11 (loopsOf b49)) (St.of [(46, (.data (.int .i64) x.1)), (4, (.ref 0 [] 0)), (3, (.data (.sl false (.sl false (.int .i64))) t3_1)), (44, (.ref 1 [] 0)), (1, (.bptr 2 [])), (45, (.data (.int .i64) t45))] [.row (.int .i64) x.2 0, .row (.int .i64) o1_1 0, .cell (.data (.pair (.int .i64) (.pair (.sl false (.arr 2 (.int .i64))) .unit)) o2)]) (kLoop (x49 N) 11 ⟨[46, 4, 3, 44, 1, 45], []⟩ kb k) = f49_L11 N t3_1 t45 o1_1 o2 (fun y => kb [(46, (.data (.int .i64) y.1)), (4, (.ref 0 [] 0)), (3, (.data (.sl false (.sl false (.int .i64))) t3_1)), (44, (.ref 1 [] 0)), (1, (.bptr 2 [])), (45, (.data (.int .i64) t45))] [.row (.int .i64) y.2 0, .row (.int .i64) o1_1 0, .cell (.data (.pair (.int .i64) (.pair (.sl false (.arr 2 (.int .i64))) .unit)) o2)])
    (fun y0 => k (.exit 2) (St.of [(4, (.ref 0 [] 0)), (1, (.bptr 1 []))] [.row (.int .i64) y0 0, .cell (.data (.pair (.int .i64) (.pair (.sl false (.arr 2 (.int .i64))) .unit)) o2)])) x := by kernel_rfl
theorem l49_11 (N : Nat) : LoopOK (x49 N) (loopAt 11 (loopsOf b49)) :=
  loop_mk (G49_11 N) (by kernel_rfl) (by kernel_rfl) (by kernel_rfl) fun R k d =>
    loop_eq (st := fun (x : Int × List Int) => ([(46, (.data (.int .i64) x.1)), (4, (.ref 0 [] 0)), (3, (.data (.sl false (.sl false (.int .i64))) d.1.2.2.1)), (44, (.ref 1 [] 0)), (1, (.bptr 2 [])), (45, (.data (.int .i64) d.1.2.2.2.2.2.1))], [.row (.int .i64) x.2 0, .row (.int .i64) d.2.2.1 0, .cell (.data (.pair (.int .i64) (.pair (.sl false (.arr 2 (.int .i64))) .unit)) d.2.2.2.1)])) (s49_11 N k d.1.2.2.1 d.1.2.2.2.2.2.1 d.2.2.1 d.2.2.2.1) N (d.1.1, d.2.1)
theorem s49_30 (N : Nat) {R : Type} (k : AExit → St → Option R) (t104 : Int) (o2_3 : List Int) (kb : List (Nat × AVal) → List Obj → Option R) (x : Int × List Int × (List (Int × Int))) : codeK (x49 N) (loopAt 30 (loopsOf b49)) (St.of [(105, (.data (.int .i64) x.1)), (14, (.ref 0 [] 0)), (13, (.mref 1)), (103, (.ref 2 [] 0)), (104, (.data (.int .i64) t104))] [.row (.int .i64) x.2.1 0, .map (.int .i64) (.int .i64) x.2.2, .row (.int .i64) o2_3 0]) (kLoop (x49 N) 30 ⟨[105, 14, 13, 103, 104], []⟩ kb k) = f49_L30 N t104 o2_3 (fun y => kb [(105, (.data (.int .i64) y.1)), (14, (.ref 0 [] 0)), (13, (.mref 1)), (103, (.ref 2 [] 0)), (104, (.data (.int .i64) t104))] [.row (.int .i64) y.2.1 0, .map (.int .i64) (.int .i64) y.2.2, .row (.int .i64) o2_3 0])
    (fun y0 => k (.exit 8) (St.of [(14, (.ref 0 [] 0))] [.row (.int .i64) y0 0])) x := by kernel_rfl
theorem l49_30 (N : Nat) : LoopOK (x49 N) (loopAt 30 (loopsOf b49)) :=
  loop_mk (G49_30 N) (by kernel_rfl) (by kernel_rfl) (by kernel_rfl) fun R k d =>
    loop_eq (st := fun (x : Int × List Int × (List (Int × Int))) => ([(105, (.data (.int .i64) x.1)), (14, (.ref 0 [] 0)), (13, (.mref 1)), (103, (.ref 2 [] 0)), (104, (.data (.int .i64) d.1.2.2.2.2.1))], [.row (.int .i64) x.2.1 0, .map (.int .i64) (.int .i64) x.2.2, .row (.int .i64) d.2.2.2.1 0])) (s49_30 N k d.1.2.2.2.2.1 d.2.2.2.1) N (d.1.1, d.2.1, d.2.2.1)
theorem e49 (N : Nat) (a0 : (Int × (List (List Int) × Unit))) : bodyK (x49 N) [(.sl true (.int .i64))] [.tmp 2] b49 (entry (.pr (.val (.pair (.int .i64) (.pair (.sl false (.arr 2 (.int .i64))) .unit))) .un) (a0, ())) = f49 N a0 := by kernel_rfl
theorem k49 (N : Nat) : CalleeOK Go.Proofs.Try.prog 49 (c49 N) :=
  fn_ok (fn := Go.Proofs.Try.f49) (body := b49) (c := x49 N) Go.Proofs.Try.func49 (by kernel_rfl) (by kernel_rfl) ⟨ttL_ok, mtL_ok, eqL_ok, ctL_ok, msL_ok, env_cons (forall_mem1 (k42 N)) (env_cons (forall_mem1 (k41 N)) (env_cons (forall_mem1 (k56 N)) (env_cons (forall_mem1 (k57 N)) (env_nil))))⟩ mixed (by kernel_rfl) (Nat.le_of_ble_eq_true (by kernel_rfl)) (by kernel_rfl) (by decide)
    (loops_ok (by kernel_rfl : loopsOf b49 = [loopAt 4 (loopsOf b49), loopAt 11 (loopsOf b49), loopAt 16 (loopsOf b49), loopAt 20 (loopsOf b49), loopAt 30 (loopsOf b49)]) (.cons (l49_4 N) (.cons (l49_11 N) (.cons (l49_16 N) (.cons (l49_20 N) (.cons (l49_30 N) .nil)))))) fun d => e49 N d.1
def f20 (N : Nat) (a0 : (Int × (List (List Int) × Unit))) : Option (List Int × Int) :=
  (f34 N a0).bind fun r =>
  cond (!(decide (r = 0)))
    (some (([] : List Int), r))
    ((f49 N a0).bind fun r_1 =>
    some (r_1, 0))
def c20 (N : Nat) : Callee := .pure (.pr (.val (.pair (.int .i64) (.pair (.sl false (.arr 2 (.int .i64))) .unit))) .un) [(.sl true (.int .i64)), (.int .i64)] fun d => f20 N d.1
def lp20 (N : Nat) : Nat → Option LoopFn := fun r => none
def x20 (N : Nat) : Ctx := { fuel := N, tt := getL ttL, mt := getL mtL, ntmps := 12, env := fun f => (getL [(34, [c34 N]), (49, [c49 N])] f).getD [], cut := getL [], exits := fun r => getL ((getL [] r).getD []), res := ⟨[2, 3], []⟩, own := fun _ => none, lp := lp20 N, eqs := fun T => memN T eqL, ct := fun T => memN T ctL, ms := getMs msL }
noncomputable def b20 : Code := ((Go.Proofs.Try.f20).body).getD .skip
theorem e20 (N : Nat) (a0 : (Int × (List (List Int) × Unit))) : bodyK (x20 N) [(.sl true (.int .i64)), (.int .i64)] [.tmp 2, .tmp 3] b20 (entry (.pr (.val (.pair (.int .i64) (.pair (.sl false (.arr 2 (.int .i64))) .unit))) .un) (a0, ())) = f20 N a0 := by kernel_rfl
theorem k20 (N : Nat) : CalleeOK Go.Proofs.Try.prog 20 (c20 N) :=
  fn_ok (fn := Go.Proofs.Try.f20) (body := b20) (c := x20 N) Go.Proofs.Try.func20 (by kernel_rfl) (by kernel_rfl) ⟨ttL_ok, mtL_ok, eqL_ok, ctL_ok, msL_ok, env_cons (forall_mem1 (k34 N)) (env_cons (forall_mem1 (k49 N)) (env_nil))⟩ mixed (by kernel_rfl) (Nat.le_of_ble_eq_true (by kernel_rfl)) (by kernel_rfl) (by decide)
    (loops_ok (by kernel_rfl : loopsOf b20 = []) .nil) fun d => e20 N d.1
def f98 (N : Nat) (t1 : Int) (o1 : List Int) : Option (((Unit × Unit) × (Unit × ((List Int) × Unit)))) :=
  chk (decide ((Nat.succ (List.length o1)) ≤ room)) <|
  some (((), ()), ((), ((o1 ++ (t1 :: ([] : List Int))), ())))
def fi98 : SForm := ⟨[(0, (.bptr 0 [])), (1, (.ifc 3 (.val (.int .i64))))], [.cell (.ref 1), .row (.int .i64)]⟩
def fo98 : SForm := ⟨[(0, (.bptr 0 []))], [.cell (.ref 1), .row (.int .i64)]⟩
def c98 (N : Nat) : Callee := .mut fi98 [0] fo98 fun d => f98 N d.1.2.1 d.2.2.1
def lp98 (N : Nat) : Nat → Option LoopFn := fun r => none
def x98 (N : Nat) : Ctx := { fuel := N, tt := getL ttL, mt := getL mtL, ntmps := 20, env := fun f => (getL [] f).getD [], cut := getL [], exits := fun r => getL ((getL [] r).getD []), res := ⟨[0], []⟩, own := fun _ => none, lp := lp98 N, eqs := fun T => memN T eqL, ct := fun T => memN T ctL, ms := getMs msL }
noncomputable def b98 : Code := ((Go.Proofs.Try.f98).body).getD .skip
theorem e98 (N : Nat) (t1 : Int) (o1 : List Int) : bodyM (x98 N) fo98 b98 (St.of [(0, (.bptr 0 [])), (1, (.ifc 3 (.data (.int .i64) t1)))] [.cell (.ref 1 [] 0), .row (.int .i64) o1 0]) = f98 N t1 o1 := by kernel_rfl
theorem k98 (N : Nat) : CalleeOK Go.Proofs.Try.prog 98 (c98 N) :=
  fn_ok_mut (fn := Go.Proofs.Try.f98) (body := b98) (c := x98 N) (rs := []) Go.Proofs.Try.func98 (by kernel_rfl) (by kernel_rfl) ⟨ttL_ok, mtL_ok, eqL_ok, ctL_ok, msL_ok, env_nil⟩ mixed (by kernel_rfl) (Nat.le_of_ble_eq_true (by kernel_rfl)) (by kernel_rfl) (by kernel_rfl) (by kernel_rfl) (anchB_ok (by kernel_rfl))
    (loops_ok (by kernel_rfl : loopsOf b98 = []) .nil) fun d => e98 N d.1.2.1 d.2.2.1
def f47 (N : Nat) (a0 : List Int) : Option (Int) :=
  some (len a0)
def c47 (N : Nat) : Callee := .pure (.pr (.val (.sl false (.int .i64))) .un) [(.int .i64)] fun d => f47 N d.1
def lp47 (N : Nat) : Nat → Option LoopFn := fun r => none
def x47 (N : Nat) : Ctx := { fuel := N, tt := getL ttL, mt := getL mtL, ntmps := 5, env := fun f => (getL [] f).getD [], cut := getL [], exits := fun r => getL ((getL [] r).getD []), res := ⟨[2], []⟩, own := fun _ => none, lp := lp47 N, eqs := fun T => memN T eqL, ct := fun T => memN T ctL, ms := getMs msL }
noncomputable def b47 : Code := ((Go.Proofs.Try.f47).body).getD .skip
theorem e47 (N : Nat) (a0 : List Int) : bodyK (x47 N) [(.int .i64)] [.tmp 2] b47 (entry (.pr (.val (.sl false (.int .i64))) .un) (a0, ())) = f47 N a0 := by kernel_rfl
theorem k47 (N : Nat) : CalleeOK Go.Proofs.Try.prog 47 (c47 N) :=
  fn_ok (fn := Go.Proofs.Try.f47) (body := b47) (c := x47 N) Go.Proofs.Try.func47 (by kernel_rfl) (by kernel_rfl) ⟨ttL_ok, mtL_ok, eqL_ok, ctL_ok, msL_ok, env_nil⟩ mixed (by kernel_rfl) (Nat.le_of_ble_eq_true (by kernel_rfl)) (by kernel_rfl) (by decide)
    (loops_ok (by kernel_rfl : loopsOf b47 = []) .nil) fun d => e47 N d.1
def f96 (N : Nat) (a0 : List Int) (a1 : Int) (a2 : Int) : Option (Bool) :=
  (idx a0 a1).bind fun x =>
  (idx a0 a2).bind fun x_1 =>
  some (decide (x < x_1))
def c96 (N : Nat) : Callee := .pure (.pr (.val (.sl false (.int .i64))) (.pr (.val (.int .i64)) (.pr (.val (.int .i64)) .un))) [.bool] fun d => f96 N d.1 d.2.1 d.2.2.1
def lp96 (N : Nat) : Nat → Option LoopFn := fun r => none
def x96 (N : Nat) : Ctx := { fuel := N, tt := getL ttL, mt := getL mtL, ntmps := 16, env := fun f => (getL [] f).getD [], cut := getL [], exits := fun r => getL ((getL [] r).getD []), res := ⟨[6], []⟩, own := fun _ => none, lp := lp96 N, eqs := fun T => memN T eqL, ct := fun T => memN T ctL, ms := getMs msL }
noncomputable def b96 : Code := ((Go.Proofs.Try.f96).body).getD .skip
theorem e96 (N : Nat) (a0 : List Int) (a1 : Int) (a2 : Int) : bodyK (x96 N) [.bool] [.tmp 6] b96 (entry (.pr (.val (.sl false (.int .i64))) (.pr (.val (.int .i64)) (.pr (.val (.int .i64)) .un))) (a0, (a1, (a2, ())))) = f96 N a0 a1 a2 := by kernel_rfl
theorem k96 (N : Nat) : CalleeOK Go.Proofs.Try.prog 96 (c96 N) :=
  fn_ok (fn := Go.Proofs.Try.f96) (body := b96) (c := x96 N) Go.Proofs.Try.func96 (by kernel_rfl) (by kernel_rfl) ⟨ttL_ok, mtL_ok, eqL_ok, ctL_ok, msL_ok, env_nil⟩ mixed (by kernel_rfl) (Nat.le_of_ble_eq_true (by kernel_rfl)) (by kernel_rfl) (by decide)
    (loops_ok (by kernel_rfl : loopsOf b96 = []) .nil) fun d => e96 N d.1 d.2.1 d.2.2.1
def f99 (N : Nat) (t1 : Int) (t2 : Int) (o0 : List Int) : Option (((Unit × Unit) × ((List Int) × Unit))) :=
  chk (inb o0 t2) <|
  (idx o0 t2).bind fun x =>
  chk (inb o0 t1) <|
  (idx o0 t1).bind fun x_1 =>
  chk (inb o0 t1) <|
  (idx o0 t1).bind fun x_2 =>
  (idx o0 t1).bind fun x_3 =>
  chk (inb (setI o0 t1 x) t2) <|
  (idx (setI o0 t1 x) t2).bind fun x_4 =>
  (idx (setI o0 t1 x) t2).bind fun x_5 =>
  some (((), ()), ((setI (setI o0 t1 x) t2 x_1), ()))
def fi99 : SForm := ⟨[(0, (.ref 0)), (1, (.val (.int .i64))), (2, (.val (.int .i64)))], [.row (.int .i64)]⟩
def fo99 : SForm := ⟨[(0, (.ref 0))], [.row (.int .i64)]⟩
def c99 (N : Nat) : Callee := .mut fi99 [0] fo99 fun d => f99 N d.1.2.1 d.1.2.2.1 d.2.1
def lp99 (N : Nat) : Nat → Option LoopFn := fun r => none
def x99 (N : Nat) : Ctx := { fuel := N, tt := getL ttL, mt := getL mtL, ntmps := 20, env := fun f => (getL [] f).getD [], cut := getL [], exits := fun r => getL ((getL [] r).getD []), res := ⟨[0], []⟩, own := fun _ => none, lp := lp99 N, eqs := fun T => memN T eqL, ct := fun T => memN T ctL, ms := getMs msL }
noncomputable def b99 : Code := ((Go.Proofs.Try.f99).body).getD .skip
theorem e99 (N : Nat) (t1 : Int) (t2 : Int) (o0 : List Int) : bodyM (x99 N) fo99 b99 (St.of [(0, (.ref 0 [] 0)), (1, (.data (.int .i64) t1)), (2, (.data (.int .i64) t2))] [.row (.int .i64) o0 0]) = f99 N t1 t2 o0 := by kernel_rfl
theorem k99 (N : Nat) : CalleeOK Go.Proofs.Try.prog 99 (c99 N) :=
  fn_ok_mut (fn := Go.Proofs.Try.f99) (body := b99) (c := x99 N) (rs := []) Go.Proofs.Try.func99 (by kernel_rfl) (by kernel_rfl) ⟨ttL_ok, mtL_ok, eqL_ok, ctL_ok, msL_ok, env_nil⟩ mixed (by kernel_rfl) (Nat.le_of_ble_eq_true (by kernel_rfl)) (by kernel_rfl) (by kernel_rfl) (by kernel_rfl) (anchB_ok (by kernel_rfl))
    (loops_ok (by kernel_rfl : loopsOf b99 = []) .nil) fun d => e99 N d.1.2.1 d.1.2.2.1 d.2.1
def f54_L0 {R : Type} (N : Nat) (kb : Int × List Int → Option R) (kx0 : (List Int) → Option R) : Int × List Int → Option R :=
  fun (t1_1, o1_1) =>
    (cond (decide ((wi64 (Int.tdiv (wi64 (t1_1 - 1)) 2)) = t1_1))
        (some true)
        ((f96 N o1_1 t1_1 (wi64 (Int.tdiv (wi64 (t1_1 - 1)) 2))).bind fun r =>
        some (!r))).bind fun b =>
    cond b
      (kx0 o1_1)
      ((f99 N (wi64 (Int.tdiv (wi64 (t1_1 - 1)) 2)) t1_1 o1_1).bind fun r_1 =>
      kb ((wi64 (Int.tdiv (wi64 (t1_1 - 1)) 2)), r_1.2.1))
def f54 (N : Nat) (t1 : Int) (o1 : List Int) : Option (((Unit × Unit) × (Unit × ((List Int) × Unit)))) :=
  iter (fun w => f54_L0 N w
    (fun o1_2 =>
      some (((), ()), ((), (o1_2, ()))))) N (t1, o1)
def fi54 : SForm := ⟨[(0, (.ifc 57 (.bptr 0 []))), (1, (.val (.int .i64)))], [.cell (.ref 1), .row (.int .i64)]⟩
def fo54 : SForm := ⟨[(0, (.ifc 57 (.bptr 0 [])))], [.cell (.ref 1), .row (.int .i64)]⟩
def c54 (N : Nat) : Callee := .mut fi54 [0] fo54 fun d => f54 N d.1.2.1 d.2.2.1
def F54_0 : SForm := ⟨[(0, (.ifc 57 (.bptr 0 []))), (1, (.val (.int .i64)))], [.cell (.ref 1), .row (.int .i64)]⟩
def G54_0 (N : Nat) : (R : Type) → F54_0.den → (AExit → St → Option R) → Option R := fun R d k => iter (fun kb => f54_L0 N kb
    (fun y0 => k (.exit 0) (St.of [(0, (.ifc 57 (.bptr 0 [])))] [.cell (.ref 1 [] 0), .row (.int .i64) y0 0]))) N (d.1.2.1, d.2.2.1)
def lp54 (N : Nat) : Nat → Option LoopFn := fun r => cond (Nat.beq r 0) (some fun R sl os k => F54_0.take sl os fun d => G54_0 N R d k) (none)
def x54 (N : Nat) : Ctx := { fuel := N, tt := getL ttL, mt := getL mtL, ntmps := 23, env := fun f => (getL [(96, [c96 N]), (99, [c99 N])] f).getD [], cut := getL [(0, ⟨[0, 1], []⟩)], exits := fun r => getL ((getL [(0, [(0, ⟨[0], []⟩)])] r).getD []), res := ⟨[0], []⟩, own := fun _ => none, lp := lp54 N, eqs := fun T => memN T eqL, ct := fun T => memN T ctL, ms := getMs msL }
noncomputable def b54 : Code := ((Go.Proofs.Try.f54).body).getD .skip
theorem s54_0 (N : Nat) {R : Type} (k : AExit → St → Option R) (kb : List (Nat × AVal) → List Obj → Option R) (x : Int × List Int) : codeK (x54 N) (loopAt 0 (loopsOf b54)) (St.of [(0, (.ifc 57 (.bptr 0 []))), (1, (.data (.int .i64) x.1))] [.cell (.ref 1 [] 0), .row (.int .i64) x.2 0]) (kLoop (x54 N) 0 ⟨[0, 1], []⟩ kb k) = f54_L0 N (fun y => kb [(0, (.ifc 57 (.bptr 0 []))), (1, (.data (.int .i64) y.1))] [.cell (.ref 1 [] 0), .row (.int .i64) y.2 0])
    (fun y0 => k (.exit 0) (St.of [(0, (.ifc 57 (.bptr 0 [])))] [.cell (.ref 1 [] 0), .row (.int .i64) y0 0])) x := by kernel_rfl
theorem l54_0 (N : Nat) : LoopOK (x54 N) (loopAt 0 (loopsOf b54)) :=
  loop_mk (G54_0 N) (by kernel_rfl) (by kernel_rfl) (by kernel_rfl) fun R k d =>
    loop_eq (st := fun (x : Int × List Int) => ([(0, (.ifc 57 (.bptr 0 []))), (1, (.data (.int .i64) x.1))], [.cell (.ref 1 [] 0), .row (.int .i64) x.2 0])) (s54_0 N k) N (d.1.2.1, d.2.2.1)
theorem e54 (N : Nat) (t1 : Int) (o1 : List Int) : bodyM (x54 N) fo54 b54 (St.of [(0, (.ifc 57 (.bptr 0 []))), (1, (.data (.int .i64) t1))] [.cell (.ref 1 [] 0), .row (.int .i64) o1 0]) = f54 N t1 o1 := by kernel_rfl
theorem k54 (N : Nat) : CalleeOK Go.Proofs.Try.prog 54 (c54 N) :=
  fn_ok_mut (fn := Go.Proofs.Try.f54) (body := b54) (c := x54 N) (rs := []) Go.Proofs.Try.func54 (by kernel_rfl) (by kernel_rfl) ⟨ttL_ok, mtL_ok, eqL_ok, ctL_ok, msL_ok, env_cons (forall_mem1 (k96 N)) (env_cons (forall_mem1 (k99 N)) (env_nil))⟩ mixed (by kernel_rfl) (Nat.le_of_ble_eq_true (by kernel_rfl)) (by kernel_rfl) (by kernel_rfl) (by kernel_rfl) (anchB_ok (by kernel_rfl))
    (loops_ok (by kernel_rfl : loopsOf b54 = [loopAt 0 (loopsOf b54)]) (.cons (l54_0 N) .nil)) fun d => e54 N d.1.2.1 d.2.2.1
def f46 (N : Nat) (t1 : Int) (o1 : List Int) : Option (((Unit × Unit) × (Unit × ((List Int) × Unit)))) :=
  (f98 N t1 o1).bind fun r =>
  (f47 N r.2.2.1).bind fun r_1 =>
  (f54 N (wi64 (r_1 - 1)) r.2.2.1).bind fun r_2 =>
  some (((), ()), ((), (r_2.2.2.1, ())))
def fi46 : SForm := ⟨[(0, (.ifc 57 (.bptr 0 []))), (1, (.ifc 3 (.val (.int .i64))))], [.cell (.ref 1), .row (.int .i64)]⟩
def fo46 : SForm := ⟨[(0, (.ifc 57 (.bptr 0 [])))], [.cell (.ref 1), .row (.int .i64)]⟩
def c46 (N : Nat) : Callee := .mut fi46 [0] fo46 fun d => f46 N d.1.2.1 d.2.2.1
def lp46 (N : Nat) : Nat → Option LoopFn := fun r => none
def x46 (N : Nat) : Ctx := { fuel := N, tt := getL ttL, mt := getL mtL, ntmps := 12, env := fun f => (getL [(98, [c98 N]), (47, [c47 N]), (54, [c54 N])] f).getD [], cut := getL [], exits := fun r => getL ((getL [] r).getD []), res := ⟨[0], []⟩, own := fun _ => none, lp := lp46 N, eqs := fun T => memN T eqL, ct := fun T => memN T ctL, ms := getMs msL }
noncomputable def b46 : Code := ((Go.Proofs.Try.f46).body).getD .skip
theorem e46 (N : Nat) (t1 : Int) (o1 : List Int) : bodyM (x46 N) fo46 b46 (St.of [(0, (.ifc 57 (.bptr 0 []))), (1, (.ifc 3 (.data (.int .i64) t1)))] [.cell (.ref 1 [] 0), .row (.int .i64) o1 0]) = f46 N t1 o1 := by kernel_rfl
theorem k46 (N : Nat) : CalleeOK Go.Proofs.Try.prog 46 (c46 N) :=
  fn_ok_mut (fn := Go.Proofs.Try.f46) (body := b46) (c := x46 N) (rs := []) Go.Proofs.Try.func46 (by kernel_rfl) (by kernel_rfl) ⟨ttL_ok, mtL_ok, eqL_ok, ctL_ok, msL_ok, env_cons (forall_mem1 (k98 N)) (env_cons (forall_mem1 (k47 N)) (env_cons (forall_mem1 (k54 N)) (env_nil)))⟩ mixed (by kernel_rfl) (Nat.le_of_ble_eq_true (by kernel_rfl)) (by kernel_rfl) (by kernel_rfl) (by kernel_rfl) (anchB_ok (by kernel_rfl))
    (loops_ok (by kernel_rfl : loopsOf b46 = []) .nil) fun d => e46 N d.1.2.1 d.2.2.1
def f55_L2 {R : Type} (N : Nat) (t1_1 : Int) (t2_1 : Int) (kb : Int × List Int → Option R) (kx0 : Int → (List Int) → Option R) : Int × List Int → Option R :=
  fun (t7, o1_1) =>
    (cond (decide (t2_1 ≤ (wi64 ((wi64 (2 * t7)) + 1))))
        (some true)
        (some (decide ((wi64 ((wi64 (2 * t7)) + 1)) < 0)))).bind fun b =>
    cond b
      (kx0 t7 o1_1)
      ((cond (decide ((wi64 ((wi64 ((wi64 (2 * t7)) + 1)) + 1)) < t2_1))
          ((f96 N o1_1 (wi64 ((wi64 ((wi64 (2 * t7)) + 1)) + 1)) (wi64 ((wi64 (2 * t7)) + 1))).bind fun r =>
          some r)
          (some false)).bind fun b_1 =>
      cond b_1
        ((f96 N o1_1 (wi64 ((wi64 ((wi64 (2 * t7)) + 1)) + 1)) t7).bind fun r_1 =>
        cond (!r_1)
          (kx0 t7 o1_1)
          ((f99 N t7 (wi64 ((wi64 ((wi64 (2 * t7)) + 1)) + 1)) o1_1).bind fun r_2 =>
          kb ((wi64 ((wi64 ((wi64 (2 * t7)) + 1)) + 1)), r_2.2.1)))
        ((f96 N o1_1 (wi64 ((wi64 (2 * t7)) + 1)) t7).bind fun r_3 =>
        cond (!r_3)
          (kx0 t7 o1_1)
          ((f99 N t7 (wi64 ((wi64 (2 * t7)) + 1)) o1_1).bind fun r_4 =>
          kb ((wi64 ((wi64 (2 * t7)) + 1)), r_4.2.1))))
def f55 (N : Nat) (t1 : Int) (t2 : Int) (o1 : List Int) : Option (((Unit × (Bool × Unit)) × (Unit × ((List Int) × Unit)))) :=
  iter (fun w => f55_L2 N t1 t2 w
    (fun t7_1 o1_2 =>
      some (((), ((decide (t1 < t7_1)), ())), ((), (o1_2, ()))))) N (t1, o1)
def fi55 : SForm := ⟨[(0, (.ifc 57 (.bptr 0 []))), (1, (.val (.int .i64))), (2, (.val (.int .i64)))], [.cell (.ref 1), .row (.int .i64)]⟩
def fo55 : SForm := ⟨[(0, (.ifc 57 (.bptr 0 []))), (6, (.val .bool))], [.cell (.ref 1), .row (.int .i64)]⟩
def c55 (N : Nat) : Callee := .mut fi55 [0] fo55 fun d => f55 N d.1.2.1 d.1.2.2.1 d.2.2.1
def F55_2 : SForm := ⟨[(0, (.ifc 57 (.bptr 0 []))), (1, (.val (.int .i64))), (7, (.val (.int .i64))), (2, (.val (.int .i64)))], [.cell (.ref 1), .row (.int .i64)]⟩
def G55_2 (N : Nat) : (R : Type) → F55_2.den → (AExit → St → Option R) → Option R := fun R d k => iter (fun kb => f55_L2 N d.1.2.1 d.1.2.2.2.1 kb
    (fun y1 y2 => k (.exit 0) (St.of [(0, (.ifc 57 (.bptr 0 []))), (1, (.data (.int .i64) d.1.2.1)), (7, (.data (.int .i64) y1))] [.cell (.ref 1 [] 0), .row (.int .i64) y2 0]))) N (d.1.2.2.1, d.2.2.1)
def lp55 (N : Nat) : Nat → Option LoopFn := fun r => cond (Nat.beq r 2) (some fun R sl os k => F55_2.take sl os fun d => G55_2 N R d k) (none)
def x55 (N : Nat) : Ctx := { fuel := N, tt := getL ttL, mt := getL mtL, ntmps := 48, env := fun f => (getL [(96, [c96 N]), (99, [c99 N])] f).getD [], cut := getL [(2, ⟨[0, 1, 7, 2], []⟩)], exits := fun r => getL ((getL [(2, [(0, ⟨[0, 1, 7], []⟩)])] r).getD []), res := ⟨[0, 6], []⟩, own := fun _ => none, lp := lp55 N, eqs := fun T => memN T eqL, ct := fun T => memN T ctL, ms := getMs msL }
noncomputable def b55 : Code := ((Go.Proofs.Try.f55).body).getD .skip
theorem s55_2 (N : Nat) {R : Type} (k : AExit → St → Option R) (t1_1 : Int) (t2_1 : Int) (kb : List (Nat × AVal) → List Obj → Option R) (x : Int × List Int) : codeK (x55 N) (loopAt 2 (loopsOf b55)) (St.of [(0, (.ifc 57 (.bptr 0 []))), (1, (.data (.int .i64) t1_1)), (7, (.data (.int .i64) x.1)), (2, (.data (.int .i64) t2_1))] [.cell (.ref 1 [] 0), .row (.int .i64) x.2 0]) (kLoop (x55 N) 2 ⟨[0, 1, 7, 2], []⟩ kb k) = f55_L2 N t1_1 t2_1 (fun y => kb [(0, (.ifc 57 (.bptr 0 []))), (1, (.data (.int .i64) t1_1)), (7, (.data (.int .i64) y.1)), (2, (.data (.int .i64) t2_1))] [.cell (.ref 1 [] 0), .row (.int .i64) y.2 0])
    (fun y1 y2 => k (.exit 0) (St.of [(0, (.ifc 57 (.bptr 0 []))), (1, (.data (.int .i64) t1_1)), (7, (.data (.int .i64) y1))] [.cell (.ref 1 [] 0), .row (.int .i64) y2 0])) x := by kernel_rfl
theorem l55_2 (N : Nat) : LoopOK (x55 N) (loopAt 2 (loopsOf b55)) :=
  loop_mk (G55_2 N) (by kernel_rfl) (by kernel_rfl) (by kernel_rfl) fun R k d =>
    loop_eq (st := fun (x : Int × List Int) => ([(0, (.ifc 57 (.bptr 0 []))), (1, (.data (.int .i64) d.1.2.1)), (7, (.data (.int .i64) x.1)), (2, (.data (.int .i64) d.1.2.2.2.1))], [.cell (.ref 1 [] 0), .row (.int .i64) x.2 0])) (s55_2 N k d.1.2.1 d.1.2.2.2.1) N (d.1.2.2.1, d.2.2.1)
theorem e55 (N : Nat) (t1 : Int) (t2 : Int) (o1 : List Int) : bodyM (x55 N) fo55 b55 (St.of [(0, (.ifc 57 (.bptr 0 []))), (1, (.data (.int .i64) t1)), (2, (.data (.int .i64) t2))] [.cell (.ref 1 [] 0), .row (.int .i64) o1 0]) = f55 N t1 t2 o1 := by kernel_rfl
theorem k55 (N : Nat) : CalleeOK Go.Proofs.Try.prog 55 (c55 N) :=
  fn_ok_mut (fn := Go.Proofs.Try.f55) (body := b55) (c := x55 N) (rs := [6]) Go.Proofs.Try.func55 (by kernel_rfl) (by kernel_rfl) ⟨ttL_ok, mtL_ok, eqL_ok, ctL_ok, msL_ok, env_cons (forall_mem1 (k96 N)) (env_cons (forall_mem1 (k99 N)) (env_nil))⟩ mixed (by kernel_rfl) (Nat.le_of_ble_eq_true (by kernel_rfl)) (by kernel_rfl) (by kernel_rfl) (by kernel_rfl) (anchB_ok (by kernel_rfl))
    (loops_ok (by kernel_rfl : loopsOf b55 = [loopAt 2 (loopsOf b55)]) (.cons (l55_2 N) .nil)) fun d => e55 N d.1.2.1 d.1.2.2.1 d.2.2.1
def f97 (N : Nat) (o1 : List Int) : Option (((Unit × (Int × Unit)) × ((Int × Int) × ((List Int) × Unit)))) :=
  chk (inb o1 (wi64 ((len o1) - 1))) <|
  (idx o1 (wi64 ((len o1) - 1))).bind fun x =>
  chk ((decide (0 ≤ (wi64 ((len o1) - 1)))) && (decide ((wi64 ((len o1) - 1)) ≤ (len o1)))) <|
  some (((), (x, ())), ((0, (wi64 ((len o1) - 1))), (o1, ())))
def fi97 : SForm := ⟨[(0, (.bptr 0 []))], [.cell (.ref 1), .row (.int .i64)]⟩
def fo97 : SForm := ⟨[(0, (.bptr 0 [])), (2, (.ifc 3 (.val (.int .i64))))], [.cell (.view 1), .row (.int .i64)]⟩
def c97 (N : Nat) : Callee := .mut fi97 [0] fo97 fun d => f97 N d.2.2.1
def lp97 (N : Nat) : Nat → Option LoopFn := fun r => none
def x97 (N : Nat) : Ctx := { fuel := N, tt := getL ttL, mt := getL mtL, ntmps := 23, env := fun f => (getL [] f).getD [], cut := getL [], exits := fun r => getL ((getL [] r).getD []), res := ⟨[0, 2], []⟩, own := fun _ => none, lp := lp97 N, eqs := fun T => memN T eqL, ct := fun T => memN T ctL, ms := getMs msL }
noncomputable def b97 : Code := ((Go.Proofs.Try.f97).body).getD .skip
theorem e97 (N : Nat) (o1 : List Int) : bodyM (x97 N) fo97 b97 (St.of [(0, (.bptr 0 []))] [.cell (.ref 1 [] 0), .row (.int .i64) o1 0]) = f97 N o1 := by kernel_rfl
theorem k97 (N : Nat) : CalleeOK Go.Proofs.Try.prog 97 (c97 N) :=
  fn_ok_mut (fn := Go.Proofs.Try.f97) (body := b97) (c := x97 N) (rs := [2]) Go.Proofs.Try.func97 (by kernel_rfl) (by kernel_rfl) ⟨ttL_ok, mtL_ok, eqL_ok, ctL_ok, msL_ok, env_nil⟩ mixed (by kernel_rfl) (Nat.le_of_ble_eq_true (by kernel_rfl)) (by kernel_rfl) (by kernel_rfl) (by kernel_rfl) (anchB_ok (by kernel_rfl))
    (loops_ok (by kernel_rfl : loopsOf b97 = []) .nil) fun d => e97 N d.2.2.1
def f48 (N : Nat) (o1 : List Int) : Option (((Unit × (Int × Unit)) × ((Int × Int) × ((List Int) × Unit)))) :=
  (f47 N o1).bind fun r =>
  (f99 N 0 (wi64 (r - 1)) o1).bind fun r_1 =>
  (f55 N 0 (wi64 (r - 1)) r_1.2.1).bind fun r_2 =>
  (f97 N r_2.2.2.1).bind fun r_3 =>
  some (((), (r_3.1.2.1, ())), ((r_3.2.1.1, r_3.2.1.2), (r_3.2.2.1, ())))
def fi48 : SForm := ⟨[(0, (.ifc 57 (.bptr 0 [])))], [.cell (.ref 1), .row (.int .i64)]⟩
def fo48 : SForm := ⟨[(0, (.ifc 57 (.bptr 0 []))), (2, (.ifc 3 (.val (.int .i64))))], [.cell (.view 1), .row (.int .i64)]⟩
def c48 (N : Nat) : Callee := .mut fi48 [0] fo48 fun d => f48 N d.2.2.1
def lp48 (N : Nat) : Nat → Option LoopFn := fun r => none
def x48 (N : Nat) : Ctx := { fuel := N, tt := getL ttL, mt := getL mtL, ntmps := 15, env := fun f => (getL [(47, [c47 N]), (99, [c99 N]), (55, [c55 N]), (97, [c97 N])] f).getD [], cut := getL [], exits := fun r => getL ((getL [] r).getD []), res := ⟨[0, 2], []⟩, own := fun _ => none, lp := lp48 N, eqs := fun T => memN T eqL, ct := fun T => memN T ctL, ms := getMs msL }
noncomputable def b48 : Code := ((Go.Proofs.Try.f48).body).getD .skip
theorem e48 (N : Nat) (o1 : List Int) : bodyM (x48 N) fo48 b48 (St.of [(0, (.ifc 57 (.bptr 0 [])))] [.cell (.ref 1 [] 0), .row (.int .i64) o1 0]) = f48 N o1 := by kernel_rfl
theorem k48 (N : Nat) : CalleeOK Go.Proofs.Try.prog 48 (c48 N) :=
  fn_ok_mut (fn := Go.Proofs.Try.f48) (body := b48) (c := x48 N) (rs := [2]) Go.Proofs.Try.func48 (by kernel_rfl) (by kernel_rfl) ⟨ttL_ok, mtL_ok, eqL_ok, ctL_ok, msL_ok, env_cons (forall_mem1 (k47 N)) (env_cons (forall_mem1 (k99 N)) (env_cons (forall_mem1 (k55 N)) (env_cons (forall_mem1 (k97 N)) (env_nil))))⟩ mixed (by kernel_rfl) (Nat.le_of_ble_eq_true (by kernel_rfl)) (by kernel_rfl) (by kernel_rfl) (by kernel_rfl) (anchB_ok (by kernel_rfl))
    (loops_ok (by kernel_rfl : loopsOf b48 = []) .nil) fun d => e48 N d.2.2.1
def f18_L10 {R : Type} (N : Nat) (t38 : List Int) (t32_1 : List (List Int)) (t5_1 : List (List Int)) (t33_1 : Int) (t34_1 : Int) (t39 : Int) (o1_1 : (Int × (List (List Int) × Unit))) (kb : Int × List Int → Option R) (kx2 : (List Int) → Option R) : Int × List Int → Option R :=
  fun (t40, o0_1) =>
    cond (decide (t40 < t39))
      ((idx t38 t40).bind fun x_1 =>
      chk (inb o0_1 x_1) <|
      (idx o0_1 x_1).bind fun x_2 =>
      chk (inb o0_1 x_1) <|
      (idx o0_1 x_1).bind fun x_3 =>
      (idx o0_1 x_1).bind fun x_4 =>
      kb ((wi64 (t40 + 1)), (setI o0_1 x_1 (wi64 (x_2 + 1)))))
      (kx2 o0_1)
def f18_L7 {R : Type} (N : Nat) (t32 : List (List Int)) (t5 : List (List Int)) (t33 : Int) (o1 : (Int × (List (List Int) × Unit))) (kb : Int × List Int → Option R) (kx0 : (List Int) → Option R) : Int × List Int → Option R :=
  fun (t34, o0) =>
    cond (decide (t34 < t33))
      ((idx t32 t34).bind fun x =>
      iter (fun w => f18_L10 N x t32 t5 t33 t34 (len x) o1 w
        (fun o0_2 =>
          kb ((wi64 (t34 + 1)), o0_2))) N (0, o0))
      (kx0 o0)
def f18_L17 {R : Type} (N : Nat) (t5_2 : List (List Int)) (t55 : Int) (o2 : List Int) (o3 : (Int × (List (List Int) × Unit))) (kb : Int × List Int → Option R) (kx4 : (List Int) → Option R) : Int × List Int → Option R :=
  fun (t56, o1_2) =>
    cond (decide (t56 < t55))
      (chk (inb o2 t56) <|
      (idx o2 t56).bind fun x_5 =>
      cond (decide (x_5 = 0))
        ((f46 N t56 o1_2).bind fun r_2 =>
        kb ((wi64 (t56 + 1)), r_2.2.2.1))
        (kb ((wi64 (t56 + 1)), o1_2)))
      (kx4 o1_2)
def f18_L27 {R : Type} (N : Nat) (t89 : List Int) (t5_4 : List (List Int)) (t90 : Int) (o3_2 : List Int) (o4_1 : (Int × (List (List Int) × Unit))) (kb : Int × List Int × List Int → Option R) (kx8 : (List Int) → (List Int) → Option R) : Int × List Int × List Int → Option R :=
  fun (t91, o1_5, o2_2) =>
    cond (decide (t91 < t90))
      ((idx t89 t91).bind fun x_7 =>
      chk (inb o2_2 x_7) <|
      (idx o2_2 x_7).bind fun x_8 =>
      chk (inb o2_2 x_7) <|
      (idx o2_2 x_7).bind fun x_9 =>
      (idx o2_2 x_7).bind fun x_10 =>
      chk (inb (setI o2_2 x_7 (wi64 (x_8 - 1))) x_7) <|
      (idx (setI o2_2 x_7 (wi64 (x_8 - 1))) x_7).bind fun x_11 =>
      cond (decide (x_11 = 0))
        ((f46 N x_7 o1_5).bind fun r_5 =>
        kb ((wi64 (t91 + 1)), r_5.2.2.1, (setI o2_2 x_7 (wi64 (x_8 - 1)))))
        (kb ((wi64 (t91 + 1)), o1_5, (setI o2_2 x_7 (wi64 (x_8 - 1))))))
      (kx8 o1_5 o2_2)
def f18_L23 {R : Type} (N : Nat) (t5_3 : List (List Int)) (o4 : (Int × (List (List Int) × Unit))) (kb : List Int × List Int × List Int → Option R) (kx6 : (List Int) → Option R) : List Int × List Int × List Int → Option R :=
  fun (o1_4, o2_1, o3_1) =>
    (f47 N o1_4).bind fun r_3 =>
    cond (decide (0 < r_3))
      ((f48 N o1_4).bind fun r_4 =>
      chk (decide ((Nat.succ (List.length o3_1)) ≤ room)) <|
      (idx t5_3 r_4.1.2.1).bind fun x_6 =>
      iter (fun w => f18_L27 N x_6 t5_3 (len x_6) (o3_1 ++ (r_4.1.2.1 :: ([] : List Int))) o4 w
        (fun o1_6 o2_3 =>
          kb (o1_6, o2_3, (o3_1 ++ (r_4.1.2.1 :: ([] : List Int)))))) N (0, (sub r_4.2.2.1 r_4.2.1.1 r_4.2.1.2), o2_1))
      (kx6 o3_1)
def f18 (N : Nat) (a0 : (Int × (List (List Int) × Unit))) : Option (List Int × Int) :=
  (f34 N a0).bind fun r =>
  cond (!(decide (r = 0)))
    (some (([] : List Int), r))
    ((f41 N a0.1 a0.2.1).bind fun r_1 =>
    chk (((decide (0 ≤ a0.1)) && (decide (a0.1 ≤ a0.1))) && (decide (a0.1 ≤ ((room : Nat) : Int)))) <|
    iter (fun w => f18_L7 N r_1 r_1 (len r_1) a0 w
      (fun o0_3 =>
        iter (fun w => f18_L17 N r_1 (len o0_3) o0_3 a0 w
          (fun o1_3 =>
            iter (fun w => f18_L23 N r_1 a0 w
              (fun o0_4 =>
                cond (decide ((len o0_4) < a0.1))
                  (some (([] : List Int), 10))
                  (some (o0_4, 0)))) N (o1_3, o0_3, ([] : List Int)))) N (0, ([] : List Int)))) N (0, (List.replicate (Int.toNat a0.1) 0 : List Int)))
def c18 (N : Nat) : Callee := .pure (.pr (.val (.pair (.int .i64) (.pair (.sl false (.arr 2 (.int .i64))) .unit))) .un) [(.sl true (.int .i64)), (.int .i64)] fun d => f18 N d.1
def F18_10 : SForm := ⟨[(40, (.val (.int .i64))), (6, (.ref 0)), (38, (.val (.sl false (.int .i64)))), (32, (.val (.sl false (.sl false (.int .i64))))), (5, (.val (.sl false (.sl false (.int .i64))))), (1, (.bptr 1 [])), (33, (.val (.int .i64))), (34, (.val (.int .i64))), (39, (.val (.int .i64)))], [.row (.int .i64), .cell (.val (.pair (.int .i64) (.pair (.sl false (.arr 2 (.int .i64))) .unit)))]⟩
def G18_10 (N : Nat) : (R : Type) → F18_10.den → (AExit → St → Option R) → Option R := fun R d k => iter (fun kb => f18_L10 N d.1.2.2.1 d.1.2.2.2.1 d.1.2.2.2.2.1 d.1.2.2.2.2.2.2.1 d.1.2.2.2.2.2.2.2.1 d.1.2.2.2.2.2.2.2.2.1 d.2.2.1 kb
    (fun y4 => k (.exit 2) (St.of [(6, (.ref 0 [] 0)), (32, (.data (.sl false (.sl false (.int .i64))) d.1.2.2.2.1)), (5, (.data (.sl false (.sl false (.int .i64))) d.1.2.2.2.2.1)), (1, (.bptr 1 [])), (33, (.data (.int .i64) d.1.2.2.2.2.2.2.1)), (34, (.data (.int .i64) d.1.2.2.2.2.2.2.2.1))] [.row (.int .i64) y4 0, .cell (.data (.pair (.int .i64) (.pair (.sl false (.arr 2 (.int .i64))) .unit)) d.2.2.1)]))) N (d.1.1, d.2.1)
def F18_7 : SForm := ⟨[(6, (.ref 0)), (34, (.val (.int .i64))), (32, (.val (.sl false (.sl false (.int .i64))))), (5, (.val (.sl false (.sl false (.int .i64))))), (1, (.bptr 1 [])), (33, (.val (.int .i64)))], [.row (.int .i64), .cell (.val (.pair (.int .i64) (.pair (.sl false (.arr 2 (.int .i64))) .unit)))]⟩
def G18_7 (N : Nat) : (R : Type) → F18_7.den → (AExit → St → Option R) → Option R := fun R d k => iter (fun kb => f18_L7 N d.1.2.2.1 d.1.2.2.2.1 d.1.2.2.2.2.2.1 d.2.2.1 kb
    (fun y1 => k (.exit 0) (St.of [(6, (.ref 0 [] 0)), (5, (.data (.sl false (.sl false (.int .i64))) d.1.2.2.2.1)), (1, (.bptr 1 []))] [.row (.int .i64) y1 0, .cell (.data (.pair (.int .i64) (.pair (.sl false (.arr 2 (.int .i64))) .unit)) d.2.2.1)]))) N (d.1.2.1, d.2.1)
def F18_17 : SForm := ⟨[(56, (.val (.int .i64))), (11, (.bptr 0 [])), (54, (.ref 2)), (6, (.ref 2)), (5, (.val (.sl false (.sl false (.int .i64))))), (1, (.bptr 3 [])), (55, (.val (.int .i64)))], [.cell (.ref 1), .row (.int .i64), .row (.int .i64), .cell (.val (.pair (.int .i64) (.pair (.sl false (.arr 2 (.int .i64))) .unit)))]⟩
def G18_17 (N : Nat) : (R : Type) → F18_17.den → (AExit → St → Option R) → Option R := fun R d k => iter (fun kb => f18_L17 N d.1.2.2.2.2.1 d.1.2.2.2.2.2.2.1 d.2.2.2.1 d.2.2.2.2.1 kb
    (fun y1 => k (.exit 4) (St.of [(11, (.bptr 0 [])), (6, (.ref 2 [] 0)), (5, (.data (.sl false (.sl false (.int .i64))) d.1.2.2.2.2.1)), (1, (.bptr 3 []))] [.cell (.ref 1 [] 0), .row (.int .i64) y1 0, .row (.int .i64) d.2.2.2.1 0, .cell (.data (.pair (.int .i64) (.pair (.sl false (.arr 2 (.int .i64))) .unit)) d.2.2.2.2.1)]))) N (d.1.1, d.2.2.1)
def F18_27 : SForm := ⟨[(91, (.val (.int .i64))), (11, (.bptr 0 [])), (6, (.ref 2)), (89, (.val (.sl false (.int .i64)))), (5, (.val (.sl false (.sl false (.int .i64))))), (14, (.ref 3)), (1, (.bptr 4 [])), (90, (.val (.int .i64)))], [.cell (.ref 1), .row (.int .i64), .row (.int .i64), .row (.int .i64), .cell (.val (.pair (.int .i64) (.pair (.sl false (.arr 2 (.int .i64))) .unit)))]⟩
def G18_27 (N : Nat) : (R : Type) → F18_27.den → (AExit → St → Option R) → Option R := fun R d k => iter (fun kb => f18_L27 N d.1.2.2.2.1 d.1.2.2.2.2.1 d.1.2.2.2.2.2.2.2.1 d.2.2.2.2.1 d.2.2.2.2.2.1 kb
    (fun y1 y2 => k (.exit 8) (St.of [(11, (.bptr 0 [])), (6, (.ref 2 [] 0)), (5, (.data (.sl false (.sl false (.int .i64))) d.1.2.2.2.2.1)), (14, (.ref 3 [] 0)), (1, (.bptr 4 []))] [.cell (.ref 1 [] 0), .row (.int .i64) y1 0, .row (.int .i64) y2 0, .row (.int .i64) d.2.2.2.2.1 0, .cell (.data (.pair (.int .i64) (.pair (.sl false (.arr 2 (.int .i64))) .unit)) d.2.2.2.2.2.1)]))) N (d.1.1, d.2.2.1, d.2.2.2.1)
def F18_23 : SForm := ⟨[(11, (.bptr 0 [])), (6, (.ref 2)), (5, (.val (.sl false (.sl false (.int .i64))))), (14, (.ref 3)), (1, (.bptr 4 []))], [.cell (.ref 1), .row (.int .i64), .row (.int .i64), .row (.int .i64), .cell (.val (.pair (.int .i64) (.pair (.sl false (.arr 2 (.int .i64))) .unit)))]⟩
def G18_23 (N : Nat) : (R : Type) → F18_23.den → (AExit → St → Option R) → Option R := fun R d k => iter (fun kb => f18_L23 N d.1.2.2.1 d.2.2.2.2.2.1 kb
    (fun y0 => k (.exit 6) (St.of [(14, (.ref 0 [] 0)), (1, (.bptr 1 []))] [.row (.int .i64) y0 0, .cell (.data (.pair (.int .i64) (.pair (.sl false (.arr 2 (.int .i64))) .unit)) d.2.2.2.2.2.1)]))) N (d.2.2.1, d.2.2.2.1, d.2.2.2.2.1)
def lp18 (N : Nat) : Nat → Option LoopFn := fun r => cond (Nat.beq r 10) (some fun R sl os k => F18_10.take sl os fun d => G18_10 N R d k) (cond (Nat.beq r 7) (some fun R sl os k => F18_7.take sl os fun d => G18_7 N R d k) (cond (Nat.beq r 17) (some fun R sl os k => F18_17.take sl os fun d => G18_17 N R d k) (cond (Nat.beq r 27) (some fun R sl os k => F18_27.take sl os fun d => G18_27 N R d k) (cond (Nat.beq r 23) (some fun R sl os k => F18_23.take sl os fun d => G18_23 N R d k) (none)))))
def x18 (N : Nat) : Ctx := { fuel := N, tt := getL ttL, mt := getL mtL, ntmps := 118, env := fun f => (getL [(34, [c34 N]), (41, [c41 N]), (46, [c46 N]), (47, [c47 N]), (48, [c48 N])] f).getD [], cut := getL [(7, ⟨[6, 34, 32, 5, 1, 33], []⟩), (10, ⟨[40, 6, 38, 32, 5, 1, 33, 34, 39], []⟩), (17, ⟨[56, 11, 54, 6, 5, 1, 55], []⟩), (23, ⟨[11, 6, 5, 14, 1], []⟩), (27, ⟨[91, 11, 6, 89, 5, 14, 1, 90], [(11, some [], .row (.int .i64))]⟩)], exits := fun r => getL ((getL [(7, [(0, ⟨[6, 5, 1], []⟩)]), (10, [(2, ⟨[6, 32, 5, 1, 33, 34], []⟩)]), (17, [(4, ⟨[11, 6, 5, 1], []⟩)]), (23, [(6, ⟨[14, 1], []⟩)]), (27, [(8, ⟨[11, 6, 5, 14, 1], []⟩)])] r).getD []), res := ⟨[2, 3], []⟩, own := fun _ => none, lp := lp18 N, eqs := fun T => memN T eqL, ct := fun T => memN T ctL, ms := getMs msL }
noncomputable def b18 : Code := ((Go.Proofs.Try.f18).body).getD .skip
theorem s18_10 (N : Nat) {R : Type} (k : AExit → St → Option R) (t38 : List Int) (t32_1 : List (List Int)) (t5_1 : List (List Int)) (t33_1 : Int) (t34_1 : Int) (t39 : Int) (o1_1 : (Int × (List (List Int) × Unit))) (kb : List (Nat × AVal) → List Obj → Option R) (x : Int × List Int) : codeK (x18 N) (loopAt 10 (loopsOf b18)) (St.of [(40, (.data (.int .i64) x.1)), (6, (.ref 0 [] 0)), (38, (.data (.sl false (.int .i64)) t38)), (32, (.data (.sl false (.sl false (.int .i64))) t32_1)), (5, (.data (.sl false (.sl false (.int .i64))) t5_1)), (1, (.bptr 1 [])), (33, (.data (.int .i64) t33_1)), (34, (.data (.int .i64) t34_1)), (39, (.data (.int .i64) t39))] [.row (.int .i64) x.2 0, .cell (.data (.pair (.int .i64) (.pair (.sl false (.arr 2 (.int .i64))) .unit)) o1_1)]) (kLoop (x18 N) 10 ⟨[40, 6, 38, 32, 5, 1, 33, 34, 39], []⟩ kb k) = f18_L10 N t38 t32_1 t5_1 t33_1 t34_1 t39 o1_1 (fun y => kb [(40, (.data (.int .i64) y.1)), (6, (.ref 0 [] 0)), (38, (.data (.sl false (.int .i64)) t38)), (32, (.data (.sl false (.sl false (.int .i64))) t32_1)), (5, (.data (.sl false (.sl false (.int .i64))) t5_1)), (1, (.bptr 1 [])), (33, (.data (.int .i64) t33_1)), (34, (.data (.int .i64) t34_1)), (39, (.data (.int .i64) t39))] [.row (.int .i64) y.2 0, .cell (.data (.pair (.int .i64) (.pair (.sl false (.arr 2 (.int .i64))) .unit)) o1_1)])
    (fun y4 => k (.exit 2) (St.of [(6, (.ref 0 [] 0)), (32, (.data (.sl false (.sl false (.int .i64))) t32_1)), (5, (.data (.sl false (.sl false (.int .i64))) t5_1)), (1, (.bptr 1 [])), (33, (.data (.int .i64) t33_1)), (34, (.data (.int .i64) t34_1))] [.row (.int .i64) y4 0, .cell (.data (.pair (.int .i64) (.pair (.sl false (.arr 2 (.int .i64))) .unit)) o1_1)])) x := by kernel_rfl
theorem l18_10 (N : Nat) : LoopOK (x18 N) (loopAt 10 (loopsOf b18)) :=
  loop_mk (G18_10 N) (by kernel_rfl) (by kernel_rfl) (by kernel_rfl) fun R k d =>
    loop_eq (st := fun (x : Int × List Int) => ([(40, (.data (.int .i64) x.1)), (6, (.ref 0 [] 0)), (38, (.data (.sl false (.int .i64)) d.1.2.2.1)), (32, (.data (.sl false (.sl false (.int .i64))) d.1.2.2.2.1)), (5, (.data (.sl false (.sl false (.int .i64))) d.1.2.2.2.2.1)), (1, (.bptr 1 [])), (33, (.data (.int .i64) d.1.2.2.2.2.2.2.1)), (34, (.data (.int .i64) d.1.2.2.2.2.2.2.2.1)), (39, (.data (.int .i64) d.1.2.2.2.2.2.2.2.2.1))], [.row (.int .i64) x.2 0, .cell (.data (.pair (.int .i64) (.pair (.sl false (.arr 2 (.int .i64))) .unit)) d.2.2.1)])) (s18_10 N k d.1.2.2.1 d.1.2.2.2.1 d.1.2.2.2.2.1 d.1.2.2.2.2.2.2.1 d.1.2.2.2.2.2.2.2.1 d.1.2.2.2.2.2.2.2.2.1 d.2.2.1) N (d.1.1, d.2.1)
theorem s18_7 (N : Nat) {R : Type} (k : AExit → St → Option R) (t32 : List (List Int)) (t5 : List (List Int)) (t33 : Int) (o1 : (Int × (List (List Int) × Unit))) (kb : List (Nat × AVal) → List Obj → Option R) (x : Int × List Int) : codeK (x18 N) (loopAt 7 (loopsOf b18)) (St.of [(6, (.ref 0 [] 0)), (34, (.data (.int .i64) x.1)), (32, (.data (.sl false (.sl false (.int .i64))) t32)), (5, (.data (.sl false (.sl false (.int .i64))) t5)), (1, (.bptr 1 [])), (33, (.data (.int .i64) t33))] [.row (.int .i64) x.2 0, .cell (.data (.pair (.int .i64) (.pair (.sl false (.arr 2 (.int .i64))) .unit)) o1)]) (kLoop (x18 N) 7 ⟨[6, 34, 32, 5, 1, 33], []⟩ kb k) = f18_L7 N t32 t5 t33 o1 (fun y => kb [(6, (.ref 0 [] 0)), (34, (.data (.int .i64) y.1)), (32, (.data (.sl false (.sl false (.int .i64))) t32)), (5, (.data (.sl false (.sl false (.int .i64))) t5)), (1, (.bptr 1 [])), (33, (.data (.int .i64) t33))] [.row (.int .i64) y.2 0, .cell (.data (.pair (.int .i64) (.pair (.sl false (.arr 2 (.int .i64))) .unit)) o1)])
    (fun y1 => k (.exit 0) (St.of [(6, (.ref 0 [] 0)), (5, (.data (.sl false (.sl false (.int .i64))) t5)), (1, (.bptr 1 []))] [.row (.int .i64) y1 0, .cell (.data (.pair (.int .i64) (.pair (.sl false (.arr 2 (.int .i64))) .unit)) o1)])) x := by kernel_rfl
theorem l18_7 (N : Nat) : LoopOK (x18 N) (loopAt 7 (loopsOf b18)) :=
  loop_mk (G18_7 N) (by kernel_rfl) (by kernel_rfl) (by kernel_rfl) fun R k d =>
    loop_eq (st := fun (x : Int × List Int) => ([(6, (.ref 0 [] 0)), (34, (.data (.int .i64) x.1)), (32, (.data (.sl false (.sl false (.int .i64))) d.1.2.2.1)), (5, (.data (.sl false (.sl false (.int .i64))) d.1.2.2.2.1)), (1, (.bptr 1 [])), (33, (.data (.int .i64) d.1.2.2.2.2.2.1))], [.row (.int .i64) x.2 0, .cell (.data (.pair (.int .i64) (.pair (.sl false (.arr 2 (.int .i64))) .unit)) d.2.2.1)])) (s18_7 N k d.1.2.2.1 d.1.2.2.2.1 d.1.2.2.2.2.2.1 d.2.2.1) N (d.1.2.1, d.2.1)
theorem s18_17 (N : Nat) {R : Type} (k : AExit → St → Option R) (t5_2 : List (List Int)) (t55 : Int) (o2 : List Int) (o3 : (Int × (List (List Int) × Unit))) (kb : List (Nat × AVal) → List Obj → Option R) (x : Int × List Int) : codeK (x18 N) (loopAt 17 (loopsOf b18)) (St.of [(56, (.data (.int .i64) x.1)), (11, (.bptr 0 [])), (54, (.ref 2 [] 0)), (6, (.ref 2 [] 0)), (5, (.data (.sl false (.sl false (.int .i64))) t5_2)), (1, (.bptr 3 [])), (55, (.data (.int .i64) t55))] [.cell (.ref 1 [] 0), .row (.int .i64) x.2 0, .row (.int .i64) o2 0, .cell (.data (.pair (.int .i64) (.pair (.sl false (.arr 2 (.int .i64))) .unit)) o3)]) (kLoop (x18 N) 17 ⟨[56, 11, 54, 6, 5, 1, 55], []⟩ kb k) = f18_L17 N t5_2 t55 o2 o3 (fun y => kb [(56, (.data (.int .i64) y.1)), (11, (.bptr 0 [])), (54, (.ref 2 [] 0)), (6, (.ref 2 [] 0)), (5, (.data (.sl false (.sl false (.int .i64))) t5_2)), (1, (.bptr 3 [])), (55, (.data (.int .i64) t55))] [.cell (.ref 1 [] 0), .row (.int .i64) y.2 0, .row (.int .i64) o2 0, .cell (.data (.pair (.int .i64) (.pair (.sl false (.arr 2 (.int .i64))) .unit)) o3)])
    (fun y1 => k (.exit 4) (St.of [(11, (.bptr 0 [])), (6, (.ref 2 [] 0)), (5, (.data (.sl false (.sl false (.int .i64))) t5_2)), (1, (.bptr 3 []))] [.cell (.ref 1 [] 0), .row (.int .i64) y1 0, .row (.int .i64) o2 0, .cell (.data (.pair (.int .i64) (.pair (.sl false (.arr 2 (.int .i64))) .unit)) o3)])) x := by kernel_rfl
theorem l18_17 (N : Nat) : LoopOK (x18 N) (loopAt 17 (loopsOf b18)) :=
  loop_mk (G18_17 N) (by kernel_rfl) (by kernel_rfl) (by kernel_rfl) fun R k d =>
    loop_eq (st := fun (x : Int × List Int) => ([(56, (.data (.int .i64) x.1)), (11, (.bptr 0 [])), (54, (.ref 2 [] 0)), (6, (.ref 2 [] 0)), (5, (.data (.sl false (.sl false (.int .i64))) d.1.2.2.2.2.1)), (1, (.bptr 3 [])), (55, (.data (.int .i64) d.1.2.2.2.2.2.2.1))], [.cell (.ref 1 [] 0), .row (.int .i64) x.2 0, .row (.int .i64) d.2.2.2.1 0, .cell (.data (.pair (.int .i64) (.pair (.sl false (.arr 2 (.int .i64))) .unit)) d.2.2.2.2.1)])) (s18_17 N k d.1.2.2.2.2.1 d.1.2.2.2.2.2.2.1 d.2.2.2.1 d.2.2.2.2.1) N (d.1.1, d.2.2.1)
theorem s18_27 (N : Nat) {R : Type} (k : AExit → St → Option R) (t89 : List Int) (t5_4 : List (List Int)) (t90 : Int) (o3_2 : List Int) (o4_1 : (Int × (List (List Int) × Unit))) (kb : List (Nat × AVal) → List Obj → Option R) (x : Int × List Int × List Int) : codeK (x18 N) (loopAt 27 (loopsOf b18)) (St.of [(91, (.data (.int .i64) x.1)), (11, (.bptr 0 [])), (6, (.ref 2 [] 0)), (89, (.data (.sl false (.int .i64)) t89)), (5, (.data (.sl false (.sl false (.int .i64))) t5_4)), (14, (.ref 3 [] 0)), (1, (.bptr 4 [])), (90, (.data (.int .i64) t90))] [.cell (.ref 1 [] 0), .row (.int .i64) x.2.1 0, .row (.int .i64) x.2.2 0, .row (.int .i64) o3_2 0, .cell (.data (.pair (.int .i64) (.pair (.sl false (.arr 2 (.int .i64))) .unit)) o4_1)]) (kLoop (x18 N) 27 ⟨[91, 11, 6, 89, 5, 14, 1, 90], [(11, some [], .row (.int .i64))]⟩ kb k) = f18_L27 N t89 t5_4 t90 o3_2 o4_1 (fun y => kb [(91, (.data (.int .i64) y.1)), (11, (.bptr 0 [])), (6, (.ref 2 [] 0)), (89, (.data (.sl false (.int .i64)) t89)), (5, (.data (.sl false (.sl false (.int .i64))) t5_4)), (14, (.ref 3 [] 0)), (1, (.bptr 4 [])), (90, (.data (.int .i64) t90))] [.cell (.ref 1 [] 0), .row (.int .i64) y.2.1 0, .row (.int .i64) y.2.2 0, .row (.int .i64) o3_2 0, .cell (.data (.pair (.int .i64) (.pair (.sl false (.arr 2 (.int .i64))) .unit)) o4_1)])
    (fun y1 y2 => k (.exit 8) (St.of [(11, (.bptr 0 [])), (6, (.ref 2 [] 0)), (5, (.data (.sl false (.sl false (.int .i64))) t5_4)), (14, (.ref 3 [] 0)), (1, (.bptr 4 []))] [.cell (.ref 1 [] 0), .row (.int .i64) y1 0, .row (.int .i64) y2 0, .row (.int .i64) o3_2 0, .cell (.data (.pair (.int .i64) (.pair (.sl false (.arr 2 (.int .i64))) .unit)) o4_1)])) x := by kernel_rfl
theorem l18_27 (N : Nat) : LoopOK (x18 N) (loopAt 27 (loopsOf b18)) :=
  loop_mk (G18_27 N) (by kernel_rfl) (by kernel_rfl) (by kernel_rfl) fun R k d =>
    loop_eq (st := fun (x : Int × List Int × List Int) => ([(91, (.data (.int .i64) x.1)), (11, (.bptr 0 [])), (6, (.ref 2 [] 0)), (89, (.data (.sl false (.int .i64)) d.1.2.2.2.1)), (5, (.data (.sl false (.sl false (.int .i64))) d.1.2.2.2.2.1)), (14, (.ref 3 [] 0)), (1, (.bptr 4 [])), (90, (.data (.int .i64) d.1.2.2.2.2.2.2.2.1))], [.cell (.ref 1 [] 0), .row (.int .i64) x.2.1 0, .row (.int .i64) x.2.2 0, .row (.int .i64) d.2.2.2.2.1 0, .cell (.data (.pair (.int .i64) (.pair (.sl false (.arr 2 (.int .i64))) .unit)) d.2.2.2.2.2.1)])) (s18_27 N k d.1.2.2.2.1 d.1.2.2.2.2.1 d.1.2.2.2.2.2.2.2.1 d.2.2.2.2.1 d.2.2.2.2.2.1) N (d.1.1, d.2.2.1, d.2.2.2.1)
theorem s18_23 (N : Nat) {R : Type} (k : AExit → St → Option R) (t5_3 : List (List Int)) (o4 : (Int × (List (List Int) × Unit))) (kb : List (Nat × AVal) → List Obj → Option R) (x : List Int × List Int × List Int) : codeK (x18 N) (loopAt 23 (loopsOf b18)) (St.of [(11, (.bptr 0 [])), (6, (.ref 2 [] 0)), (5, (.data (.sl false (.sl false (.int .i64))) t5_3)), (14, (.ref 3 [] 0)), (1, (.bptr 4 []))] [.cell (.ref 1 [] 0), .row (.int .i64) x.1 0, .row (.int .i64) x.2.1 0, .row (.int .i64) x.2.2 0, .cell (.data (.pair (.int .i64) (.pair (.sl false (.arr 2 (.int .i64))) .unit)) o4)]) (kLoop (x18 N) 23 ⟨[11, 6, 5, 14, 1], []⟩ kb k) = f18_L23 N t5_3 o4 (fun y => kb [(11, (.bptr 0 [])), (6, (.ref 2 [] 0)), (5, (.data (.sl false (.sl false (.int .i64))) t5_3)), (14, (.ref 3 [] 0)), (1, (.bptr 4 []))] [.cell (.ref 1 [] 0), .row (.int .i64) y.1 0, .row (.int .i64) y.2.1 0, .row (.int .i64) y.2.2 0, .cell (.data (.pair (.int .i64) (.pair (.sl false (.arr 2 (.int .i64))) .unit)) o4)])
    (fun y0 => k (.exit 6) (St.of [(14, (.ref 0 [] 0)), (1, (.bptr 1 []))] [.row (.int .i64) y0 0, .cell (.data (.pair (.int .i64) (.pair (.sl false (.arr 2 (.int .i64))) .unit)) o4)])) x := by kernel_rfl
theorem l18_23 (N : Nat) : LoopOK (x18 N) (loopAt 23 (loopsOf b18)) :=
  loop_mk (G18_23 N) (by kernel_rfl) (by kernel_rfl) (by kernel_rfl) fun R k d =>
    loop_eq (st := fun (x : List Int × List Int × List Int) => ([(11, (.bptr 0 [])), (6, (.ref 2 [] 0)), (5, (.data (.sl false (.sl false (.int .i64))) d.1.2.2.1)), (14, (.ref 3 [] 0)), (1, (.bptr 4 []))], [.cell (.ref 1 [] 0), .row (.int .i64) x.1 0, .row (.int .i64) x.2.1 0, .row (.int .i64) x.2.2 0, .cell (.data (.pair (.int .i64) (.pair (.sl false (.arr 2 (.int .i64))) .unit)) d.2.2.2.2.2.1)])) (s18_23 N k d.1.2.2.1 d.2.2.2.2.2.1) N (d.2.2.1, d.2.2.2.1, d.2.2.2.2.1)
theorem e18 (N : Nat) (a0 : (Int × (List (List Int) × Unit))) : bodyK (x18 N) [(.sl true (.int .i64)), (.int .i64)] [.tmp 2, .tmp 3] b18 (entry (.pr (.val (.pair (.int .i64) (.pair (.sl false (.arr 2 (.int .i64))) .unit))) .un) (a0, ())) = f18 N a0 := by kernel_rfl
theorem k18 (N : Nat) : CalleeOK Go.Proofs.Try.prog 18 (c18 N) :=
  fn_ok (fn := Go.Proofs.Try.f18) (body := b18) (c := x18 N) Go.Proofs.Try.func18 (by kernel_rfl) (by kernel_rfl) ⟨ttL_ok, mtL_ok, eqL_ok, ctL_ok, msL_ok, env_cons (forall_mem1 (k34 N)) (env_cons (forall_mem1 (k41 N)) (env_cons (forall_mem1 (k46 N)) (env_cons (forall_mem1 (k47 N)) (env_cons (forall_mem1 (k48 N)) (env_nil)))))⟩ mixed (by kernel_rfl) (Nat.le_of_ble_eq_true (by kernel_rfl)) (by kernel_rfl) (by decide)
    (loops_ok (by kernel_rfl : loopsOf b18 = [loopAt 7 (loopsOf b18), loopAt 10 (loopsOf b18), loopAt 17 (loopsOf b18), loopAt 23 (loopsOf b18), loopAt 27 (loopsOf b18)]) (.cons (l18_7 N) (.cons (l18_10 N) (.cons (l18_17 N) (.cons (l18_23 N) (.cons (l18_27 N) .nil)))))) fun d => e18 N d.1
def f39_L5 {R : Type} (N : Nat) (t13 : List Int) (t14 : Int) (o0 : (Int × (List (List Int) × Unit))) (kb : Int → Option R) (kret : Int → Option R) (kx0 : Unit → Option R) : Int → Option R :=
  fun t15 =>
    cond (decide (t15 < t14))
      ((idx t13 t15).bind fun x =>
      (f52 N o0 x).bind fun r_1 =>
      cond (!r_1)
        (kret 3)
        (kb (wi64 (t15 + 1))))
      (kx0 ())
def f39 (N : Nat) (a0 : (Int × (List (List Int) × Unit))) (a1 : List Int) : Option (Int) :=
  (f34 N a0).bind fun r =>
  cond (!(decide (r = 0)))
    (some r)
    (iter (fun w => f39_L5 N a1 (len a1) a0 w
      (fun t4 =>
        some t4)
      (fun (_ : Unit) =>
        some 0)) N 0)
def c39 (N : Nat) : Callee := .pure (.pr (.val (.pair (.int .i64) (.pair (.sl false (.arr 2 (.int .i64))) .unit))) (.pr (.val (.sl false (.int .i64))) .un)) [(.int .i64)] fun d => f39 N d.1 d.2.1
def F39_5 : SForm := ⟨[(15, (.val (.int .i64))), (2, (.bptr 0 [])), (13, (.val (.sl false (.int .i64)))), (14, (.val (.int .i64)))], [.cell (.val (.pair (.int .i64) (.pair (.sl false (.arr 2 (.int .i64))) .unit)))]⟩
def G39_5 (N : Nat) : (R : Type) → F39_5.den → (AExit → St → Option R) → Option R := fun R d k => iter (fun kb => f39_L5 N d.1.2.2.1 d.1.2.2.2.1 d.2.1 kb
    (fun y0 => k .ret (St.of [(4, (.data (.int .i64) y0))] []))
    (fun _ => k (.exit 0) (St.of [] []))) N d.1.1
def lp39 (N : Nat) : Nat → Option LoopFn := fun r => cond (Nat.beq r 5) (some fun R sl os k => F39_5.take sl os fun d => G39_5 N R d k) (none)
def x39 (N : Nat) : Ctx := { fuel := N, tt := getL ttL, mt := getL mtL, ntmps := 24, env := fun f => (getL [(34, [c34 N]), (52, [c52 N])] f).getD [], cut := getL [(5, ⟨[15, 2, 13, 14], []⟩)], exits := fun r => getL ((getL [(5, [(0, ⟨[], []⟩)])] r).getD []), res := ⟨[4], []⟩, own := fun _ => none, lp := lp39 N, eqs := fun T => memN T eqL, ct := fun T => memN T ctL, ms := getMs msL }
noncomputable def b39 : Code := ((Go.Proofs.Try.f39).body).getD .skip
theorem s39_5 (N : Nat) {R : Type} (k : AExit → St → Option R) (t13 : List Int) (t14 : Int) (o0 : (Int × (List (List Int) × Unit))) (kb : List (Nat × AVal) → List Obj → Option R) (x : Int) : codeK (x39 N) (loopAt 5 (loopsOf b39)) (St.of [(15, (.data (.int .i64) x)), (2, (.bptr 0 [])), (13, (.data (.sl false (.int .i64)) t13)), (14, (.data (.int .i64) t14))] [.cell (.data (.pair (.int .i64) (.pair (.sl false (.arr 2 (.int .i64))) .unit)) o0)]) (kLoop (x39 N) 5 ⟨[15, 2, 13, 14], []⟩ kb k) = f39_L5 N t13 t14 o0 (fun y => kb [(15, (.data (.int .i64) y)), (2, (.bptr 0 [])), (13, (.data (.sl false (.int .i64)) t13)), (14, (.data (.int .i64) t14))] [.cell (.data (.pair (.int .i64) (.pair (.sl false (.arr 2 (.int .i64))) .unit)) o0)])
    (fun y0 => k .ret (St.of [(4, (.data (.int .i64) y0))] []))
    (fun _ => k (.exit 0) (St.of [] [])) x := by kernel_rfl
theorem l39_5 (N : Nat) : LoopOK (x39 N) (loopAt 5 (loopsOf b39)) :=
  loop_mk (G39_5 N) (by kernel_rfl) (by kernel_rfl) (by kernel_rfl) fun R k d =>
    loop_eq (st := fun (x : Int) => ([(15, (.data (.int .i64) x)), (2, (.bptr 0 [])), (13, (.data (.sl false (.int .i64)) d.1.2.2.1)), (14, (.data (.int .i64) d.1.2.2.2.1))], [.cell (.data (.pair (.int .i64) (.pair (.sl false (.arr 2 (.int .i64))) .unit)) d.2.1)])) (s39_5 N k d.1.2.2.1 d.1.2.2.2.1 d.2.1) N d.1.1
theorem e39 (N : Nat) (a0 : (Int × (List (List Int) × Unit))) (a1 : List Int) : bodyK (x39 N) [(.int .i64)] [.tmp 4] b39 (entry (.pr (.val (.pair (.int .i64) (.pair (.sl false (.arr 2 (.int .i64))) .unit))) (.pr (.val (.sl false (.int .i64))) .un)) (a0, (a1, ()))) = f39 N a0 a1 := by kernel_rfl
theorem k39 (N : Nat) : CalleeOK Go.Proofs.Try.prog 39 (c39 N) :=
  fn_ok (fn := Go.Proofs.Try.f39) (body := b39) (c := x39 N) Go.Proofs.Try.func39 (by kernel_rfl) (by kernel_rfl) ⟨ttL_ok, mtL_ok, eqL_ok, ctL_ok, msL_ok, env_cons (forall_mem1 (k34 N)) (env_cons (forall_mem1 (k52 N)) (env_nil))⟩ mixed (by kernel_rfl) (Nat.le_of_ble_eq_true (by kernel_rfl)) (by kernel_rfl) (by decide)
    (loops_ok (by kernel_rfl : loopsOf b39 = [loopAt 5 (loopsOf b39)]) (.cons (l39_5 N) .nil)) fun d => e39 N d.1 d.2.1
def f40_L3 {R : Type} (N : Nat) (t0 : List (List Int)) (t1 : List Int) (t17 : Int) (kb : Int × List Int → Option R) (kx0 : (List Int) → Option R) : Int × List Int → Option R :=
  fun (t18, o0) =>
    cond (decide (t18 < t17))
      (chk (inb o0 t18) <|
      (idx o0 t18).bind fun x =>
      (idx o0 t18).bind fun x_1 =>
      kb ((wi64 (t18 + 1)), (setI o0 t18 (-1))))
      (kx0 o0)
def f40_L9 {R : Type} (N : Nat) (t25 : List Int) (t0_1 : List (List Int)) (t26 : Int) (kb : Int × List Int × List Int → Option R) (kx2 : (List Int) → (List Int) → Option R) : Int × List Int × List Int → Option R :=
  fun (t27, o0_2, o1) =>
    cond (decide (t27 < t26))
      ((idx t25 t27).bind fun x_2 =>
      chk (inb o1 x_2) <|
      (idx o1 x_2).bind fun x_3 =>
      cond (decide (x_3 < 0))
        (chk (inb o1 x_2) <|
        (idx o1 x_2).bind fun x_4 =>
        (idx o1 x_2).bind fun x_5 =>
        chk (decide ((Nat.succ (List.length o0_2)) ≤ room)) <|
        kb ((wi64 (t27 + 1)), (o0_2 ++ (x_2 :: ([] : List Int))), (setI o1 x_2 0)))
        (kb ((wi64 (t27 + 1)), o0_2, o1)))
      (kx2 o1 o0_2)
def f40_L19 {R : Type} (N : Nat) (t10 : Int) (t55 : List Int) (t0_3 : List (List Int)) (t56 : Int) (kb : Int × List Int × List Int → Option R) (kx6 : (List Int) → (List Int) → Option R) : Int × List Int × List Int → Option R :=
  fun (t57, o0_5, o1_3) =>
    cond (decide (t57 < t56))
      ((idx t55 t57).bind fun x_8 =>
      chk (inb o1_3 x_8) <|
      (idx o1_3 x_8).bind fun x_9 =>
      cond (decide (x_9 < 0))
        (chk (inb o1_3 t10) <|
        (idx o1_3 t10).bind fun x_10 =>
        chk (inb o1_3 x_8) <|
        (idx o1_3 x_8).bind fun x_11 =>
        (idx o1_3 x_8).bind fun x_12 =>
        chk (decide ((Nat.succ (List.length o0_5)) ≤ room)) <|
        kb ((wi64 (t57 + 1)), (o0_5 ++ (x_8 :: ([] : List Int))), (setI o1_3 x_8 (wi64 (x_10 + 1)))))
        (kb ((wi64 (t57 + 1)), o0_5, o1_3)))
      (kx6 o1_3 o0_5)
def f40_L15 {R : Type} (N : Nat) (t0_2 : List (List Int)) (kb : List Int × List Int → Option R) (kx4 : (List Int) → Option R) : List Int × List Int → Option R :=
  fun (o0_4, o1_2) =>
    cond (decide (0 < (len o1_2)))
      (chk (inb o1_2 0) <|
      (idx o1_2 0).bind fun x_6 =>
      chk ((decide (1 ≤ (len o1_2))) && (decide ((len o1_2) ≤ (len o1_2)))) <|
      (idx t0_2 x_6).bind fun x_7 =>
      iter (fun w => f40_L19 N x_6 x_7 t0_2 (len x_7) w
        (fun o0_6 o1_4 =>
          kb (o0_6, o1_4))) N (0, (sub o1_2 1 (len o1_2)), o0_4))
      (kx4 o0_4)
def f40 (N : Nat) (a0 : List (List Int)) (a1 : List Int) : Option (List Int) :=
  chk (((decide (0 ≤ (len a0))) && (decide ((len a0) ≤ (len a0)))) && (decide ((len a0) ≤ ((room : Nat) : Int)))) <|
  iter (fun w => f40_L3 N a0 a1 (len (List.replicate (Int.toNat (len a0)) 0 : List Int)) w
    (fun o0_1 =>
      iter (fun w => f40_L9 N a1 a0 (len a1) w
        (fun o0_3 o1_1 =>
          iter (fun w => f40_L15 N a0 w
            (fun o0_7 =>
              some o0_7)) N (o0_3, o1_1))) N (0, ([] : List Int), o0_1))) N (0, (List.replicate (Int.toNat (len a0)) 0 : List Int))
def c40 (N : Nat) : Callee := .pure (.pr (.val (.sl false (.sl false (.int .i64)))) (.pr (.val (.sl false (.int .i64))) .un)) [(.sl true (.int .i64))] fun d => f40 N d.1 d.2.1
def F40_3 : SForm := ⟨[(18, (.val (.int .i64))), (5, (.ref 0)), (0, (.val (.sl false (.sl false (.int .i64))))), (1, (.val (.sl false (.int .i64)))), (17, (.val (.int .i64)))], [.row (.int .i64)]⟩
def G40_3 (N : Nat) : (R : Type) → F40_3.den → (AExit → St → Option R) → Option R := fun R d k => iter (fun kb => f40_L3 N d.1.2.2.1 d.1.2.2.2.1 d.1.2.2.2.2.1 kb
    (fun y2 => k (.exit 0) (St.of [(5, (.ref 0 [] 0)), (0, (.data (.sl false (.sl false (.int .i64))) d.1.2.2.1)), (1, (.data (.sl false (.int .i64)) d.1.2.2.2.1))] [.row (.int .i64) y2 0]))) N (d.1.1, d.2.1)
def F40_9 : SForm := ⟨[(27, (.val (.int .i64))), (7, (.ref 0)), (5, (.ref 1)), (25, (.val (.sl false (.int .i64)))), (0, (.val (.sl false (.sl false (.int .i64))))), (26, (.val (.int .i64)))], [.row (.int .i64), .row (.int .i64)]⟩
def G40_9 (N : Nat) : (R : Type) → F40_9.den → (AExit → St → Option R) → Option R := fun R d k => iter (fun kb => f40_L9 N d.1.2.2.2.1 d.1.2.2.2.2.1 d.1.2.2.2.2.2.1 kb
    (fun y1 y2 => k (.exit 2) (St.of [(5, (.ref 0 [] 0)), (0, (.data (.sl false (.sl false (.int .i64))) d.1.2.2.2.2.1)), (7, (.ref 1 [] 0))] [.row (.int .i64) y1 0, .row (.int .i64) y2 0]))) N (d.1.1, d.2.1, d.2.2.1)
def F40_19 : SForm := ⟨[(57, (.val (.int .i64))), (7, (.ref 0)), (10, (.val (.int .i64))), (5, (.ref 1)), (55, (.val (.sl false (.int .i64)))), (0, (.val (.sl false (.sl false (.int .i64))))), (56, (.val (.int .i64)))], [.row (.int .i64), .row (.int .i64)]⟩
def G40_19 (N : Nat) : (R : Type) → F40_19.den → (AExit → St → Option R) → Option R := fun R d k => iter (fun kb => f40_L19 N d.1.2.2.1 d.1.2.2.2.2.1 d.1.2.2.2.2.2.1 d.1.2.2.2.2.2.2.1 kb
    (fun y1 y2 => k (.exit 6) (St.of [(5, (.ref 0 [] 0)), (0, (.data (.sl false (.sl false (.int .i64))) d.1.2.2.2.2.2.1)), (7, (.ref 1 [] 0))] [.row (.int .i64) y1 0, .row (.int .i64) y2 0]))) N (d.1.1, d.2.1, d.2.2.1)
def F40_15 : SForm := ⟨[(5, (.ref 0)), (0, (.val (.sl false (.sl false (.int .i64))))), (7, (.ref 1))], [.row (.int .i64), .row (.int .i64)]⟩
def G40_15 (N : Nat) : (R : Type) → F40_15.den → (AExit → St → Option R) → Option R := fun R d k => iter (fun kb => f40_L15 N d.1.2.1 kb
    (fun y0 => k (.exit 4) (St.of [(5, (.ref 0 [] 0))] [.row (.int .i64) y0 0]))) N (d.2.1, d.2.2.1)
def lp40 (N : Nat) : Nat → Option LoopFn := fun r => cond (Nat.beq r 3) (some fun R sl os k => F40_3.take sl os fun d => G40_3 N R d k) (cond (Nat.beq r 9) (some fun R sl os k => F40_9.take sl os fun d => G40_9 N R d k) (cond (Nat.beq r 19) (some fun R sl os k => F40_19.take sl os fun d => G40_19 N R d k) (cond (Nat.beq r 15) (some fun R sl os k => F40_15.take sl os fun d => G40_15 N R d k) (none))))
def x40 (N : Nat) : Ctx := { fuel := N, tt := getL ttL, mt := getL mtL, ntmps := 80, env := fun f => (getL [] f).getD [], cut := getL [(3, ⟨[18, 5, 0, 1, 17], []⟩), (9, ⟨[27, 7, 5, 25, 0, 26], [(7, none, .row (.int .i64))]⟩), (15, ⟨[5, 0, 7], []⟩), (19, ⟨[57, 7, 10, 5, 55, 0, 56], [(7, none, .row (.int .i64))]⟩)], exits := fun r => getL ((getL [(3, [(0, ⟨[5, 0, 1], []⟩)]), (9, [(2, ⟨[5, 0, 7], []⟩)]), (15, [(4, ⟨[5], []⟩)]), (19, [(6, ⟨[5, 0, 7], []⟩)])] r).getD []), res := ⟨[4], []⟩, own := fun _ => none, lp := lp40 N, eqs := fun T => memN T eqL, ct := fun T => memN T ctL, ms := getMs msL }
noncomputable def b40 : Code := ((Go.Proofs.Try.f40).body).getD .skip
theorem s40_3 (N : Nat) {R : Type} (k : AExit → St → Option R) (t0 : List (List Int)) (t1 : List Int) (t17 : Int) (kb : List (Nat × AVal) → List Obj → Option R) (x : Int × List Int) : codeK (x40 N) (loopAt 3 (loopsOf b40)) (St.of [(18, (.data (.int .i64) x.1)), (5, (.ref 0 [] 0)), (0, (.data (.sl false (.sl false (.int .i64))) t0)), (1, (.data (.sl false (.int .i64)) t1)), (17, (.data (.int .i64) t17))] [.row (.int .i64) x.2 0]) (kLoop (x40 N) 3 ⟨[18, 5, 0, 1, 17], []⟩ kb k) = f40_L3 N t0 t1 t17 (fun y => kb [(18, (.data (.int .i64) y.1)), (5, (.ref 0 [] 0)), (0, (.data (.sl false (.sl false (.int .i64))) t0)), (1, (.data (.sl false (.int .i64)) t1)), (17, (.data (.int .i64) t17))] [.row (.int .i64) y.2 0])
    (fun y2 => k (.exit 0) (St.of [(5, (.ref 0 [] 0)), (0, (.data (.sl false (.sl false (.int .i64))) t0)), (1, (.data (.sl false (.int .i64)) t1))] [.row (.int .i64) y2 0])) x := by kernel_rfl
theorem l40_3 (N : Nat) : LoopOK (x40 N) (loopAt 3 (loopsOf b40)) :=
  loop_mk (G40_3 N) (by kernel_rfl) (by kernel_rfl) (by kernel_rfl) fun R k d =>
    loop_eq (st := fun (x : Int × List Int) => ([(18, (.data (.int .i64) x.1)), (5, (.ref 0 [] 0)), (0, (.data (.sl false (.sl false (.int .i64))) d.1.2.2.1)), (1, (.data (.sl false (.int .i64)) d.1.2.2.2.1)), (17, (.data (.int .i64) d.1.2.2.2.2.1))], [.row (.int .i64) x.2 0])) (s40_3 N k d.1.2.2.1 d.1.2.2.2.1 d.1.2.2.2.2.1) N (d.1.1, d.2.1)
theorem s40_9 (N : Nat) {R : Type} (k : AExit → St → Option R) (t25 : List Int) (t0_1 : List (List Int)) (t26 : Int) (kb : List (Nat × AVal) → List Obj → Option R) (x : Int × List Int × List Int) : codeK (x40 N) (loopAt 9 (loopsOf b40)) (St.of [(27, (.data (.int .i64) x.1)), (7, (.ref 0 [] 0)), (5, (.ref 1 [] 0)), (25, (.data (.sl false (.int .i64)) t25)), (0, (.data (.sl false (.sl false (.int .i64))) t0_1)), (26, (.data (.int .i64) t26))] [.row (.int .i64) x.2.1 0, .row (.int .i64) x.2.2 0]) (kLoop (x40 N) 9 ⟨[27, 7, 5, 25, 0, 26], [(7, none, .row (.int .i64))]⟩ kb k) = f40_L9 N t25 t0_1 t26 (fun y => kb [(27, (.data (.int .i64) y.1)), (7, (.ref 0 [] 0)), (5, (.ref 1 [] 0)), (25, (.data (.sl false (.int .i64)) t25)), (0, (.data (.sl false (.sl false (.int .i64))) t0_1)), (26, (.data (.int .i64) t26))] [.row (.int .i64) y.2.1 0, .row (.int .i64) y.2.2 0])
    (fun y1 y2 => k (.exit 2) (St.of [(5, (.ref 0 [] 0)), (0, (.data (.sl false (.sl false (.int .i64))) t0_1)), (7, (.ref 1 [] 0))] [.row (.int .i64) y1 0, .row (.int .i64) y2 0])) x := by kernel_rfl
theorem l40_9 (N : Nat) : LoopOK (x40 N) (loopAt 9 (loopsOf b40)) :=
  loop_mk (G40_9 N) (by kernel_rfl) (by kernel_rfl) (by kernel_rfl) fun R k d =>
    loop_eq (st := fun (x : Int × List Int × List Int) => ([(27, (.data (.int .i64) x.1)), (7, (.ref 0 [] 0)), (5, (.ref 1 [] 0)), (25, (.data (.sl false (.int .i64)) d.1.2.2.2.1)), (0, (.data (.sl false (.sl false (.int .i64))) d.1.2.2.2.2.1)), (26, (.data (.int .i64) d.1.2.2.2.2.2.1))], [.row (.int .i64) x.2.1 0, .row (.int .i64) x.2.2 0])) (s40_9 N k d.1.2.2.2.1 d.1.2.2.2.2.1 d.1.2.2.2.2.2.1) N (d.1.1, d.2.1, d.2.2.1)
theorem s40_19 (N : Nat) {R : Type} (k : AExit → St → Option R) (t10 : Int) (t55 : List Int) (t0_3 : List (List Int)) (t56 : Int) (kb : List (Nat × AVal) → List Obj → Option R) (x : Int × List Int × List Int) : codeK (x40 N) (loopAt 19 (loopsOf b40)) (St.of [(57, (.data (.int .i64) x.1)), (7, (.ref 0 [] 0)), (10, (.data (.int .i64) t10)), (5, (.ref 1 [] 0)), (55, (.data (.sl false (.int .i64)) t55)), (0, (.data (.sl false (.sl false (.int .i64))) t0_3)), (56, (.data (.int .i64) t56))] [.row (.int .i64) x.2.1 0, .row (.int .i64) x.2.2 0]) (kLoop (x40 N) 19 ⟨[57, 7, 10, 5, 55, 0, 56], [(7, none, .row (.int .i64))]⟩ kb k) = f40_L19 N t10 t55 t0_3 t56 (fun y => kb [(57, (.data (.int .i64) y.1)), (7, (.ref 0 [] 0)), (10, (.data (.int .i64) t10)), (5, (.ref 1 [] 0)), (55, (.data (.sl false (.int .i64)) t55)), (0, (.data (.sl false (.sl false (.int .i64))) t0_3)), (56, (.data (.int .i64) t56))] [.row (.int .i64) y.2.1 0, .row (.int .i64) y.2.2 0])
    (fun y1 y2 => k (.exit 6) (St.of [(5, (.ref 0 [] 0)), (0, (.data (.sl false (.sl false (.int .i64))) t0_3)), (7, (.ref 1 [] 0))] [.row (.int .i64) y1 0, .row (.int .i64) y2 0])) x := by kernel_rfl
theorem l40_19 (N : Nat) : LoopOK (x40 N) (loopAt 19 (loopsOf b40)) :=
  loop_mk (G40_19 N) (by kernel_rfl) (by kernel_rfl) (by kernel_rfl) fun R k d =>
    loop_eq (st := fun (x : Int × List Int × List Int) => ([(57, (.data (.int .i64) x.1)), (7, (.ref 0 [] 0)), (10, (.data (.int .i64) d.1.2.2.1)), (5, (.ref 1 [] 0)), (55, (.data (.sl false (.int .i64)) d.1.2.2.2.2.1)), (0, (.data (.sl false (.sl false (.int .i64))) d.1.2.2.2.2.2.1)), (56, (.data (.int .i64) d.1.2.2.2.2.2.2.1))], [.row (.int .i64) x.2.1 0, .row (.int .i64) x.2.2 0])) (s40_19 N k d.1.2.2.1 d.1.2.2.2.2.1 d.1.2.2.2.2.2.1 d.1.2.2.2.2.2.2.1) N (d.1.1, d.2.1, d.2.2.1)
theorem s40_15 (N : Nat) {R : Type} (k : AExit → St → Option R) (t0_2 : List (List Int)) (kb : List (Nat × AVal) → List Obj → Option R) (x : List Int × List Int) : codeK (x40 N) (loopAt 15 (loopsOf b40)) (St.of [(5, (.ref 0 [] 0)), (0, (.data (.sl false (.sl false (.int .i64))) t0_2)), (7, (.ref 1 [] 0))] [.row (.int .i64) x.1 0, .row (.int .i64) x.2 0]) (kLoop (x40 N) 15 ⟨[5, 0, 7], []⟩ kb k) = f40_L15 N t0_2 (fun y => kb [(5, (.ref 0 [] 0)), (0, (.data (.sl false (.sl false (.int .i64))) t0_2)), (7, (.ref 1 [] 0))] [.row (.int .i64) y.1 0, .row (.int .i64) y.2 0])
    (fun y0 => k (.exit 4) (St.of [(5, (.ref 0 [] 0))] [.row (.int .i64) y0 0])) x := by kernel_rfl
theorem l40_15 (N : Nat) : LoopOK (x40 N) (loopAt 15 (loopsOf b40)) :=
  loop_mk (G40_15 N) (by kernel_rfl) (by kernel_rfl) (by kernel_rfl) fun R k d =>
    loop_eq (st := fun (x : List Int × List Int) => ([(5, (.ref 0 [] 0)), (0, (.data (.sl false (.sl false (.int .i64))) d.1.2.1)), (7, (.ref 1 [] 0))], [.row (.int .i64) x.1 0, .row (.int .i64) x.2 0])) (s40_15 N k d.1.2.1) N (d.2.1, d.2.2.1)
theorem e40 (N : Nat) (a0 : List (List Int)) (a1 : List Int) : bodyK (x40 N) [(.sl true (.int .i64))] [.tmp 4] b40 (entry (.pr (.val (.sl false (.sl false (.int .i64)))) (.pr (.val (.sl false (.int .i64))) .un)) (a0, (a1, ()))) = f40 N a0 a1 := by kernel_rfl
theorem k40 (N : Nat) : CalleeOK Go.Proofs.Try.prog 40 (c40 N) :=
  fn_ok (fn := Go.Proofs.Try.f40) (body := b40) (c := x40 N) Go.Proofs.Try.func40 (by kernel_rfl) (by kernel_rfl) ⟨ttL_ok, mtL_ok, eqL_ok, ctL_ok, msL_ok, env_nil⟩ mixed (by kernel_rfl) (Nat.le_of_ble_eq_true (by kernel_rfl)) (by kernel_rfl) (by decide)
    (loops_ok (by kernel_rfl : loopsOf b40 = [loopAt 3 (loopsOf b40), loopAt 9 (loopsOf b40), loopAt 15 (loopsOf b40), loopAt 19 (loopsOf b40)]) (.cons (l40_3 N) (.cons (l40_9 N) (.cons (l40_15 N) (.cons (l40_19 N) .nil))))) fun d => e40 N d.1 d.2.1
def f15_L12 {R : Type} (N : Nat) (t10_1 : List (List Int)) (t2_1 : Int) (t12_1 : Int) (t50 : List Int) (t51 : Int) (o0_1 : List Int) (o1_1 : List Int) (kb : Int → Option R) (kx2 : Int → Option R) : Int → Option R :=
  fun t52 =>
    cond (decide (t52 < t51))
      ((idx t50 t52).bind fun x_2 =>
      chk (inb o0_1 x_2) <|
      (idx o0_1 x_2).bind fun x_3 =>
      chk (inb o0_1 t12_1) <|
      (idx o0_1 t12_1).bind fun x_4 =>
      cond (decide (x_3 = (wi64 (x_4 - 1))))
        (kx2 x_2)
        (kb (wi64 (t52 + 1))))
      (kx2 t12_1)
def f15_L10 {R : Type} (N : Nat) (t10 : List (List Int)) (t2 : Int) (o1 : List Int) (kb : Int × List Int → Option R) (kx0 : (List Int) → Option R) : Int × List Int → Option R :=
  fun (t12, o0) =>
    cond (!(decide (t12 = t2)))
      ((idx t10 t12).bind fun x_1 =>
      iter (fun w => f15_L12 N t10 t2 t12 x_1 (len x_1) o1 o0 w
        (fun t12_2 =>
          chk (decide ((Nat.succ (List.length o0)) ≤ room)) <|
          kb (t12_2, (o0 ++ (t12_2 :: ([] : List Int)))))) N 0)
      (kx0 o0)
def f15 (N : Nat) (a0 : (Int × (List (List Int) × Unit))) (a1 : Int) (a2 : Int) : Option (List Int × Int) :=
  (f39 N a0 (a1 :: (a2 :: ([] : List Int)))).bind fun r =>
  cond (!(decide (r = 0)))
    (some (([] : List Int), r))
    ((f42 N a0).bind fun r_1 =>
    (f41 N a0.1 r_1).bind fun r_2 =>
    (f40 N r_2 (a2 :: ([] : List Int))).bind fun r_3 =>
    chk (inb r_3 a1) <|
    (idx r_3 a1).bind fun x =>
    cond (decide (x < 0))
      (some (([] : List Int), 11))
      ((f41 N a0.1 a0.2.1).bind fun r_4 =>
      iter (fun w => f15_L10 N r_4 a2 r_3 w
        (fun o0_2 =>
          some (o0_2, 0))) N (a1, (a1 :: ([] : List Int)))))
def c15 (N : Nat) : Callee := .pure (.pr (.val (.pair (.int .i64) (.pair (.sl false (.arr 2 (.int .i64))) .unit))) (.pr (.val (.int .i64)) (.pr (.val (.int .i64)) .un))) [(.sl true (.int .i64)), (.int .i64)] fun d => f15 N d.1 d.2.1 d.2.2.1
def F15_12 : SForm := ⟨[(9, (.ref 0)), (10, (.val (.sl false (.sl false (.int .i64))))), (2, (.val (.int .i64))), (11, (.ref 1)), (52, (.val (.int .i64))), (12, (.val (.int .i64))), (50, (.val (.sl false (.int .i64)))), (51, (.val (.int .i64)))], [.row (.int .i64), .row (.int .i64)]⟩
def G15_12 (N : Nat) : (R : Type) → F15_12.den → (AExit → St → Option R) → Option R := fun R d k => iter (fun kb => f15_L12 N d.1.2.1 d.1.2.2.1 d.1.2.2.2.2.2.1 d.1.2.2.2.2.2.2.1 d.1.2.2.2.2.2.2.2.1 d.2.1 d.2.2.1 kb
    (fun y0 => k (.exit 2) (St.of [(12, (.data (.int .i64) y0)), (9, (.ref 0 [] 0)), (10, (.data (.sl false (.sl false (.int .i64))) d.1.2.1)), (2, (.data (.int .i64) d.1.2.2.1)), (11, (.ref 1 [] 0))] [.row (.int .i64) d.2.1 0, .row (.int .i64) d.2.2.1 0]))) N d.1.2.2.2.2.1
def F15_10 : SForm := ⟨[(11, (.ref 0)), (12, (.val (.int .i64))), (9, (.ref 1)), (10, (.val (.sl false (.sl false (.int .i64))))), (2, (.val (.int .i64)))], [.row (.int .i64), .row (.int .i64)]⟩
def G15_10 (N : Nat) : (R : Type) → F15_10.den → (AExit → St → Option R) → Option R := fun R d k => iter (fun kb => f15_L10 N d.1.2.2.2.1 d.1.2.2.2.2.1 d.2.2.1 kb
    (fun y0 => k (.exit 0) (St.of [(11, (.ref 0 [] 0))] [.row (.int .i64) y0 0]))) N (d.1.2.1, d.2.1)
def lp15 (N : Nat) : Nat → Option LoopFn := fun r => cond (Nat.beq r 12) (some fun R sl os k => F15_12.take sl os fun d => G15_12 N R d k) (cond (Nat.beq r 10) (some fun R sl os k => F15_10.take sl os fun d => G15_10 N R d k) (none))
def x15 (N : Nat) : Ctx := { fuel := N, tt := getL ttL, mt := getL mtL, ntmps := 73, env := fun f => (getL [(39, [c39 N]), (42, [c42 N]), (41, [c41 N]), (40, [c40 N])] f).getD [], cut := getL [(10, ⟨[11, 12, 9, 10, 2], []⟩), (12, ⟨[9, 10, 2, 11, 52, 12, 50, 51], []⟩)], exits := fun r => getL ((getL [(10, [(0, ⟨[11], []⟩)]), (12, [(2, ⟨[12, 9, 10, 2, 11], []⟩)])] r).getD []), res := ⟨[6, 7], []⟩, own := fun _ => none, lp := lp15 N, eqs := fun T => memN T eqL, ct := fun T => memN T ctL, ms := getMs msL }
noncomputable def b15 : Code := ((Go.Proofs.Try.f15).body).getD .skip
theorem s15_12 (N : Nat) {R : Type} (k : AExit → St → Option R) (t10_1 : List (List Int)) (t2_1 : Int) (t12_1 : Int) (t50 : List Int) (t51 : Int) (o0_1 : List Int) (o1_1 : List Int) (kb : List (Nat × AVal) → List Obj → Option R) (x : Int) : codeK (x15 N) (loopAt 12 (loopsOf b15)) (St.of [(9, (.ref 0 [] 0)), (10, (.data (.sl false (.sl false (.int .i64))) t10_1)), (2, (.data (.int .i64) t2_1)), (11, (.ref 1 [] 0)), (52, (.data (.int .i64) x)), (12, (.data (.int .i64) t12_1)), (50, (.data (.sl false (.int .i64)) t50)), (51, (.data (.int .i64) t51))] [.row (.int .i64) o0_1 0, .row (.int .i64) o1_1 0]) (kLoop (x15 N) 12 ⟨[9, 10, 2, 11, 52, 12, 50, 51], []⟩ kb k) = f15_L12 N t10_1 t2_1 t12_1 t50 t51 o0_1 o1_1 (fun y => kb [(9, (.ref 0 [] 0)), (10, (.data (.sl false (.sl false (.int .i64))) t10_1)), (2, (.data (.int .i64) t2_1)), (11, (.ref 1 [] 0)), (52, (.data (.int .i64) y)), (12, (.data (.int .i64) t12_1)), (50, (.data (.sl false (.int .i64)) t50)), (51, (.data (.int .i64) t51))] [.row (.int .i64) o0_1 0, .row (.int .i64) o1_1 0])
    (fun y0 => k (.exit 2) (St.of [(12, (.data (.int .i64) y0)), (9, (.ref 0 [] 0)), (10, (.data (.sl false (.sl false (.int .i64))) t10_1)), (2, (.data (.int .i64) t2_1)), (11, (.ref 1 [] 0))] [.row (.int .i64) o0_1 0, .row (.int .i64) o1_1 0])) x := by kernel_rfl
theorem l15_12 (N : Nat) : LoopOK (x15 N) (loopAt 12 (loopsOf b15)) :=
  loop_mk (G15_12 N) (by kernel_rfl) (by kernel_rfl) (by kernel_rfl) fun R k d =>
    loop_eq (st := fun (x : Int) => ([(9, (.ref 0 [] 0)), (10, (.data (.sl false (.sl false (.int .i64))) d.1.2.1)), (2, (.data (.int .i64) d.1.2.2.1)), (11, (.ref 1 [] 0)), (52, (.data (.int .i64) x)), (12, (.data (.int .i64) d.1.2.2.2.2.2.1)), (50, (.data (.sl false (.int .i64)) d.1.2.2.2.2.2.2.1)), (51, (.data (.int .i64) d.1.2.2.2.2.2.2.2.1))], [.row (.int .i64) d.2.1 0, .row (.int .i64) d.2.2.1 0])) (s15_12 N k d.1.2.1 d.1.2.2.1 d.1.2.2.2.2.2.1 d.1.2.2.2.2.2.2.1 d.1.2.2.2.2.2.2.2.1 d.2.1 d.2.2.1) N d.1.2.2.2.2.1
theorem s15_10 (N : Nat) {R : Type} (k : AExit → St → Option R) (t10 : List (List Int)) (t2 : Int) (o1 : List Int) (kb : List (Nat × AVal) → List Obj → Option R) (x : Int × List Int) : codeK (x15 N) (loopAt 10 (loopsOf b15)) (St.of [(11, (.ref 0 [] 0)), (12, (.data (.int .i64) x.1)), (9, (.ref 1 [] 0)), (10, (.data (.sl false (.sl false (.int .i64))) t10)), (2, (.data (.int .i64) t2))] [.row (.int .i64) x.2 0, .row (.int .i64) o1 0]) (kLoop (x15 N) 10 ⟨[11, 12, 9, 10, 2], []⟩ kb k) = f15_L10 N t10 t2 o1 (fun y => kb [(11, (.ref 0 [] 0)), (12, (.data (.int .i64) y.1)), (9, (.ref 1 [] 0)), (10, (.data (.sl false (.sl false (.int .i64))) t10)), (2, (.data (.int .i64) t2))] [.row (.int .i64) y.2 0, .row (.int .i64) o1 0])
    (fun y0 => k (.exit 0) (St.of [(11, (.ref 0 [] 0))] [.row (.int .i64) y0 0])) x := by kernel_rfl
theorem l15_10 (N : Nat) : LoopOK (x15 N) (loopAt 10 (loopsOf b15)) :=
  loop_mk (G15_10 N) (by kernel_rfl) (by kernel_rfl) (by kernel_rfl) fun R k d =>
    loop_eq (st := fun (x : Int × List Int) => ([(11, (.ref 0 [] 0)), (12, (.data (.int .i64) x.1)), (9, (.ref 1 [] 0)), (10, (.data (.sl false (.sl false (.int .i64))) d.1.2.2.2.1)), (2, (.data (.int .i64) d.1.2.2.2.2.1))], [.row (.int .i64) x.2 0, .row (.int .i64) d.2.2.1 0])) (s15_10 N k d.1.2.2.2.1 d.1.2.2.2.2.1 d.2.2.1) N (d.1.2.1, d.2.1)
theorem e15 (N : Nat) (a0 : (Int × (List (List Int) × Unit))) (a1 : Int) (a2 : Int) : bodyK (x15 N) [(.sl true (.int .i64)), (.int .i64)] [.tmp 6, .tmp 7] b15 (entry (.pr (.val (.pair (.int .i64) (.pair (.sl false (.arr 2 (.int .i64))) .unit))) (.pr (.val (.int .i64)) (.pr (.val (.int .i64)) .un))) (a0, (a1, (a2, ())))) = f15 N a0 a1 a2 := by kernel_rfl
theorem k15 (N : Nat) : CalleeOK Go.Proofs.Try.prog 15 (c15 N) :=
  fn_ok (fn := Go.Proofs.Try.f15) (body := b15) (c := x15 N) Go.Proofs.Try.func15 (by kernel_rfl) (by kernel_rfl) ⟨ttL_ok, mtL_ok, eqL_ok, ctL_ok, msL_ok, env_cons (forall_mem1 (k39 N)) (env_cons (forall_mem1 (k42 N)) (env_cons (forall_mem1 (k41 N)) (env_cons (forall_mem1 (k40 N)) (env_nil))))⟩ mixed (by kernel_rfl) (Nat.le_of_ble_eq_true (by kernel_rfl)) (by kernel_rfl) (by decide)
    (loops_ok (by kernel_rfl : loopsOf b15 = [loopAt 10 (loopsOf b15), loopAt 12 (loopsOf b15)]) (.cons (l15_10 N) (.cons (l15_12 N) .nil))) fun d => e15 N d.1 d.2.1 d.2.2.1
def f17_L4 {R : Type} (N : Nat) (t1 : List Int) (t0 : List Int) (t12 : Int) (kb : Int → Option R) (kret : Bool → Option R) (kx0 : Unit → Option R) : Int → Option R :=
  fun t13 =>
    cond (decide (t13 < t12))
      ((idx t0 t13).bind fun x =>
      (idx t1 t13).bind fun x_1 =>
      cond (!(decide (x = x_1)))
        (kret false)
        (kb (wi64 (t13 + 1))))
      (kx0 ())
def f17 (N : Nat) (a0 : List Int) (a1 : List Int) : Option (Bool) :=
  cond (!(decide ((len a0) = (len a1))))
    (some false)
    (iter (fun w => f17_L4 N a1 a0 (len a0) w
      (fun t4 =>
        some t4)
      (fun (_ : Unit) =>
        some true)) N 0)
def c17 (N : Nat) : Callee := .pure (.pr (.val (.sl false (.int .i64))) (.pr (.val (.sl false (.int .i64))) .un)) [.bool] fun d => f17 N d.1 d.2.1
def F17_4 : SForm := ⟨[(13, (.val (.int .i64))), (1, (.val (.sl false (.int .i64)))), (0, (.val (.sl false (.int .i64)))), (12, (.val (.int .i64)))], []⟩
def G17_4 (N : Nat) : (R : Type) → F17_4.den → (AExit → St → Option R) → Option R := fun R d k => iter (fun kb => f17_L4 N d.1.2.1 d.1.2.2.1 d.1.2.2.2.1 kb
    (fun y0 => k .ret (St.of [(4, (.data .bool y0))] []))
    (fun _ => k (.exit 0) (St.of [] []))) N d.1.1
def lp17 (N : Nat) : Nat → Option LoopFn := fun r => cond (Nat.beq r 4) (some fun R sl os k => F17_4.take sl os fun d => G17_4 N R d k) (none)
def x17 (N : Nat) : Ctx := { fuel := N, tt := getL ttL, mt := getL mtL, ntmps := 26, env := fun f => (getL [] f).getD [], cut := getL [(4, ⟨[13, 1, 0, 12], []⟩)], exits := fun r => getL ((getL [(4, [(0, ⟨[], []⟩)])] r).getD []), res := ⟨[4], []⟩, own := fun _ => none, lp := lp17 N, eqs := fun T => memN T eqL, ct := fun T => memN T ctL, ms := getMs msL }
noncomputable def b17 : Code := ((Go.Proofs.Try.f17).body).getD .skip
theorem s17_4 (N : Nat) {R : Type} (k : AExit → St → Option R) (t1 : List Int) (t0 : List Int) (t12 : Int) (kb : List (Nat × AVal) → List Obj → Option R) (x : Int) : codeK (x17 N) (loopAt 4 (loopsOf b17)) (St.of [(13, (.data (.int .i64) x)), (1, (.data (.sl false (.int .i64)) t1)), (0, (.data (.sl false (.int .i64)) t0)), (12, (.data (.int .i64) t12))] []) (kLoop (x17 N) 4 ⟨[13, 1, 0, 12], []⟩ kb k) = f17_L4 N t1 t0 t12 (fun y => kb [(13, (.data (.int .i64) y)), (1, (.data (.sl false (.int .i64)) t1)), (0, (.data (.sl false (.int .i64)) t0)), (12, (.data (.int .i64) t12))] [])
    (fun y0 => k .ret (St.of [(4, (.data .bool y0))] []))
    (fun _ => k (.exit 0) (St.of [] [])) x := by kernel_rfl
theorem l17_4 (N : Nat) : LoopOK (x17 N) (loopAt 4 (loopsOf b17)) :=
  loop_mk (G17_4 N) (by kernel_rfl) (by kernel_rfl) (by kernel_rfl) fun R k d =>
    loop_eq (st := fun (x : Int) => ([(13, (.data (.int .i64) x)), (1, (.data (.sl false (.int .i64)) d.1.2.1)), (0, (.data (.sl false (.int .i64)) d.1.2.2.1)), (12, (.data (.int .i64) d.1.2.2.2.1))], [])) (s17_4 N k d.1.2.1 d.1.2.2.1 d.1.2.2.2.1) N d.1.1
theorem e17 (N : Nat) (a0 : List Int) (a1 : List Int) : bodyK (x17 N) [.bool] [.tmp 4] b17 (entry (.pr (.val (.sl false (.int .i64))) (.pr (.val (.sl false (.int .i64))) .un)) (a0, (a1, ()))) = f17 N a0 a1 := by kernel_rfl
theorem k17 (N : Nat) : CalleeOK Go.Proofs.Try.prog 17 (c17 N) :=
  fn_ok (fn := Go.Proofs.Try.f17) (body := b17) (c := x17 N) Go.Proofs.Try.func17 (by kernel_rfl) (by kernel_rfl) ⟨ttL_ok, mtL_ok, eqL_ok, ctL_ok, msL_ok, env_nil⟩ mixed (by kernel_rfl) (Nat.le_of_ble_eq_true (by kernel_rfl)) (by kernel_rfl) (by decide)
    (loops_ok (by kernel_rfl : loopsOf b17 = [loopAt 4 (loopsOf b17)]) (.cons (l17_4 N) .nil)) fun d => e17 N d.1 d.2.1
def f13 (N : Nat) : Option (Bool) :=
  (f20 N (4, (((0 :: (1 :: ([] : List Int))) :: ((1 :: (2 :: ([] : List Int))) :: ((2 :: (1 :: ([] : List Int))) :: ((0 :: (3 :: ([] : List Int))) :: ([] : List (List Int)))))), ()))).bind fun r =>
  (f18 N (4, (((0 :: (1 :: ([] : List Int))) :: ((1 :: (2 :: ([] : List Int))) :: ((2 :: (1 :: ([] : List Int))) :: ((0 :: (3 :: ([] : List Int))) :: ([] : List (List Int)))))), ()))).bind fun r_1 =>
  (f18 N (4, (((2 :: (0 :: ([] : List Int))) :: ((2 :: (1 :: ([] : List Int))) :: ((1 :: (3 :: ([] : List Int))) :: ([] : List (List Int))))), ()))).bind fun r_2 =>
  (f15 N (4, (((2 :: (0 :: ([] : List Int))) :: ((2 :: (1 :: ([] : List Int))) :: ((1 :: (3 :: ([] : List Int))) :: ([] : List (List Int))))), ())) 2 3).bind fun r_3 =>
  (f15 N (4, (((2 :: (0 :: ([] : List Int))) :: ((2 :: (1 :: ([] : List Int))) :: ((1 :: (3 :: ([] : List Int))) :: ([] : List (List Int))))), ())) 0 3).bind fun r_4 =>
  (cond (decide (r.2 = 0))
      ((f17 N r.1 (0 :: (1 :: (1 :: (2 :: ([] : List Int)))))).bind fun r_5 =>
      some r_5)
      (some false)).bind fun b =>
  (cond b
      (some (decide (r_1.2 = 10)))
      (some false)).bind fun b_1 =>
  (cond b_1
      (some (decide (r_2.2 = 0)))
      (some false)).bind fun b_2 =>
  (cond b_2
      ((f17 N r_2.1 (2 :: (0 :: (1 :: (3 :: ([] : List Int)))))).bind fun r_6 =>
      some r_6)
      (some false)).bind fun b_3 =>
  (cond b_3
      (some (decide (r_3.2 = 0)))
      (some false)).bind fun b_4 =>
  (cond b_4
      ((f17 N r_3.1 (2 :: (1 :: (3 :: ([] : List Int))))).bind fun r_7 =>
      some r_7)
      (some false)).bind fun b_5 =>
  (cond b_5
      (some (decide (r_4.2 = 11)))
      (some false)).bind fun b_6 =>
  some b_6
def c13 (N : Nat) : Callee := .pure .un [.bool] fun d => f13 N 
def lp13 (N : Nat) : Nat → Option LoopFn := fun r => none
def x13 (N : Nat) : Ctx := { fuel := N, tt := getL ttL, mt := getL mtL, ntmps := 82, env := fun f => (getL [(20, [c20 N]), (18, [c18 N]), (15, [c15 N]), (17, [c17 N])] f).getD [], cut := getL [], exits := fun r => getL ((getL [] r).getD []), res := ⟨[0], []⟩, own := getL [(17, (.sl false (.arr 2 (.int .i64)))), (22, (.sl false (.arr 2 (.int .i64)))), (53, (.sl false (.int .i64))), (66, (.sl false (.int .i64))), (75, (.sl false (.int .i64)))], lp := lp13 N, eqs := fun T => memN T eqL, ct := fun T => memN T ctL, ms := getMs msL }
noncomputable def b13 : Code := ((Go.Proofs.Try.f13).body).getD .skip
theorem e13 (N : Nat) : bodyK (x13 N) [.bool] [.tmp 0] b13 (entry .un ()) = f13 N := by kernel_rfl
theorem k13 (N : Nat) : CalleeOK Go.Proofs.Try.prog 13 (c13 N) :=
  fn_ok (fn := Go.Proofs.Try.f13) (body := b13) (c := x13 N) Go.Proofs.Try.func13 (by kernel_rfl) (by kernel_rfl) ⟨ttL_ok, mtL_ok, eqL_ok, ctL_ok, msL_ok, env_cons (forall_mem1 (k20 N)) (env_cons (forall_mem1 (k18 N)) (env_cons (forall_mem1 (k15 N)) (env_cons (forall_mem1 (k17 N)) (env_nil))))⟩ mixed (by kernel_rfl) (Nat.le_of_ble_eq_true (by kernel_rfl)) (by kernel_rfl) (by decide)
    (loops_ok (by kernel_rfl : loopsOf b13 = []) .nil) fun d => e13 N 
def f43 (N : Nat) (a0 : (Int × (List (List Int) × Unit))) (a1 : Int) : Option (Bool) :=
  (cond (decide (0 ≤ a1))
      (some (decide (a1 < a0.1)))
      (some false)).bind fun b =>
  some b
def c43 (N : Nat) : Callee := .pure (.pr (.val (.pair (.int .i64) (.pair (.sl false (.arr 2 (.int .i64))) .unit))) (.pr (.val (.int .i64)) .un)) [.bool] fun d => f43 N d.1 d.2.1
def lp43 (N : Nat) : Nat → Option LoopFn := fun r => none
def x43 (N : Nat) : Ctx := { fuel := N, tt := getL ttL, mt := getL mtL, ntmps := 13, env := fun f => (getL [] f).getD [], cut := getL [], exits := fun r => getL ((getL [] r).getD []), res := ⟨[4], []⟩, own := fun _ => none, lp := lp43 N, eqs := fun T => memN T eqL, ct := fun T => memN T ctL, ms := getMs msL }
noncomputable def b43 : Code := ((Go.Proofs.Try.f43).body).getD .skip
theorem e43 (N : Nat) (a0 : (Int × (List (List Int) × Unit))) (a1 : Int) : bodyK (x43 N) [.bool] [.tmp 4] b43 (entry (.pr (.val (.pair (.int .i64) (.pair (.sl false (.arr 2 (.int .i64))) .unit))) (.pr (.val (.int .i64)) .un)) (a0, (a1, ()))) = f43 N a0 a1 := by kernel_rfl
theorem k43 (N : Nat) : CalleeOK Go.Proofs.Try.prog 43 (c43 N) :=
  fn_ok (fn := Go.Proofs.Try.f43) (body := b43) (c := x43 N) Go.Proofs.Try.func43 (by kernel_rfl) (by kernel_rfl) ⟨ttL_ok, mtL_ok, eqL_ok, ctL_ok, msL_ok, env_nil⟩ mixed (by kernel_rfl) (Nat.le_of_ble_eq_true (by kernel_rfl)) (by kernel_rfl) (by decide)
    (loops_ok (by kernel_rfl : loopsOf b43 = []) .nil) fun d => e43 N d.1 d.2.1
def f22_L6 {R : Type} (N : Nat) (o0 : (Int × (List (List Int) × Unit))) (kb : Int → Option R) (kret : Int → Option R) (kx0 : Unit → Option R) : Int → Option R :=
  fun t3 =>
    cond (decide (t3 < (len o0.2.1)))
      ((idx o0.2.1 t3).bind fun x =>
      (idx x 0).bind fun x_1 =>
      (f43 N o0 x_1).bind fun r =>
      (cond (!r)
          (some true)
          ((idx o0.2.1 t3).bind fun x_2 =>
          (idx x_2 1).bind fun x_3 =>
          (f43 N o0 x_3).bind fun r_1 =>
          some (!r_1))).bind fun b_1 =>
      cond b_1
        (kret 3)
        (kb (wi64 (t3 + 1))))
      (kx0 ())
def f22 (N : Nat) (a0 : (Int × (List (List Int) × Unit))) : Option (Int) :=
  cond (decide (a0.1 < 0))
    (some 1)
    ((cond (decide (4096 < a0.1))
        (some true)
        (some (decide (1048576 < (len a0.2.1))))).bind fun b =>
    cond b
      (some 4)
      (iter (fun w => f22_L6 N a0 w
        (fun t2 =>
          some t2)
        (fun (_ : Unit) =>
          some 0)) N 0))
def c22 (N : Nat) : Callee := .pure (.pr (.val (.pair (.int .i64) (.pair (.sl false (.arr 2 (.int .i64))) .unit))) .un) [(.int .i64)] fun d => f22 N d.1
def F22_6 : SForm := ⟨[(3, (.val (.int .i64))), (1, (.bptr 0 []))], [.cell (.val (.pair (.int .i64) (.pair (.sl false (.arr 2 (.int .i64))) .unit)))]⟩
def G22_6 (N : Nat) : (R : Type) → F22_6.den → (AExit → St → Option R) → Option R := fun R d k => iter (fun kb => f22_L6 N d.2.1 kb
    (fun y0 => k .ret (St.of [(2, (.data (.int .i64) y0))] []))
    (fun _ => k (.exit 0) (St.of [] []))) N d.1.1
def lp22 (N : Nat) : Nat → Option LoopFn := fun r => cond (Nat.beq r 6) (some fun R sl os k => F22_6.take sl os fun d => G22_6 N R d k) (none)
def x22 (N : Nat) : Ctx := { fuel := N, tt := getL ttL, mt := getL mtL, ntmps := 43, env := fun f => (getL [(43, [c43 N])] f).getD [], cut := getL [(6, ⟨[3, 1], []⟩)], exits := fun r => getL ((getL [(6, [(0, ⟨[], []⟩)])] r).getD []), res := ⟨[2], []⟩, own := fun _ => none, lp := lp22 N, eqs := fun T => memN T eqL, ct := fun T => memN T ctL, ms := getMs msL }
noncomputable def b22 : Code := ((Go.Proofs.Try.f22).body).getD .skip
theorem s22_6 (N : Nat) {R : Type} (k : AExit → St → Option R) (o0 : (Int × (List (List Int) × Unit))) (kb : List (Nat × AVal) → List Obj → Option R) (x : Int) : codeK (x22 N) (loopAt 6 (loopsOf b22)) (St.of [(3, (.data (.int .i64) x)), (1, (.bptr 0 []))] [.cell (.data (.pair (.int .i64) (.pair (.sl false (.arr 2 (.int .i64))) .unit)) o0)]) (kLoop (x22 N) 6 ⟨[3, 1], []⟩ kb k) = f22_L6 N o0 (fun y => kb [(3, (.data (.int .i64) y)), (1, (.bptr 0 []))] [.cell (.data (.pair (.int .i64) (.pair (.sl false (.arr 2 (.int .i64))) .unit)) o0)])
    (fun y0 => k .ret (St.of [(2, (.data (.int .i64) y0))] []))
    (fun _ => k (.exit 0) (St.of [] [])) x := by kernel_rfl
theorem l22_6 (N : Nat) : LoopOK (x22 N) (loopAt 6 (loopsOf b22)) :=
  loop_mk (G22_6 N) (by kernel_rfl) (by kernel_rfl) (by kernel_rfl) fun R k d =>
    loop_eq (st := fun (x : Int) => ([(3, (.data (.int .i64) x)), (1, (.bptr 0 []))], [.cell (.data (.pair (.int .i64) (.pair (.sl false (.arr 2 (.int .i64))) .unit)) d.2.1)])) (s22_6 N k d.2.1) N d.1.1
theorem e22 (N : Nat) (a0 : (Int × (List (List Int) × Unit))) : bodyK (x22 N) [(.int .i64)] [.tmp 2] b22 (entry (.pr (.val (.pair (.int .i64) (.pair (.sl false (.arr 2 (.int .i64))) .unit))) .un) (a0, ())) = f22 N a0 := by kernel_rfl
theorem k22 (N : Nat) : CalleeOK Go.Proofs.Try.prog 22 (c22 N) :=
  fn_ok (fn := Go.Proofs.Try.f22) (body := b22) (c := x22 N) Go.Proofs.Try.func22 (by kernel_rfl) (by kernel_rfl) ⟨ttL_ok, mtL_ok, eqL_ok, ctL_ok, msL_ok, env_cons (forall_mem1 (k43 N)) (env_nil)⟩ mixed (by kernel_rfl) (Nat.le_of_ble_eq_true (by kernel_rfl)) (by kernel_rfl) (by decide)
    (loops_ok (by kernel_rfl : loopsOf b22 = [loopAt 6 (loopsOf b22)]) (.cons (l22_6 N) .nil)) fun d => e22 N d.1
def f14 (N : Nat) (a0 : (Int × (List (List Int) × Unit))) : Option (Bool) :=
  (cond (decide ((len a0.2.1) ≤ 40))
      ((cond (decide (a0.1 ≤ 10))
          (some true)
          ((f22 N a0).bind fun r =>
          some (!(decide (r = 0))))).bind fun b =>
      some b)
      (some false)).bind fun b_1 =>
  some b_1
def c14 (N : Nat) : Callee := .pure (.pr (.val (.pair (.int .i64) (.pair (.sl false (.arr 2 (.int .i64))) .unit))) .un) [.bool] fun d => f14 N d.1
def lp14 (N : Nat) : Nat → Option LoopFn := fun r => none
def x14 (N : Nat) : Ctx := { fuel := N, tt := getL ttL, mt := getL mtL, ntmps := 17, env := fun f => (getL [(22, [c22 N])] f).getD [], cut := getL [], exits := fun r => getL ((getL [] r).getD []), res := ⟨[2], []⟩, own := fun _ => none, lp := lp14 N, eqs := fun T => memN T eqL, ct := fun T => memN T ctL, ms := getMs msL }
noncomputable def b14 : Code := ((Go.Proofs.Try.f14).body).getD .skip
theorem e14 (N : Nat) (a0 : (Int × (List (List Int) × Unit))) : bodyK (x14 N) [.bool] [.tmp 2] b14 (entry (.pr (.val (.pair (.int .i64) (.pair (.sl false (.arr 2 (.int .i64))) .unit))) .un) (a0, ())) = f14 N a0 := by kernel_rfl
theorem k14 (N : Nat) : CalleeOK Go.Proofs.Try.prog 14 (c14 N) :=
  fn_ok (fn := Go.Proofs.Try.f14) (body := b14) (c := x14 N) Go.Proofs.Try.func14 (by kernel_rfl) (by kernel_rfl) ⟨ttL_ok, mtL_ok, eqL_ok, ctL_ok, msL_ok, env_cons (forall_mem1 (k22 N)) (env_nil)⟩ mixed (by kernel_rfl) (Nat.le_of_ble_eq_true (by kernel_rfl)) (by kernel_rfl) (by decide)
    (loops_ok (by kernel_rfl : loopsOf b14 = []) .nil) fun d => e14 N d.1
def f45_L2 {R : Type} (N : Nat) (t2 : Int) (t1 : Int) (o0 : (Int × (List (List Int) × Unit))) (kb : Int → Option R) (kret : Bool → Option R) (kx0 : Unit → Option R) : Int → Option R :=
  fun t7 =>
    cond (decide (t7 < (len o0.2.1)))
      ((idx o0.2.1 t7).bind fun x =>
      (idx x 0).bind fun x_1 =>
      (cond (decide (x_1 = t1))
          ((idx o0.2.1 t7).bind fun x_2 =>
          (idx x_2 1).bind fun x_3 =>
          some (decide (x_3 = t2)))
          (some false)).bind fun b =>
      cond b
        (kret true)
        (kb (wi64 (t7 + 1))))
      (kx0 ())
def f45 (N : Nat) (a0 : (Int × (List (List Int) × Unit))) (a1 : Int) (a2 : Int) : Option (Bool) :=
  iter (fun w => f45_L2 N a2 a1 a0 w
    (fun t6 =>
      some t6)
    (fun (_ : Unit) =>
      some false)) N 0
def c45 (N : Nat) : Callee := .pure (.pr (.val (.pair (.int .i64) (.pair (.sl false (.arr 2 (.int .i64))) .unit))) (.pr (.val (.int .i64)) (.pr (.val (.int .i64)) .un))) [.bool] fun d => f45 N d.1 d.2.1 d.2.2.1
def F45_2 : SForm := ⟨[(7, (.val (.int .i64))), (2, (.val (.int .i64))), (3, (.bptr 0 [])), (1, (.val (.int .i64)))], [.cell (.val (.pair (.int .i64) (.pair (.sl false (.arr 2 (.int .i64))) .unit)))]⟩
def G45_2 (N : Nat) : (R : Type) → F45_2.den → (AExit → St → Option R) → Option R := fun R d k => iter (fun kb => f45_L2 N d.1.2.1 d.1.2.2.2.1 d.2.1 kb
    (fun y0 => k .ret (St.of [(6, (.data .bool y0))] []))
    (fun _ => k (.exit 0) (St.of [] []))) N d.1.1
def lp45 (N : Nat) : Nat → Option LoopFn := fun r => cond (Nat.beq r 2) (some fun R sl os k => F45_2.take sl os fun d => G45_2 N R d k) (none)
def x45 (N : Nat) : Ctx := { fuel := N, tt := getL ttL, mt := getL mtL, ntmps := 33, env := fun f => (getL [] f).getD [], cut := getL [(2, ⟨[7, 2, 3, 1], []⟩)], exits := fun r => getL ((getL [(2, [(0, ⟨[], []⟩)])] r).getD []), res := ⟨[6], []⟩, own := fun _ => none, lp := lp45 N, eqs := fun T => memN T eqL, ct := fun T => memN T ctL, ms := getMs msL }
noncomputable def b45 : Code := ((Go.Proofs.Try.f45).body).getD .skip
theorem s45_2 (N : Nat) {R : Type} (k : AExit → St → Option R) (t2 : Int) (t1 : Int) (o0 : (Int × (List (List Int) × Unit))) (kb : List (Nat × AVal) → List Obj → Option R) (x : Int) : codeK (x45 N) (loopAt 2 (loopsOf b45)) (St.of [(7, (.data (.int .i64) x)), (2, (.data (.int .i64) t2)), (3, (.bptr 0 [])), (1, (.data (.int .i64) t1))] [.cell (.data (.pair (.int .i64) (.pair (.sl false (.arr 2 (.int .i64))) .unit)) o0)]) (kLoop (x45 N) 2 ⟨[7, 2, 3, 1], []⟩ kb k) = f45_L2 N t2 t1 o0 (fun y => kb [(7, (.data (.int .i64) y)), (2, (.data (.int .i64) t2)), (3, (.bptr 0 [])), (1, (.data (.int .i64) t1))] [.cell (.data (.pair (.int .i64) (.pair (.sl false (.arr 2 (.int .i64))) .unit)) o0)])
    (fun y0 => k .ret (St.of [(6, (.data .bool y0))] []))
    (fun _ => k (.exit 0) (St.of [] [])) x := by kernel_rfl
theorem l45_2 (N : Nat) : LoopOK (x45 N) (loopAt 2 (loopsOf b45)) :=
  loop_mk (G45_2 N) (by kernel_rfl) (by kernel_rfl) (by kernel_rfl) fun R k d =>
    loop_eq (st := fun (x : Int) => ([(7, (.data (.int .i64) x)), (2, (.data (.int .i64) d.1.2.1)), (3, (.bptr 0 [])), (1, (.data (.int .i64) d.1.2.2.2.1))], [.cell (.data (.pair (.int .i64) (.pair (.sl false (.arr 2 (.int .i64))) .unit)) d.2.1)])) (s45_2 N k d.1.2.1 d.1.2.2.2.1 d.2.1) N d.1.1
theorem e45 (N : Nat) (a0 : (Int × (List (List Int) × Unit))) (a1 : Int) (a2 : Int) : bodyK (x45 N) [.bool] [.tmp 6] b45 (entry (.pr (.val (.pair (.int .i64) (.pair (.sl false (.arr 2 (.int .i64))) .unit))) (.pr (.val (.int .i64)) (.pr (.val (.int .i64)) .un))) (a0, (a1, (a2, ())))) = f45 N a0 a1 a2 := by kernel_rfl
theorem k45 (N : Nat) : CalleeOK Go.Proofs.Try.prog 45 (c45 N) :=
  fn_ok (fn := Go.Proofs.Try.f45) (body := b45) (c := x45 N) Go.Proofs.Try.func45 (by kernel_rfl) (by kernel_rfl) ⟨ttL_ok, mtL_ok, eqL_ok, ctL_ok, msL_ok, env_nil⟩ mixed (by kernel_rfl) (Nat.le_of_ble_eq_true (by kernel_rfl)) (by kernel_rfl) (by decide)
    (loops_ok (by kernel_rfl : loopsOf b45 = [loopAt 2 (loopsOf b45)]) (.cons (l45_2 N) .nil)) fun d => e45 N d.1 d.2.1 d.2.2.1
def f25_L9 {R : Type} (N : Nat) (t6_1 : Int) (o0_1 : Int) (o2_1 : (Int × (List (List Int) × Unit))) (o3_1 : Int) (kb : Int × List (List Int) → Option R) (kx2 : (List (List Int)) → Option R) : Int × List (List Int) → Option R :=
  fun (t7, o1_1) =>
    cond (decide (t7 < o2_1.1))
      ((f45 N o2_1 t6_1 t7).bind fun r_1 =>
      cond r_1
        (chk (decide ((Nat.succ (List.length o1_1)) ≤ room)) <|
        kb ((wi64 (t7 + 1)), (o1_1 ++ ((t6_1 :: (t7 :: ([] : List Int))) :: ([] : List (List Int))))))
        (kb ((wi64 (t7 + 1)), o1_1)))
      (kx2 o1_1)
def f25_L6 {R : Type} (N : Nat) (o0 : Int) (o2 : (Int × (List (List Int) × Unit))) (o3 : Int) (kb : Int × List (List Int) → Option R) (kx0 : (List (List Int)) → Option R) : Int × List (List Int) → Option R :=
  fun (t6, o1) =>
    cond (decide (t6 < o2.1))
      (iter (fun w => f25_L9 N t6 o0 o2 o3 w
        (fun o1_2 =>
          kb ((wi64 (t6 + 1)), o1_2))) N (0, o1))
      (kx0 o1)
def f25 (N : Nat) (a0 : (Int × (List (List Int) × Unit))) : Option ((Int × (List (List Int) × Unit)) × Int) :=
  (f22 N a0).bind fun r =>
  cond (!(decide (r = 0)))
    (some ((0, (([] : List (List Int)), ())), r))
    (iter (fun w => f25_L6 N a0.1 a0 0 w
      (fun o2_2 =>
        some ((a0.1, (o2_2, ())), 0))) N (0, ([] : List (List Int))))
def c25 (N : Nat) : Callee := .pure (.pr (.val (.pair (.int .i64) (.pair (.sl false (.arr 2 (.int .i64))) .unit))) .un) [(.pair (.int .i64) (.pair (.sl true (.arr 2 (.int .i64))) .unit)), (.int .i64)] fun d => f25 N d.1
def F25_9 : SForm := ⟨[(7, (.val (.int .i64))), (5, (.bptr 0 [])), (6, (.val (.int .i64))), (1, (.bptr 2 [])), (2, (.bptr 3 []))], [.cell (.agg (.pr (.val (.int .i64)) (.pr (.ref 1) .un))), .row (.arr 2 (.int .i64)), .cell (.val (.pair (.int .i64) (.pair (.sl false (.arr 2 (.int .i64))) .unit))), .cell (.agg (.pr (.val (.int .i64)) (.pr .nilS .un)))]⟩
def G25_9 (N : Nat) : (R : Type) → F25_9.den → (AExit → St → Option R) → Option R := fun R d k => iter (fun kb => f25_L9 N d.1.2.2.1 d.2.1.1 d.2.2.2.1 d.2.2.2.2.1.1 kb
    (fun y2 => k (.exit 2) (St.of [(5, (.bptr 0 [])), (1, (.bptr 2 [])), (2, (.bptr 3 [])), (6, (.data (.int .i64) d.1.2.2.1))] [.cell (.agg (.pr (.data (.int .i64) d.2.1.1) (.pr (.ref 1 [] 0) .un))), .row (.arr 2 (.int .i64)) y2 0, .cell (.data (.pair (.int .i64) (.pair (.sl false (.arr 2 (.int .i64))) .unit)) d.2.2.2.1), .cell (.agg (.pr (.data (.int .i64) d.2.2.2.2.1.1) (.pr .nilS .un)))]))) N (d.1.1, d.2.2.1)
def F25_6 : SForm := ⟨[(5, (.bptr 0 [])), (6, (.val (.int .i64))), (1, (.bptr 2 [])), (2, (.bptr 3 []))], [.cell (.agg (.pr (.val (.int .i64)) (.pr (.ref 1) .un))), .row (.arr 2 (.int .i64)), .cell (.val (.pair (.int .i64) (.pair (.sl false (.arr 2 (.int .i64))) .unit))), .cell (.agg (.pr (.val (.int .i64)) (.pr .nilS .un)))]⟩
def G25_6 (N : Nat) : (R : Type) → F25_6.den → (AExit → St → Option R) → Option R := fun R d k => iter (fun kb => f25_L6 N d.2.1.1 d.2.2.2.1 d.2.2.2.2.1.1 kb
    (fun y2 => k (.exit 0) (St.of [(2, (.bptr 0 [])), (5, (.bptr 1 []))] [.cell (.agg (.pr (.data (.int .i64) d.2.2.2.2.1.1) (.pr .nilS .un))), .cell (.agg (.pr (.data (.int .i64) d.2.1.1) (.pr (.ref 2 [] 0) .un))), .row (.arr 2 (.int .i64)) y2 0]))) N (d.1.2.1, d.2.2.1)
def lp25 (N : Nat) : Nat → Option LoopFn := fun r => cond (Nat.beq r 9) (some fun R sl os k => F25_9.take sl os fun d => G25_9 N R d k) (cond (Nat.beq r 6) (some fun R sl os k => F25_6.take sl os fun d => G25_6 N R d k) (none))
def x25 (N : Nat) : Ctx := { fuel := N, tt := getL ttL, mt := getL mtL, ntmps := 42, env := fun f => (getL [(22, [c22 N]), (45, [c45 N])] f).getD [], cut := getL [(6, ⟨[5, 6, 1, 2], [(5, some [.snd, .fst], .row (.arr 2 (.int .i64)))]⟩), (9, ⟨[7, 5, 6, 1, 2], [(5, some [.snd, .fst], .row (.arr 2 (.int .i64)))]⟩)], exits := fun r => getL ((getL [(6, [(0, ⟨[2, 5], []⟩)]), (9, [(2, ⟨[5, 1, 2, 6], []⟩)])] r).getD []), res := ⟨[2, 3], []⟩, own := fun _ => none, lp := lp25 N, eqs := fun T => memN T eqL, ct := fun T => memN T ctL, ms := getMs msL }
noncomputable def b25 : Code := ((Go.Proofs.Try.f25).body).getD .skip
theorem s25_9 (N : Nat) {R : Type} (k : AExit → St → Option R) (t6_1 : Int) (o0_1 : Int) (o2_1 : (Int × (List (List Int) × Unit))) (o3_1 : Int) (kb : List (Nat × AVal) → List Obj → Option R) (x : Int × List (List Int)) : codeK (x25 N) (loopAt 9 (loopsOf b25)) (St.of [(7, (.data (.int .i64) x.1)), (5, (.bptr 0 [])), (6, (.data (.int .i64) t6_1)), (1, (.bptr 2 [])), (2, (.bptr 3 []))] [.cell (.agg (.pr (.data (.int .i64) o0_1) (.pr (.ref 1 [] 0) .un))), .row (.arr 2 (.int .i64)) x.2 0, .cell (.data (.pair (.int .i64) (.pair (.sl false (.arr 2 (.int .i64))) .unit)) o2_1), .cell (.agg (.pr (.data (.int .i64) o3_1) (.pr .nilS .un)))]) (kLoop (x25 N) 9 ⟨[7, 5, 6, 1, 2], [(5, some [.snd, .fst], .row (.arr 2 (.int .i64)))]⟩ kb k) = f25_L9 N t6_1 o0_1 o2_1 o3_1 (fun y => kb [(7, (.data (.int .i64) y.1)), (5, (.bptr 0 [])), (6, (.data (.int .i64) t6_1)), (1, (.bptr 2 [])), (2, (.bptr 3 []))] [.cell (.agg (.pr (.data (.int .i64) o0_1) (.pr (.ref 1 [] 0) .un))), .row (.arr 2 (.int .i64)) y.2 0, .cell (.data (.pair (.int .i64) (.pair (.sl false (.arr 2 (.int .i64))) .unit)) o2_1), .cell (.agg (.pr (.data (.int .i64) o3_1) (.pr .nilS .un)))])
    (fun y2 => k (.exit 2) (St.of [(5, (.bptr 0 [])), (1, (.bptr 2 [])), (2, (.bptr 3 [])), (6, (.data (.int .i64) t6_1))] [.cell (.agg (.pr (.data (.int .i64) o0_1) (.pr (.ref 1 [] 0) .un))), .row (.arr 2 (.int .i64)) y2 0, .cell (.data (.pair (.int .i64) (.pair (.sl false (.arr 2 (.int .i64))) .unit)) o2_1), .cell (.agg (.pr (.data (.int .i64) o3_1) (.pr .nilS .un)))])) x := by kernel_rfl
theorem l25_9 (N : Nat) : LoopOK (x25 N) (loopAt 9 (loopsOf b25)) :=
  loop_mk (G25_9 N) (by kernel_rfl) (by kernel_rfl) (by kernel_rfl) fun R k d =>
    loop_eq (st := fun (x : Int × List (List Int)) => ([(7, (.data (.int .i64) x.1)), (5, (.bptr 0 [])), (6, (.data (.int .i64) d.1.2.2.1)), (1, (.bptr 2 [])), (2, (.bptr 3 []))], [.cell (.agg (.pr (.data (.int .i64) d.2.1.1) (.pr (.ref 1 [] 0) .un))), .row (.arr 2 (.int .i64)) x.2 0, .cell (.data (.pair (.int .i64) (.pair (.sl false (.arr 2 (.int .i64))) .unit)) d.2.2.2.1), .cell (.agg (.pr (.data (.int .i64) d.2.2.2.2.1.1) (.pr .nilS .un)))])) (s25_9 N k d.1.2.2.1 d.2.1.1 d.2.2.2.1 d.2.2.2.2.1.1) N (d.1.1, d.2.2.1)
theorem s25_6 (N : Nat) {R : Type} (k : AExit → St → Option R) (o0 : Int) (o2 : (Int × (List (List Int) × Unit))) (o3 : Int) (kb : List (Nat × AVal) → List Obj → Option R) (x : Int × List (List Int)) : codeK (x25 N) (loopAt 6 (loopsOf b25)) (St.of [(5, (.bptr 0 [])), (6, (.data (.int .i64) x.1)), (1, (.bptr 2 [])), (2, (.bptr 3 []))] [.cell (.agg (.pr (.data (.int .i64) o0) (.pr (.ref 1 [] 0) .un))), .row (.arr 2 (.int .i64)) x.2 0, .cell (.data (.pair (.int .i64) (.pair (.sl false (.arr 2 (.int .i64))) .unit)) o2), .cell (.agg (.pr (.data (.int .i64) o3) (.pr .nilS .un)))]) (kLoop (x25 N) 6 ⟨[5, 6, 1, 2], [(5, some [.snd, .fst], .row (.arr 2 (.int .i64)))]⟩ kb k) = f25_L6 N o0 o2 o3 (fun y => kb [(5, (.bptr 0 [])), (6, (.data (.int .i64) y.1)), (1, (.bptr 2 [])), (2, (.bptr 3 []))] [.cell (.agg (.pr (.data (.int .i64) o0) (.pr (.ref 1 [] 0) .un))), .row (.arr 2 (.int .i64)) y.2 0, .cell (.data (.pair (.int .i64) (.pair (.sl false (.arr 2 (.int .i64))) .unit)) o2), .cell (.agg (.pr (.data (.int .i64) o3) (.pr .nilS .un)))])
    (fun y2 => k (.exit 0) (St.of [(2, (.bptr 0 [])), (5, (.bptr 1 []))] [.cell (.agg (.pr (.data (.int .i64) o3) (.pr .nilS .un))), .cell (.agg (.pr (.data (.int .i64) o0) (.pr (.ref 2 [] 0) .un))), .row (.arr 2 (.int .i64)) y2 0])) x := by kernel_rfl
theorem l25_6 (N : Nat) : LoopOK (x25 N) (loopAt 6 (loopsOf b25)) :=
  loop_mk (G25_6 N) (by kernel_rfl) (by kernel_rfl) (by kernel_rfl) fun R k d =>
    loop_eq (st := fun (x : Int × List (List Int)) => ([(5, (.bptr 0 [])), (6, (.data (.int .i64) x.1)), (1, (.bptr 2 [])), (2, (.bptr 3 []))], [.cell (.agg (.pr (.data (.int .i64) d.2.1.1) (.pr (.ref 1 [] 0) .un))), .row (.arr 2 (.int .i64)) x.2 0, .cell (.data (.pair (.int .i64) (.pair (.sl false (.arr 2 (.int .i64))) .unit)) d.2.2.2.1), .cell (.agg (.pr (.data (.int .i64) d.2.2.2.2.1.1) (.pr .nilS .un)))])) (s25_6 N k d.2.1.1 d.2.2.2.1 d.2.2.2.2.1.1) N (d.1.2.1, d.2.2.1)
theorem e25 (N : Nat) (a0 : (Int × (List (List Int) × Unit))) : bodyK (x25 N) [(.pair (.int .i64) (.pair (.sl true (.arr 2 (.int .i64))) .unit)), (.int .i64)] [.cell 2 24, .tmp 3] b25 (entry (.pr (.val (.pair (.int .i64) (.pair (.sl false (.arr 2 (.int .i64))) .unit))) .un) (a0, ())) = f25 N a0 := by kernel_rfl
theorem k25 (N : Nat) : CalleeOK Go.Proofs.Try.prog 25 (c25 N) :=
  fn_ok (fn := Go.Proofs.Try.f25) (body := b25) (c := x25 N) Go.Proofs.Try.func25 (by kernel_rfl) (by kernel_rfl) ⟨ttL_ok, mtL_ok, eqL_ok, ctL_ok, msL_ok, env_cons (forall_mem1 (k22 N)) (env_cons (forall_mem1 (k45 N)) (env_nil))⟩ mixed (by kernel_rfl) (Nat.le_of_ble_eq_true (by kernel_rfl)) (by kernel_rfl) (by decide)
    (loops_ok (by kernel_rfl : loopsOf b25 = [loopAt 6 (loopsOf b25), loopAt 9 (loopsOf b25)]) (.cons (l25_6 N) (.cons (l25_9 N) .nil))) fun d => e25 N d.1
def f27_L6 {R : Type} (N : Nat) (o0 : Int) (o2 : (Int × (List (List Int) × Unit))) (o3 : Int) (kb : Int × List (List Int) → Option R) (kx0 : (List (List Int)) → Option R) : Int × List (List Int) → Option R :=
  fun (t6, o1) =>
    cond (decide (t6 < (len o2.2.1)))
      ((idx o2.2.1 t6).bind fun x =>
      (idx x 1).bind fun x_1 =>
      (idx o2.2.1 t6).bind fun x_2 =>
      (idx x_2 0).bind fun x_3 =>
      chk (decide ((Nat.succ (List.length o1)) ≤ room)) <|
      kb ((wi64 (t6 + 1)), (o1 ++ ((x_1 :: (x_3 :: ([] : List Int))) :: ([] : List (List Int))))))
      (kx0 o1)
def f27 (N : Nat) (a0 : (Int × (List (List Int) × Unit))) : Option ((Int × (List (List Int) × Unit)) × Int) :=
  (f22 N a0).bind fun r =>
  cond (!(decide (r = 0)))
    (some ((0, (([] : List (List Int)), ())), r))
    (iter (fun w => f27_L6 N a0.1 a0 0 w
      (fun o2_1 =>
        (f25 N (a0.1, (o2_1, ()))).bind fun r_1 =>
        some ((r_1.1.1, (r_1.1.2.1, ())), r_1.2))) N (0, ([] : List (List Int))))
def f53_L2 {R : Type} (N : Nat) (t1 : List Int) (o0 : (Int × (List (List Int) × Unit))) (kb : Int → Option R) (kret : Bool → Option R) (kx0 : Unit → Option R) : Int → Option R :=
  fun t5 =>
    cond (decide (t5 < (len t1)))
      ((idx t1 t5).bind fun x =>
      (f43 N o0 x).bind fun r =>
      cond (!r)
        (kret false)
        (kb (wi64 (t5 + 1))))
      (kx0 ())
def f53 (N : Nat) (a0 : (Int × (List (List Int) × Unit))) (a1 : List Int) : Option (Bool) :=
  iter (fun w => f53_L2 N a1 a0 w
    (fun t4 =>
      some t4)
    (fun (_ : Unit) =>
      some true)) N 0
def c53 (N : Nat) : Callee := .pure (.pr (.val (.pair (.int .i64) (.pair (.sl false (.arr 2 (.int .i64))) .unit))) (.pr (.val (.sl false (.int .i64))) .un)) [.bool] fun d => f53 N d.1 d.2.1
def F53_2 : SForm := ⟨[(5, (.val (.int .i64))), (1, (.val (.sl false (.int .i64)))), (2, (.bptr 0 []))], [.cell (.val (.pair (.int .i64) (.pair (.sl false (.arr 2 (.int .i64))) .unit)))]⟩
def G53_2 (N : Nat) : (R : Type) → F53_2.den → (AExit → St → Option R) → Option R := fun R d k => iter (fun kb => f53_L2 N d.1.2.1 d.2.1 kb
    (fun y0 => k .ret (St.of [(4, (.data .bool y0))] []))
    (fun _ => k (.exit 0) (St.of [] []))) N d.1.1
def lp53 (N : Nat) : Nat → Option LoopFn := fun r => cond (Nat.beq r 2) (some fun R sl os k => F53_2.take sl os fun d => G53_2 N R d k) (none)
def x53 (N : Nat) : Ctx := { fuel := N, tt := getL ttL, mt := getL mtL, ntmps := 19, env := fun f => (getL [(43, [c43 N])] f).getD [], cut := getL [(2, ⟨[5, 1, 2], []⟩)], exits := fun r => getL ((getL [(2, [(0, ⟨[], []⟩)])] r).getD []), res := ⟨[4], []⟩, own := fun _ => none, lp := lp53 N, eqs := fun T => memN T eqL, ct := fun T => memN T ctL, ms := getMs msL }
noncomputable def b53 : Code := ((Go.Proofs.Try.f53).body).getD .skip
theorem s53_2 (N : Nat) {R : Type} (k : AExit → St → Option R) (t1 : List Int) (o0 : (Int × (List (List Int) × Unit))) (kb : List (Nat × AVal) → List Obj → Option R) (x : Int) : codeK (x53 N) (loopAt 2 (loopsOf b53)) (St.of [(5, (.data (.int .i64) x)), (1, (.data (.sl false (.int .i64)) t1)), (2, (.bptr 0 []))] [.cell (.data (.pair (.int .i64) (.pair (.sl false (.arr 2 (.int .i64))) .unit)) o0)]) (kLoop (x53 N) 2 ⟨[5, 1, 2], []⟩ kb k) = f53_L2 N t1 o0 (fun y => kb [(5, (.data (.int .i64) y)), (1, (.data (.sl false (.int .i64)) t1)), (2, (.bptr 0 []))] [.cell (.data (.pair (.int .i64) (.pair (.sl false (.arr 2 (.int .i64))) .unit)) o0)])
    (fun y0 => k .ret (St.of [(4, (.data .bool y0))] []))
    (fun _ => k (.exit 0) (St.of [] [])) x := by kernel_rfl
theorem l53_2 (N : Nat) : LoopOK (x53 N) (loopAt 2 (loopsOf b53)) :=
  loop_mk (G53_2 N) (by kernel_rfl) (by kernel_rfl) (by kernel_rfl) fun R k d =>
    loop_eq (st := fun (x : Int) => ([(5, (.data (.int .i64) x)), (1, (.data (.sl false (.int .i64)) d.1.2.1)), (2, (.bptr 0 []))], [.cell (.data (.pair (.int .i64) (.pair (.sl false (.arr 2 (.int .i64))) .unit)) d.2.1)])) (s53_2 N k d.1.2.1 d.2.1) N d.1.1
theorem e53 (N : Nat) (a0 : (Int × (List (List Int) × Unit))) (a1 : List Int) : bodyK (x53 N) [.bool] [.tmp 4] b53 (entry (.pr (.val (.pair (.int .i64) (.pair (.sl false (.arr 2 (.int .i64))) .unit))) (.pr (.val (.sl false (.int .i64))) .un)) (a0, (a1, ()))) = f53 N a0 a1 := by kernel_rfl
theorem k53 (N : Nat) : CalleeOK Go.Proofs.Try.prog 53 (c53 N) :=
  fn_ok (fn := Go.Proofs.Try.f53) (body := b53) (c := x53 N) Go.Proofs.Try.func53 (by kernel_rfl) (by kernel_rfl) ⟨ttL_ok, mtL_ok, eqL_ok, ctL_ok, msL_ok, env_cons (forall_mem1 (k43 N)) (env_nil)⟩ mixed (by kernel_rfl) (Nat.le_of_ble_eq_true (by kernel_rfl)) (by kernel_rfl) (by decide)
    (loops_ok (by kernel_rfl : loopsOf b53 = [loopAt 2 (loopsOf b53)]) (.cons (l53_2 N) .nil)) fun d => e53 N d.1 d.2.1
def f44_L8 {R : Type} (N : Nat) (t1 : List Int) (o1 : (Int × (List (List Int) × Unit))) (kb : Int × List Int → Option R) (kx0 : (List Int) → Option R) : Int × List Int → Option R :=
  fun (t8, o0) =>
    cond (decide (t8 < o1.1))
      (chk (decide ((Nat.succ (List.length o0)) ≤ room)) <|
      kb ((wi64 (t8 + 1)), (o0 ++ ((-1) :: ([] : List Int)))))
      (kx0 o0)
def f44_L12 {R : Type} (N : Nat) (t1_1 : List Int) (o1_1 : (Int × (List (List Int) × Unit))) (kb : Int × List Int → Option R) (kx2 : (List Int) → Option R) : Int × List Int → Option R :=
  fun (t9, o0_2) =>
    cond (decide (t9 < (len t1_1)))
      ((idx t1_1 t9).bind fun x =>
      chk (inb o0_2 x) <|
      (idx o0_2 x).bind fun x_1 =>
      (idx o0_2 x).bind fun x_2 =>
      kb ((wi64 (t9 + 1)), (setI o0_2 x 0)))
      (kx2 o0_2)
def f44_L19 {R : Type} (N : Nat) (t10_1 : Int) (o1_3 : (Int × (List (List Int) × Unit))) (kb : Int × List Int → Option R) (kx6 : (List Int) → Option R) : Int × List Int → Option R :=
  fun (t11, o0_5) =>
    cond (decide (t11 < (len o1_3.2.1)))
      ((idx o1_3.2.1 t11).bind fun x_3 =>
      (idx x_3 0).bind fun x_4 =>
      (idx o1_3.2.1 t11).bind fun x_5 =>
      (idx x_5 1).bind fun x_6 =>
      chk (inb o0_5 x_4) <|
      (idx o0_5 x_4).bind fun x_7 =>
      (cond (decide (x_7 = t10_1))
          (chk (inb o0_5 x_6) <|
          (idx o0_5 x_6).bind fun x_8 =>
          some (decide (x_8 = (-1))))
          (some false)).bind fun b =>
      cond b
        (chk (inb o0_5 x_6) <|
        (idx o0_5 x_6).bind fun x_9 =>
        (idx o0_5 x_6).bind fun x_10 =>
        kb ((wi64 (t11 + 1)), (setI o0_5 x_6 (wi64 (t10_1 + 1)))))
        (kb ((wi64 (t11 + 1)), o0_5)))
      (kx6 o0_5)
def f44_L16 {R : Type} (N : Nat) (o1_2 : (Int × (List (List Int) × Unit))) (kb : Int × List Int → Option R) (kx4 : (List Int) → Option R) : Int × List Int → Option R :=
  fun (t10, o0_4) =>
    cond (decide (t10 < o1_2.1))
      (iter (fun w => f44_L19 N t10 o1_2 w
        (fun o0_6 =>
          kb ((wi64 (t10 + 1)), o0_6))) N (0, o0_4))
      (kx4 o0_4)
def f44 (N : Nat) (a0 : (Int × (List (List Int) × Unit))) (a1 : List Int) : Option (List Int × Int) :=
  (f22 N a0).bind fun r =>
  cond (!(decide (r = 0)))
    (some (([] : List Int), r))
    ((f53 N a0 a1).bind fun r_1 =>
    cond (!r_1)
      (some (([] : List Int), 3))
      (iter (fun w => f44_L8 N a1 a0 w
        (fun o0_1 =>
          iter (fun w => f44_L12 N a1 a0 w
            (fun o0_3 =>
              iter (fun w => f44_L16 N a0 w
                (fun o0_7 =>
                  some (o0_7, 0))) N (0, o0_3))) N (0, o0_1))) N (0, ([] : List Int))))
def c44 (N : Nat) : Callee := .pure (.pr (.val (.pair (.int .i64) (.pair (.sl false (.arr 2 (.int .i64))) .unit))) (.pr (.val (.sl false (.int .i64))) .un)) [(.sl true (.int .i64)), (.int .i64)] fun d => f44 N d.1 d.2.1
def F44_8 : SForm := ⟨[(8, (.val (.int .i64))), (7, (.ref 0)), (1, (.val (.sl false (.int .i64)))), (2, (.bptr 1 []))], [.row (.int .i64), .cell (.val (.pair (.int .i64) (.pair (.sl false (.arr 2 (.int .i64))) .unit)))]⟩
def G44_8 (N : Nat) : (R : Type) → F44_8.den → (AExit → St → Option R) → Option R := fun R d k => iter (fun kb => f44_L8 N d.1.2.2.1 d.2.2.1 kb
    (fun y1 => k (.exit 0) (St.of [(1, (.data (.sl false (.int .i64)) d.1.2.2.1)), (7, (.ref 0 [] 0)), (2, (.bptr 1 []))] [.row (.int .i64) y1 0, .cell (.data (.pair (.int .i64) (.pair (.sl false (.arr 2 (.int .i64))) .unit)) d.2.2.1)]))) N (d.1.1, d.2.1)
def F44_12 : SForm := ⟨[(9, (.val (.int .i64))), (1, (.val (.sl false (.int .i64)))), (7, (.ref 0)), (2, (.bptr 1 []))], [.row (.int .i64), .cell (.val (.pair (.int .i64) (.pair (.sl false (.arr 2 (.int .i64))) .unit)))]⟩
def G44_12 (N : Nat) : (R : Type) → F44_12.den → (AExit → St → Option R) → Option R := fun R d k => iter (fun kb => f44_L12 N d.1.2.1 d.2.2.1 kb
    (fun y0 => k (.exit 2) (St.of [(7, (.ref 0 [] 0)), (2, (.bptr 1 []))] [.row (.int .i64) y0 0, .cell (.data (.pair (.int .i64) (.pair (.sl false (.arr 2 (.int .i64))) .unit)) d.2.2.1)]))) N (d.1.1, d.2.1)
def F44_19 : SForm := ⟨[(11, (.val (.int .i64))), (10, (.val (.int .i64))), (7, (.ref 0)), (2, (.bptr 1 []))], [.row (.int .i64), .cell (.val (.pair (.int .i64) (.pair (.sl false (.arr 2 (.int .i64))) .unit)))]⟩
def G44_19 (N : Nat) : (R : Type) → F44_19.den → (AExit → St → Option R) → Option R := fun R d k => iter (fun kb => f44_L19 N d.1.2.1 d.2.2.1 kb
    (fun y1 => k (.exit 6) (St.of [(7, (.ref 0 [] 0)), (2, (.bptr 1 [])), (10, (.data (.int .i64) d.1.2.1))] [.row (.int .i64) y1 0, .cell (.data (.pair (.int .i64) (.pair (.sl false (.arr 2 (.int .i64))) .unit)) d.2.2.1)]))) N (d.1.1, d.2.1)
def F44_16 : SForm := ⟨[(10, (.val (.int .i64))), (7, (.ref 0)), (2, (.bptr 1 []))], [.row (.int .i64), .cell (.val (.pair (.int .i64) (.pair (.sl false (.arr 2 (.int .i64))) .unit)))]⟩
def G44_16 (N : Nat) : (R : Type) → F44_16.den → (AExit → St → Option R) → Option R := fun R d k => iter (fun kb => f44_L16 N d.2.2.1 kb
    (fun y0 => k (.exit 4) (St.of [(7, (.ref 0 [] 0))] [.row (.int .i64) y0 0]))) N (d.1.1, d.2.1)
def lp44 (N : Nat) : Nat → Option LoopFn := fun r => cond (Nat.beq r 8) (some fun R sl os k => F44_8.take sl os fun d => G44_8 N R d k) (cond (Nat.beq r 12) (some fun R sl os k => F44_12.take sl os fun d => G44_12 N R d k) (cond (Nat.beq r 19) (some fun R sl os k => F44_19.take sl os fun d => G44_19 N R d k) (cond (Nat.beq r 16) (some fun R sl os k => F44_16.take sl os fun d => G44_16 N R d k) (none))))
def x44 (N : Nat) : Ctx := { fuel := N, tt := getL ttL, mt := getL mtL, ntmps := 89, env := fun f => (getL [(22, [c22 N]), (53, [c53 N])] f).getD [], cut := getL [(8, ⟨[8, 7, 1, 2], []⟩), (12, ⟨[9, 1, 7, 2], []⟩), (16, ⟨[10, 7, 2], []⟩), (19, ⟨[11, 10, 7, 2], []⟩)], exits := fun r => getL ((getL [(8, [(0, ⟨[1, 7, 2], []⟩)]), (12, [(2, ⟨[7, 2], []⟩)]), (16, [(4, ⟨[7], []⟩)]), (19, [(6, ⟨[7, 2, 10], []⟩)])] r).getD []), res := ⟨[4, 5], []⟩, own := fun _ => none, lp := lp44 N, eqs := fun T => memN T eqL, ct := fun T => memN T ctL, ms := getMs msL }
noncomputable def b44 : Code := ((Go.Proofs.Try.f44).body).getD .skip
theorem s44_8 (N : Nat) {R : Type} (k : AExit → St → Option R) (t1 : List Int) (o1 : (Int × (List (List Int) × Unit))) (kb : List (Nat × AVal) → List Obj → Option R) (x : Int × List Int) : codeK (x44 N) (loopAt 8 (loopsOf b44)) (St.of [(8, (.data (.int .i64) x.1)), (7, (.ref 0 [] 0)), (1, (.data (.sl false (.int .i64)) t1)), (2, (.bptr 1 []))] [.row (.int .i64) x.2 0, .cell (.data (.pair (.int .i64) (.pair (.sl false (.arr 2 (.int .i64))) .unit)) o1)]) (kLoop (x44 N) 8 ⟨[8, 7, 1, 2], []⟩ kb k) = f44_L8 N t1 o1 (fun y => kb [(8, (.data (.int .i64) y.1)), (7, (.ref 0 [] 0)), (1, (.data (.sl false (.int .i64)) t1)), (2, (.bptr 1 []))] [.row (.int .i64) y.2 0, .cell (.data (.pair (.int .i64) (.pair (.sl false (.arr 2 (.int .i64))) .unit)) o1)])
    (fun y1 => k (.exit 0) (St.of [(1, (.data (.sl false (.int .i64)) t1)), (7, (.ref 0 [] 0)), (2, (.bptr 1 []))] [.row (.int .i64) y1 0, .cell (.data (.pair (.int .i64) (.pair (.sl false (.arr 2 (.int .i64))) .unit)) o1)])) x := by kernel_rfl
theorem l44_8 (N : Nat) : LoopOK (x44 N) (loopAt 8 (loopsOf b44)) :=
  loop_mk (G44_8 N) (by kernel_rfl) (by kernel_rfl) (by kernel_rfl) fun R k d =>
    loop_eq (st := fun (x : Int × List Int) => ([(8, (.data (.int .i64) x.1)), (7, (.ref 0 [] 0)), (1, (.data (.sl false (.int .i64)) d.1.2.2.1)), (2, (.bptr 1 []))], [.row (.int .i64) x.2 0, .cell (.data (.pair (.int .i64) (.pair (.sl false (.arr 2 (.int .i64))) .unit)) d.2.2.1)])) (s44_8 N k d.1.2.2.1 d.2.2.1) N (d.1.1, d.2.1)
theorem s44_12 (N : Nat) {R : Type} (k : AExit → St → Option R) (t1_1 : List Int) (o1_1 : (Int × (List (List Int) × Unit))) (kb : List (Nat × AVal) → List Obj → Option R) (x : Int × List Int) : codeK (x44 N) (loopAt 12 (loopsOf b44)) (St.of [(9, (.data (.int .i64) x.1)), (1, (.data (.sl false (.int .i64)) t1_1)), (7, (.ref 0 [] 0)), (2, (.bptr 1 []))] [.row (.int .i64) x.2 0, .cell (.data (.pair (.int .i64) (.pair (.sl false (.arr 2 (.int .i64))) .unit)) o1_1)]) (kLoop (x44 N) 12 ⟨[9, 1, 7, 2], []⟩ kb k) = f44_L12 N t1_1 o1_1 (fun y => kb [(9, (.data (.int .i64) y.1)), (1, (.data (.sl false (.int .i64)) t1_1)), (7, (.ref 0 [] 0)), (2, (.bptr 1 []))] [.row (.int .i64) y.2 0, .cell (.data (.pair (.int .i64) (.pair (.sl false (.arr 2 (.int .i64))) .unit)) o1_1)])
    (fun y0 => k (.exit 2) (St.of [(7, (.ref 0 [] 0)), (2, (.bptr 1 []))] [.row (.int .i64) y0 0, .cell (.data (.pair (.int .i64) (.pair (.sl false (.arr 2 (.int .i64))) .unit)) o1_1)])) x := by kernel_rfl
theorem l44_12 (N : Nat) : LoopOK (x44 N) (loopAt 12 (loopsOf b44)) :=
  loop_mk (G44_12 N) (by kernel_rfl) (by kernel_rfl) (by kernel_rfl) fun R k d =>
    loop_eq (st := fun (x : Int × List Int) => ([(9, (.data (.int .i64) x.1)), (1, (.data (.sl false (.int .i64)) d.1.2.1)), (7, (.ref 0 [] 0)), (2, (.bptr 1 []))], [.row (.int .i64) x.2 0, .cell (.data (.pair (.int .i64) (.pair (.sl false (.arr 2 (.int .i64))) .unit)) d.2.2.1)])) (s44_12 N k d.1.2.1 d.2.2.1) N (d.1.1, d.2.1)
theorem s44_19 (N : Nat) {R : Type} (k : AExit → St → Option R) (t10_1 : Int) (o1_3 : (Int × (List (List Int) × Unit))) (kb : List (Nat × AVal) → List Obj → Option R) (x : Int × List Int) : codeK (x44 N) (loopAt 19 (loopsOf b44)) (St.of [(11, (.data (.int .i64) x.1)), (10, (.data (.int .i64) t10_1)), (7, (.ref 0 [] 0)), (2, (.bptr 1 []))] [.row (.int .i64) x.2 0, .cell (.data (.pair (.int .i64) (.pair (.sl false (.arr 2 (.int .i64))) .unit)) o1_3)]) (kLoop (x44 N) 19 ⟨[11, 10, 7, 2], []⟩ kb k) = f44_L19 N t10_1 o1_3 (fun y => kb [(11, (.data (.int .i64) y.1)), (10, (.data (.int .i64) t10_1)), (7, (.ref 0 [] 0)), (2, (.bptr 1 []))] [.row (.int .i64) y.2 0, .cell (.data (.pair (.int .i64) (.pair (.sl false (.arr 2 (.int .i64))) .unit)) o1_3)])
    (fun y1 => k (.exit 6) (St.of [(7, (.ref 0 [] 0)), (2, (.bptr 1 [])), (10, (.data (.int .i64) t10_1))] [.row (.int .i64) y1 0, .cell (.data (.pair (.int .i64) (.pair (.sl false (.arr 2 (.int .i64))) .unit)) o1_3)])) x := by kernel_rfl
theorem l44_19 (N : Nat) : LoopOK (x44 N) (loopAt 19 (loopsOf b44)) :=
  loop_mk (G44_19 N) (by kernel_rfl) (by kernel_rfl) (by kernel_rfl) fun R k d =>
    loop_eq (st := fun (x : Int × List Int) => ([(11, (.data (.int .i64) x.1)), (10, (.data (.int .i64) d.1.2.1)), (7, (.ref 0 [] 0)), (2, (.bptr 1 []))], [.row (.int .i64) x.2 0, .cell (.data (.pair (.int .i64) (.pair (.sl false (.arr 2 (.int .i64))) .unit)) d.2.2.1)])) (s44_19 N k d.1.2.1 d.2.2.1) N (d.1.1, d.2.1)
theorem s44_16 (N : Nat) {R : Type} (k : AExit → St → Option R) (o1_2 : (Int × (List (List Int) × Unit))) (kb : List (Nat × AVal) → List Obj → Option R) (x : Int × List Int) : codeK (x44 N) (loopAt 16 (loopsOf b44)) (St.of [(10, (.data (.int .i64) x.1)), (7, (.ref 0 [] 0)), (2, (.bptr 1 []))] [.row (.int .i64) x.2 0, .cell (.data (.pair (.int .i64) (.pair (.sl false (.arr 2 (.int .i64))) .unit)) o1_2)]) (kLoop (x44 N) 16 ⟨[10, 7, 2], []⟩ kb k) = f44_L16 N o1_2 (fun y => kb [(10, (.data (.int .i64) y.1)), (7, (.ref 0 [] 0)), (2, (.bptr 1 []))] [.row (.int .i64) y.2 0, .cell (.data (.pair (.int .i64) (.pair (.sl false (.arr 2 (.int .i64))) .unit)) o1_2)])
    (fun y0 => k (.exit 4) (St.of [(7, (.ref 0 [] 0))] [.row (.int .i64) y0 0])) x := by kernel_rfl
theorem l44_16 (N : Nat) : LoopOK (x44 N) (loopAt 16 (loopsOf b44)) :=
  loop_mk (G44_16 N) (by kernel_rfl) (by kernel_rfl) (by kernel_rfl) fun R k d =>
    loop_eq (st := fun (x : Int × List Int) => ([(10, (.data (.int .i64) x.1)), (7, (.ref 0 [] 0)), (2, (.bptr 1 []))], [.row (.int .i64) x.2 0, .cell (.data (.pair (.int .i64) (.pair (.sl false (.arr 2 (.int .i64))) .unit)) d.2.2.1)])) (s44_16 N k d.2.2.1) N (d.1.1, d.2.1)
theorem e44 (N : Nat) (a0 : (Int × (List (List Int) × Unit))) (a1 : List Int) : bodyK (x44 N) [(.sl true (.int .i64)), (.int .i64)] [.tmp 4, .tmp 5] b44 (entry (.pr (.val (.pair (.int .i64) (.pair (.sl false (.arr 2 (.int .i64))) .unit))) (.pr (.val (.sl false (.int .i64))) .un)) (a0, (a1, ()))) = f44 N a0 a1 := by kernel_rfl
theorem k44 (N : Nat) : CalleeOK Go.Proofs.Try.prog 44 (c44 N) :=
  fn_ok (fn := Go.Proofs.Try.f44) (body := b44) (c := x44 N) Go.Proofs.Try.func44 (by kernel_rfl) (by kernel_rfl) ⟨ttL_ok, mtL_ok, eqL_ok, ctL_ok, msL_ok, env_cons (forall_mem1 (k22 N)) (env_cons (forall_mem1 (k53 N)) (env_nil))⟩ mixed (by kernel_rfl) (Nat.le_of_ble_eq_true (by kernel_rfl)) (by kernel_rfl) (by decide)
    (loops_ok (by kernel_rfl : loopsOf b44 = [loopAt 8 (loopsOf b44), loopAt 12 (loopsOf b44), loopAt 16 (loopsOf b44), loopAt 19 (loopsOf b44)]) (.cons (l44_8 N) (.cons (l44_12 N) (.cons (l44_16 N) (.cons (l44_19 N) .nil))))) fun d => e44 N d.1 d.2.1

end
end Go.Kz
