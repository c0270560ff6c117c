/-
  The functions of the program as plain functions on lists and numbers, and the proofs that the program computes them. Printed by a program.
-/
import Derived.Test.YtcnmiohlpaommaaKzP42
set_option linter.unusedSimpArgs false
set_option maxRecDepth 100000
set_option linter.unusedVariables false
namespace Go.Kz
open Go.Proofs

/-! ### 36: slices.Clone[[]int,int] -/
def f36 (N : Nat) (a0 : List Int) : Option (List Int) := chk (decide (0 + List.length a0 ≤ room)) (some a0)
def c36 (N : Nat) : Callee := .pure (.pr (.val (.sl false (.int .i64))) .un) [(.sl true (.int .i64))] fun d => f36 N d.1
def x36 (N : Nat) : Ctx := { fuel := N, tt := getL ttL, mt := getL mtL, ntmps := 8, env := fun f => (getL [] f).getD [], cut := fun _ => none, exits := fun _ _ => none, res := ⟨[2], []⟩, own := fun _ => none, lp := fun _ => none, eqs := fun T => memN T eqL }
theorem k36 (N : Nat) : CalleeOK Go.Proofs.Try.prog 36 (c36 N) :=
  fn_ok_nil (fn := Go.Proofs.Try.f36) (c := x36 N) (p := .pr (.val (.sl false (.int .i64))) .un) (ts := [(.sl true (.int .i64))]) (t := (.int .i64)) (σ0 := fun d => ⟨(entry (.pr (.val (.sl false (.int .i64))) .un) d |>.set 2 .nilS).slots, fun _ => none, 8⟩) Go.Proofs.Try.func36 (by kernel_rfl) rfl ⟨ttL_ok, mtL_ok, eqL_ok, env_nil⟩ mixed (by kernel_rfl) (Nat.le_of_ble_eq_true (by kernel_rfl)) (by kernel_rfl)
    (AllL.mem .nil) (AllL.mem .nil) (AllL.mem .nil) (fun d => by kernel_rfl) rfl rfl rfl rfl rfl rfl (Nat.le_of_ble_eq_true (by kernel_rfl)) (Nat.le_of_ble_eq_true (by kernel_rfl)) (by kernel_rfl : (x36 N).tt 31 = some (.sl false (.int .i64))) (fun d => d.1) (fun d => by kernel_rfl)
    (fun d b hb => match d, b, hb with
      | (a0, u), false, _ => by kernel_rfl
      | ([], u), true, _ => by kernel_rfl
      | (_ :: _, u), true, hb => nomatch hb rfl)
/-! ### 50: keyhole/keyholelaw42.Joint$1 -/
def f50_L2 {R : Type} (N : Nat) (t1 : Int) (t3 : (Int × (List (List Int) × Unit))) (t0 : Int) (t9 : List Int) (t10 : Int) (kb : Int → Option R) (kret : Bool → Option R) (kx0 : Unit → Option R) : Int → Option R :=
  fun t11 =>
    cond (decide (t11 < t10))
      ((idx t9 t11).bind fun x =>
      (idx t3.2.1 x).bind fun x_1 =>
      (idx x_1 t0).bind fun x_2 =>
      (idx t3.2.1 x).bind fun x_3 =>
      (idx x_3 t1).bind fun x_4 =>
      cond (!(decide (x_2 = x_4)))
        (kret false)
        (kb (wi64 (t11 + 1))))
      (kx0 ())
def f50 (N : Nat) (a0 : Int) (a1 : Int) (a2 : List Int) (a3 : (Int × (List (List Int) × Unit))) : Option (Bool) :=
  iter (fun w => f50_L2 N a1 a3 a0 a2 (len a2) w
    (fun t6 =>
      some t6)
    (fun (_ : Unit) =>
      some true)) N 0
def c50 (N : Nat) : Callee := .pure (.pr (.val (.int .i64)) (.pr (.val (.int .i64)) (.pr (.val (.ptr (.sl false (.int .i64)))) (.pr (.val (.ptr (.pair (.int .i64) (.pair (.sl false (.sl false (.int .i64))) .unit)))) .un)))) [.bool] fun d => f50 N d.1 d.2.1 d.2.2.1 d.2.2.2.1
def F50_2 : SForm := ⟨[(11, (.val (.int .i64))), (1, (.val (.int .i64))), (3, (.val (.ptr (.pair (.int .i64) (.pair (.sl false (.sl false (.int .i64))) .unit))))), (0, (.val (.int .i64))), (9, (.val (.sl false (.int .i64)))), (10, (.val (.int .i64)))], []⟩
def G50_2 (N : Nat) : (R : Type) → F50_2.den → (AExit → St → Option R) → Option R := fun R d k => iter (fun kb => f50_L2 N d.1.2.1 d.1.2.2.1 d.1.2.2.2.1 d.1.2.2.2.2.1 d.1.2.2.2.2.2.1 kb
    (fun y0 => k .ret (St.of [(6, (.data .bool y0))] []))
    (fun _ => k (.exit 0) (St.of [] []))) N d.1.1
def lp50 (N : Nat) : Nat → Option LoopFn := fun r => cond (Nat.beq r 2) (some fun R sl os k => F50_2.take sl os fun d => G50_2 N R d k) (none)
def x50 (N : Nat) : Ctx := { fuel := N, tt := getL ttL, mt := getL mtL, ntmps := 33, env := fun f => (getL [] f).getD [], cut := getL [(2, ⟨[11, 1, 3, 0, 9, 10], []⟩)], exits := fun r => getL ((getL [(2, [(0, ⟨[], []⟩)])] r).getD []), res := ⟨[6], []⟩, own := fun _ => none, lp := lp50 N, eqs := fun T => memN T eqL }
noncomputable def b50 : Code := ((Go.Proofs.Try.f50).body).getD .skip
theorem s50_2 (N : Nat) {R : Type} (k : AExit → St → Option R) (t1 : Int) (t3 : (Int × (List (List Int) × Unit))) (t0 : Int) (t9 : List Int) (t10 : Int) (kb : List (Nat × AVal) → List Obj → Option R) (x : Int) : codeK (x50 N) (loopAt 2 (loopsOf b50)) (St.of [(11, (.data (.int .i64) x)), (1, (.data (.int .i64) t1)), (3, (.data (.ptr (.pair (.int .i64) (.pair (.sl false (.sl false (.int .i64))) .unit))) t3)), (0, (.data (.int .i64) t0)), (9, (.data (.sl false (.int .i64)) t9)), (10, (.data (.int .i64) t10))] []) (kLoop (x50 N) 2 ⟨[11, 1, 3, 0, 9, 10], []⟩ kb k) = f50_L2 N t1 t3 t0 t9 t10 (fun y => kb [(11, (.data (.int .i64) y)), (1, (.data (.int .i64) t1)), (3, (.data (.ptr (.pair (.int .i64) (.pair (.sl false (.sl false (.int .i64))) .unit))) t3)), (0, (.data (.int .i64) t0)), (9, (.data (.sl false (.int .i64)) t9)), (10, (.data (.int .i64) t10))] [])
    (fun y0 => k .ret (St.of [(6, (.data .bool y0))] []))
    (fun _ => k (.exit 0) (St.of [] [])) x := by kernel_rfl
theorem l50_2 (N : Nat) : LoopOK (x50 N) (loopAt 2 (loopsOf b50)) :=
  loop_mk (G50_2 N) (by kernel_rfl) (by kernel_rfl) (by kernel_rfl) fun R k d =>
    loop_eq (st := fun (x : Int) => ([(11, (.data (.int .i64) x)), (1, (.data (.int .i64) d.1.2.1)), (3, (.data (.ptr (.pair (.int .i64) (.pair (.sl false (.sl false (.int .i64))) .unit))) d.1.2.2.1)), (0, (.data (.int .i64) d.1.2.2.2.1)), (9, (.data (.sl false (.int .i64)) d.1.2.2.2.2.1)), (10, (.data (.int .i64) d.1.2.2.2.2.2.1))], [])) (s50_2 N k d.1.2.1 d.1.2.2.1 d.1.2.2.2.1 d.1.2.2.2.2.1 d.1.2.2.2.2.2.1) N d.1.1
theorem e50 (N : Nat) (a0 : Int) (a1 : Int) (a2 : List Int) (a3 : (Int × (List (List Int) × Unit))) : bodyK (x50 N) [.bool] [.tmp 6] b50 (entry (.pr (.val (.int .i64)) (.pr (.val (.int .i64)) (.pr (.val (.ptr (.sl false (.int .i64)))) (.pr (.val (.ptr (.pair (.int .i64) (.pair (.sl false (.sl false (.int .i64))) .unit)))) .un)))) (a0, (a1, (a2, (a3, ()))))) = f50 N a0 a1 a2 a3 := by kernel_rfl
theorem k50 (N : Nat) : CalleeOK Go.Proofs.Try.prog 50 (c50 N) :=
  fn_ok (fn := Go.Proofs.Try.f50) (body := b50) (c := x50 N) Go.Proofs.Try.func50 (by kernel_rfl) (by kernel_rfl) ⟨ttL_ok, mtL_ok, eqL_ok, env_nil⟩ mixed (by kernel_rfl) (Nat.le_of_ble_eq_true (by kernel_rfl)) (by kernel_rfl) (by decide)
    (loops_ok (by kernel_rfl : loopsOf b50 = [loopAt 2 (loopsOf b50)]) (.cons (l50_2 N) .nil)) fun d => e50 N d.1 d.2.1 d.2.2.1 d.2.2.2.1
/-! ### 31: keyhole/keyholelaw42.Label -/
def f31v2_L7 {R : Type} (N : Nat) (t7_1 : Int) (t1_1 : (List Int × ((Int × (List (List Int) × Unit)) × Unit))) (t0_1 : Int) (t6_1 : Int) (o0_1 : List Int) (kb : Int × Int → Option R) (kx2 : Int → Option R) : Int × Int → Option R :=
  fun (t9, t8) =>
    (cond (decide (t9 < t7_1))
        (some (decide (t8 < 0)))
        (some false)).bind fun b =>
    cond b
      ((f50 N t7_1 t9 t1_1.1 t1_1.2.1).bind fun r =>
      cond r
        (chk (inb o0_1 t9) <|
        (idx o0_1 t9).bind fun x =>
        kb ((wi64 (t9 + 1)), x))
        (kb ((wi64 (t9 + 1)), t8)))
      (kx2 t8)
def f31v2_L3 {R : Type} (N : Nat) (t1 : (List Int × ((Int × (List (List Int) × Unit)) × Unit))) (t0 : Int) (kb : Int × Int × List Int → Option R) (kx0 : (List Int) → Option R) : Int × Int × List Int → Option R :=
  fun (t7, t6, o0) =>
    cond (decide (t7 < t0))
      (iter (fun w => f31v2_L7 N t7 t1 t0 t6 o0 w
        (fun t8_1 =>
          cond (decide (t8_1 < 0))
            (chk (decide ((o0.length.succ) ≤ room)) <|
            kb ((wi64 (t7 + 1)), (wi64 (t6 + 1)), (o0 ++ (t6 :: ([] : List Int)))))
            (chk (decide ((o0.length.succ) ≤ room)) <|
            kb ((wi64 (t7 + 1)), t6, (o0 ++ (t8_1 :: ([] : List Int))))))) N (0, (-1)))
      (kx0 o0)
def f31v2 (N : Nat) (a0 : Int) (a1 : (List Int × ((Int × (List (List Int) × Unit)) × Unit))) : Option (List Int) :=
  iter (fun w => f31v2_L3 N a1 a0 w
    (fun o0_2 =>
      some o0_2)) N (0, 0, ([] : List Int))
def c31v2 (N : Nat) : Callee := .pure (.pr (.val (.int .i64)) (.pr (.val (.fn 50 (.pair (.ptr (.sl false (.int .i64))) (.pair (.ptr (.pair (.int .i64) (.pair (.sl false (.sl false (.int .i64))) .unit))) .unit)))) .un)) [(.sl true (.int .i64))] fun d => f31v2 N d.1 d.2.1
def F31v2_7 : SForm := ⟨[(9, (.val (.int .i64))), (5, (.ref 0)), (7, (.val (.int .i64))), (1, (.val (.fn 50 (.pair (.ptr (.sl false (.int .i64))) (.pair (.ptr (.pair (.int .i64) (.pair (.sl false (.sl false (.int .i64))) .unit))) .unit))))), (0, (.val (.int .i64))), (6, (.val (.int .i64))), (8, (.val (.int .i64)))], [.row (.int .i64)]⟩
def G31v2_7 (N : Nat) : (R : Type) → F31v2_7.den → (AExit → St → Option R) → Option R := fun R d k => iter (fun kb => f31v2_L7 N d.1.2.2.1 d.1.2.2.2.1 d.1.2.2.2.2.1 d.1.2.2.2.2.2.1 d.2.1 kb
    (fun y4 => k (.exit 2) (St.of [(1, (.data (.fn 50 (.pair (.ptr (.sl false (.int .i64))) (.pair (.ptr (.pair (.int .i64) (.pair (.sl false (.sl false (.int .i64))) .unit))) .unit))) d.1.2.2.2.1)), (0, (.data (.int .i64) d.1.2.2.2.2.1)), (7, (.data (.int .i64) d.1.2.2.1)), (5, (.ref 0 [] 0)), (6, (.data (.int .i64) d.1.2.2.2.2.2.1)), (8, (.data (.int .i64) y4))] [.row (.int .i64) d.2.1 0]))) N (d.1.1, d.1.2.2.2.2.2.2.1)
def F31v2_3 : SForm := ⟨[(5, (.ref 0)), (7, (.val (.int .i64))), (1, (.val (.fn 50 (.pair (.ptr (.sl false (.int .i64))) (.pair (.ptr (.pair (.int .i64) (.pair (.sl false (.sl false (.int .i64))) .unit))) .unit))))), (6, (.val (.int .i64))), (0, (.val (.int .i64)))], [.row (.int .i64)]⟩
def G31v2_3 (N : Nat) : (R : Type) → F31v2_3.den → (AExit → St → Option R) → Option R := fun R d k => iter (fun kb => f31v2_L3 N d.1.2.2.1 d.1.2.2.2.2.1 kb
    (fun y0 => k (.exit 0) (St.of [(5, (.ref 0 [] 0))] [.row (.int .i64) y0 0]))) N (d.1.2.1, d.1.2.2.2.1, d.2.1)
def lp31v2 (N : Nat) : Nat → Option LoopFn := fun r => cond (Nat.beq r 7) (some fun R sl os k => F31v2_7.take sl os fun d => G31v2_7 N R d k) (cond (Nat.beq r 3) (some fun R sl os k => F31v2_3.take sl os fun d => G31v2_3 N R d k) (none))
def x31v2 (N : Nat) : Ctx := { fuel := N, tt := getL ttL, mt := getL mtL, ntmps := 43, env := fun f => (getL [(50, [c50 N])] f).getD [], cut := getL [(3, ⟨[5, 7, 1, 6, 0], []⟩), (7, ⟨[9, 5, 7, 1, 0, 6, 8], []⟩)], exits := fun r => getL ((getL [(3, [(0, ⟨[5], []⟩)]), (7, [(2, ⟨[1, 0, 7, 5, 6, 8], []⟩)])] r).getD []), res := ⟨[4], []⟩, own := fun _ => none, lp := lp31v2 N, eqs := fun T => memN T eqL }
noncomputable def b31v2 : Code := ((Go.Proofs.Try.f31).body).getD .skip
theorem s31v2_7 (N : Nat) {R : Type} (k : AExit → St → Option R) (t7_1 : Int) (t1_1 : (List Int × ((Int × (List (List Int) × Unit)) × Unit))) (t0_1 : Int) (t6_1 : Int) (o0_1 : List Int) (kb : List (Nat × AVal) → List Obj → Option R) (x : Int × Int) : codeK (x31v2 N) (loopAt 7 (loopsOf b31v2)) (St.of [(9, (.data (.int .i64) x.1)), (5, (.ref 0 [] 0)), (7, (.data (.int .i64) t7_1)), (1, (.data (.fn 50 (.pair (.ptr (.sl false (.int .i64))) (.pair (.ptr (.pair (.int .i64) (.pair (.sl false (.sl false (.int .i64))) .unit))) .unit))) t1_1)), (0, (.data (.int .i64) t0_1)), (6, (.data (.int .i64) t6_1)), (8, (.data (.int .i64) x.2))] [.row (.int .i64) o0_1 0]) (kLoop (x31v2 N) 7 ⟨[9, 5, 7, 1, 0, 6, 8], []⟩ kb k) = f31v2_L7 N t7_1 t1_1 t0_1 t6_1 o0_1 (fun y => kb [(9, (.data (.int .i64) y.1)), (5, (.ref 0 [] 0)), (7, (.data (.int .i64) t7_1)), (1, (.data (.fn 50 (.pair (.ptr (.sl false (.int .i64))) (.pair (.ptr (.pair (.int .i64) (.pair (.sl false (.sl false (.int .i64))) .unit))) .unit))) t1_1)), (0, (.data (.int .i64) t0_1)), (6, (.data (.int .i64) t6_1)), (8, (.data (.int .i64) y.2))] [.row (.int .i64) o0_1 0])
    (fun y4 => k (.exit 2) (St.of [(1, (.data (.fn 50 (.pair (.ptr (.sl false (.int .i64))) (.pair (.ptr (.pair (.int .i64) (.pair (.sl false (.sl false (.int .i64))) .unit))) .unit))) t1_1)), (0, (.data (.int .i64) t0_1)), (7, (.data (.int .i64) t7_1)), (5, (.ref 0 [] 0)), (6, (.data (.int .i64) t6_1)), (8, (.data (.int .i64) y4))] [.row (.int .i64) o0_1 0])) x := by kernel_rfl
theorem l31v2_7 (N : Nat) : LoopOK (x31v2 N) (loopAt 7 (loopsOf b31v2)) :=
  loop_mk (G31v2_7 N) (by kernel_rfl) (by kernel_rfl) (by kernel_rfl) fun R k d =>
    loop_eq (st := fun (x : Int × Int) => ([(9, (.data (.int .i64) x.1)), (5, (.ref 0 [] 0)), (7, (.data (.int .i64) d.1.2.2.1)), (1, (.data (.fn 50 (.pair (.ptr (.sl false (.int .i64))) (.pair (.ptr (.pair (.int .i64) (.pair (.sl false (.sl false (.int .i64))) .unit))) .unit))) d.1.2.2.2.1)), (0, (.data (.int .i64) d.1.2.2.2.2.1)), (6, (.data (.int .i64) d.1.2.2.2.2.2.1)), (8, (.data (.int .i64) x.2))], [.row (.int .i64) d.2.1 0])) (s31v2_7 N k d.1.2.2.1 d.1.2.2.2.1 d.1.2.2.2.2.1 d.1.2.2.2.2.2.1 d.2.1) N (d.1.1, d.1.2.2.2.2.2.2.1)
theorem s31v2_3 (N : Nat) {R : Type} (k : AExit → St → Option R) (t1 : (List Int × ((Int × (List (List Int) × Unit)) × Unit))) (t0 : Int) (kb : List (Nat × AVal) → List Obj → Option R) (x : Int × Int × List Int) : codeK (x31v2 N) (loopAt 3 (loopsOf b31v2)) (St.of [(5, (.ref 0 [] 0)), (7, (.data (.int .i64) x.1)), (1, (.data (.fn 50 (.pair (.ptr (.sl false (.int .i64))) (.pair (.ptr (.pair (.int .i64) (.pair (.sl false (.sl false (.int .i64))) .unit))) .unit))) t1)), (6, (.data (.int .i64) x.2.1)), (0, (.data (.int .i64) t0))] [.row (.int .i64) x.2.2 0]) (kLoop (x31v2 N) 3 ⟨[5, 7, 1, 6, 0], []⟩ kb k) = f31v2_L3 N t1 t0 (fun y => kb [(5, (.ref 0 [] 0)), (7, (.data (.int .i64) y.1)), (1, (.data (.fn 50 (.pair (.ptr (.sl false (.int .i64))) (.pair (.ptr (.pair (.int .i64) (.pair (.sl false (.sl false (.int .i64))) .unit))) .unit))) t1)), (6, (.data (.int .i64) y.2.1)), (0, (.data (.int .i64) t0))] [.row (.int .i64) y.2.2 0])
    (fun y0 => k (.exit 0) (St.of [(5, (.ref 0 [] 0))] [.row (.int .i64) y0 0])) x := by kernel_rfl
theorem l31v2_3 (N : Nat) : LoopOK (x31v2 N) (loopAt 3 (loopsOf b31v2)) :=
  loop_mk (G31v2_3 N) (by kernel_rfl) (by kernel_rfl) (by kernel_rfl) fun R k d =>
    loop_eq (st := fun (x : Int × Int × List Int) => ([(5, (.ref 0 [] 0)), (7, (.data (.int .i64) x.1)), (1, (.data (.fn 50 (.pair (.ptr (.sl false (.int .i64))) (.pair (.ptr (.pair (.int .i64) (.pair (.sl false (.sl false (.int .i64))) .unit))) .unit))) d.1.2.2.1)), (6, (.data (.int .i64) x.2.1)), (0, (.data (.int .i64) d.1.2.2.2.2.1))], [.row (.int .i64) x.2.2 0])) (s31v2_3 N k d.1.2.2.1 d.1.2.2.2.2.1) N (d.1.2.1, d.1.2.2.2.1, d.2.1)
theorem e31v2 (N : Nat) (a0 : Int) (a1 : (List Int × ((Int × (List (List Int) × Unit)) × Unit))) : bodyK (x31v2 N) [(.sl true (.int .i64))] [.tmp 4] b31v2 (entry (.pr (.val (.int .i64)) (.pr (.val (.fn 50 (.pair (.ptr (.sl false (.int .i64))) (.pair (.ptr (.pair (.int .i64) (.pair (.sl false (.sl false (.int .i64))) .unit))) .unit)))) .un)) (a0, (a1, ()))) = f31v2 N a0 a1 := by kernel_rfl
theorem k31v2 (N : Nat) : CalleeOK Go.Proofs.Try.prog 31 (c31v2 N) :=
  fn_ok (fn := Go.Proofs.Try.f31) (body := b31v2) (c := x31v2 N) Go.Proofs.Try.func31 (by kernel_rfl) (by kernel_rfl) ⟨ttL_ok, mtL_ok, eqL_ok, env_cons (forall_mem1 (k50 N)) (env_nil)⟩ mixed (by kernel_rfl) (Nat.le_of_ble_eq_true (by kernel_rfl)) (by kernel_rfl) (by decide)
    (loops_ok (by kernel_rfl : loopsOf b31v2 = [loopAt 3 (loopsOf b31v2), loopAt 7 (loopsOf b31v2)]) (.cons (l31v2_3 N) (.cons (l31v2_7 N) .nil))) fun d => e31v2 N d.1 d.2.1
/-! ### 35: keyhole/keyholelaw42.Joint -/
def f35 (N : Nat) (a0 : (Int × (List (List Int) × Unit))) (a1 : List Int) : Option (List Int) :=
  (f31v2 N a0.1 (a1, (a0, ()))).bind fun r =>
  some r
def c35 (N : Nat) : Callee := .pure (.pr (.val (.pair (.int .i64) (.pair (.sl false (.sl false (.int .i64))) .unit))) (.pr (.val (.sl false (.int .i64))) .un)) [(.sl true (.int .i64))] fun d => f35 N d.1 d.2.1
def lp35 (N : Nat) : Nat → Option LoopFn := fun r => none
def x35 (N : Nat) : Ctx := { fuel := N, tt := getL ttL, mt := getL mtL, ntmps := 9, env := fun f => (getL [(31, [c31v2 N])] f).getD [], cut := getL [], exits := fun r => getL ((getL [] r).getD []), res := ⟨[4], []⟩, own := fun _ => none, lp := lp35 N, eqs := fun T => memN T eqL }
noncomputable def b35 : Code := ((Go.Proofs.Try.f35).body).getD .skip
theorem e35 (N : Nat) (a0 : (Int × (List (List Int) × Unit))) (a1 : List Int) : bodyK (x35 N) [(.sl true (.int .i64))] [.tmp 4] b35 (entry (.pr (.val (.pair (.int .i64) (.pair (.sl false (.sl false (.int .i64))) .unit))) (.pr (.val (.sl false (.int .i64))) .un)) (a0, (a1, ()))) = f35 N a0 a1 := by kernel_rfl
theorem k35 (N : Nat) : CalleeOK Go.Proofs.Try.prog 35 (c35 N) :=
  fn_ok (fn := Go.Proofs.Try.f35) (body := b35) (c := x35 N) Go.Proofs.Try.func35 (by kernel_rfl) (by kernel_rfl) ⟨ttL_ok, mtL_ok, eqL_ok, env_cons (forall_mem1 (k31v2 N)) (env_nil)⟩ mixed (by kernel_rfl) (Nat.le_of_ble_eq_true (by kernel_rfl)) (by kernel_rfl) (by decide)
    (loops_ok (by kernel_rfl : loopsOf b35 = []) .nil) fun d => e35 N d.1 d.2.1
/-! ### 9: keyhole/keyholelaw42.StrategyJoint -/
def f9_L8 {R : Type} (N : Nat) (t28 : List Int) (t2 : Int) (t1 : List Int) (t29 : Int) (o0 : (Int × (List (List Int) × Unit))) (kb : Int × Int → Option R) (kx0 : Int → Option R) : Int × Int → Option R :=
  fun (t30, t7) =>
    cond (decide (t30 < t29))
      ((idx t28 t30).bind fun x =>
      (cond (decide (x < 0))
          (some true)
          (some (decide ((len o0.2.1) ≤ x)))).bind fun b_1 =>
      cond b_1
        (kb ((wi64 (t30 + 1)), 3))
        (kb ((wi64 (t30 + 1)), t7)))
      (kx0 t7)
def f9 (N : Nat) (a0 : (Int × (List (List Int) × Unit))) (a1 : List Int) (a2 : Int) : Option (Bool) :=
  (f12 N).bind fun r =>
  cond (!r)
    (some false)
    ((f13 N a0 ([] : List (Int × (List Int × Unit))) 62 0).bind fun r_1 =>
    (cond (!r_1)
        (some true)
        (some (decide (20 < (len a1))))).bind fun b =>
    cond b
      (some true)
      ((f18 N a0).bind fun r_2 =>
      cond (decide (r_2 = 0))
        (iter (fun w => f9_L8 N a1 a2 a1 (len a1) a0 w
          (fun t7_1 =>
            (f23 N a0 a1).bind fun r_3 =>
            (cond (!(decide (r_3.2 = t7_1)))
                (some true)
                (some (!(decide (t7_1 = 0))))).bind fun b_2 =>
            cond b_2
              ((cond (decide (r_3.2 = t7_1))
                  (some (decide ((len r_3.1) = 0)))
                  (some false)).bind fun b_3 =>
              some b_3)
              ((f35 N a0 a1).bind fun r_4 =>
              (f21 N r_3.1 r_4).bind fun r_5 =>
              cond (!r_5)
                (some false)
                ((cond (decide (a2 < 0))
                    (some true)
                    (some (decide ((len a0.2.1) ≤ a2)))).bind fun b_4 =>
                cond b_4
                  (some true)
                  ((f36 N a1).bind fun r_6 =>
                  chk (decide (((List.length r_6).succ) ≤ room)) <|
                  (f23 N a0 (r_6 ++ (a2 :: ([] : List Int)))).bind fun r_7 =>
                  (cond (decide (r_7.2 = 0))
                      (some (decide ((len r_7.1) = a0.1)))
                      (some false)).bind fun b_5 =>
                  (cond b_5
                      ((f24 N r_7.1 r_3.1).bind fun r_8 =>
                      some r_8)
                      (some false)).bind fun b_6 =>
                  some b_6))))) N (0, r_2))
        ((f23 N a0 a1).bind fun r_9 =>
        (cond (!(decide (r_9.2 = r_2)))
            (some true)
            (some (!(decide (r_2 = 0))))).bind fun b_7 =>
        cond b_7
          ((cond (decide (r_9.2 = r_2))
              (some (decide ((len r_9.1) = 0)))
              (some false)).bind fun b_8 =>
          some b_8)
          ((f35 N a0 a1).bind fun r_10 =>
          (f21 N r_9.1 r_10).bind fun r_11 =>
          cond (!r_11)
            (some false)
            ((cond (decide (a2 < 0))
                (some true)
                (some (decide ((len a0.2.1) ≤ a2)))).bind fun b_9 =>
            cond b_9
              (some true)
              ((f36 N a1).bind fun r_12 =>
              chk (decide (((List.length r_12).succ) ≤ room)) <|
              (f23 N a0 (r_12 ++ (a2 :: ([] : List Int)))).bind fun r_13 =>
              (cond (decide (r_13.2 = 0))
                  (some (decide ((len r_13.1) = a0.1)))
                  (some false)).bind fun b_10 =>
              (cond b_10
                  ((f24 N r_13.1 r_9.1).bind fun r_14 =>
                  some r_14)
                  (some false)).bind fun b_11 =>
              some b_11))))))
def c9 (N : Nat) : Callee := .pure (.pr (.val (.pair (.int .i64) (.pair (.sl false (.sl false (.int .i64))) .unit))) (.pr (.val (.sl false (.int .i64))) (.pr (.val (.int .i64)) .un))) [.bool] fun d => f9 N d.1 d.2.1 d.2.2.1
def F9_8 : SForm := ⟨[(30, (.val (.int .i64))), (3, (.bptr 0 [])), (28, (.val (.sl false (.int .i64)))), (7, (.val (.int .i64))), (2, (.val (.int .i64))), (1, (.val (.sl false (.int .i64)))), (29, (.val (.int .i64)))], [.cell (.val (.pair (.int .i64) (.pair (.sl false (.sl false (.int .i64))) .unit)))]⟩
def G9_8 (N : Nat) : (R : Type) → F9_8.den → (AExit → St → Option R) → Option R := fun R d k => iter (fun kb => f9_L8 N d.1.2.2.1 d.1.2.2.2.2.1 d.1.2.2.2.2.2.1 d.1.2.2.2.2.2.2.1 d.2.1 kb
    (fun y0 => k (.exit 0) (St.of [(7, (.data (.int .i64) y0)), (3, (.bptr 0 [])), (2, (.data (.int .i64) d.1.2.2.2.2.1)), (1, (.data (.sl false (.int .i64)) d.1.2.2.2.2.2.1))] [.cell (.data (.pair (.int .i64) (.pair (.sl false (.sl false (.int .i64))) .unit)) d.2.1)]))) N (d.1.1, d.1.2.2.2.1)
def lp9 (N : Nat) : Nat → Option LoopFn := fun r => cond (Nat.beq r 8) (some fun R sl os k => F9_8.take sl os fun d => G9_8 N R d k) (none)
def x9 (N : Nat) : Ctx := { fuel := N, tt := getL ttL, mt := getL mtL, ntmps := 104, env := fun f => (getL [(12, [c12 N]), (13, [c13 N]), (18, [c18 N]), (23, [c23 N]), (35, [c35 N]), (21, [c21 N]), (36, [c36 N]), (24, [c24 N])] f).getD [], cut := getL [(8, ⟨[30, 3, 28, 7, 2, 1, 29], []⟩)], exits := fun r => getL ((getL [(8, [(0, ⟨[7, 3, 2, 1], []⟩)])] r).getD []), res := ⟨[6], []⟩, own := fun _ => none, lp := lp9 N, eqs := fun T => memN T eqL }
noncomputable def b9 : Code := ((Go.Proofs.Try.f9).body).getD .skip
theorem s9_8 (N : Nat) {R : Type} (k : AExit → St → Option R) (t28 : List Int) (t2 : Int) (t1 : List Int) (t29 : Int) (o0 : (Int × (List (List Int) × Unit))) (kb : List (Nat × AVal) → List Obj → Option R) (x : Int × Int) : codeK (x9 N) (loopAt 8 (loopsOf b9)) (St.of [(30, (.data (.int .i64) x.1)), (3, (.bptr 0 [])), (28, (.data (.sl false (.int .i64)) t28)), (7, (.data (.int .i64) x.2)), (2, (.data (.int .i64) t2)), (1, (.data (.sl false (.int .i64)) t1)), (29, (.data (.int .i64) t29))] [.cell (.data (.pair (.int .i64) (.pair (.sl false (.sl false (.int .i64))) .unit)) o0)]) (kLoop (x9 N) 8 ⟨[30, 3, 28, 7, 2, 1, 29], []⟩ kb k) = f9_L8 N t28 t2 t1 t29 o0 (fun y => kb [(30, (.data (.int .i64) y.1)), (3, (.bptr 0 [])), (28, (.data (.sl false (.int .i64)) t28)), (7, (.data (.int .i64) y.2)), (2, (.data (.int .i64) t2)), (1, (.data (.sl false (.int .i64)) t1)), (29, (.data (.int .i64) t29))] [.cell (.data (.pair (.int .i64) (.pair (.sl false (.sl false (.int .i64))) .unit)) o0)])
    (fun y0 => k (.exit 0) (St.of [(7, (.data (.int .i64) y0)), (3, (.bptr 0 [])), (2, (.data (.int .i64) t2)), (1, (.data (.sl false (.int .i64)) t1))] [.cell (.data (.pair (.int .i64) (.pair (.sl false (.sl false (.int .i64))) .unit)) o0)])) x := by kernel_rfl
theorem l9_8 (N : Nat) : LoopOK (x9 N) (loopAt 8 (loopsOf b9)) :=
  loop_mk (G9_8 N) (by kernel_rfl) (by kernel_rfl) (by kernel_rfl) fun R k d =>
    loop_eq (st := fun (x : Int × Int) => ([(30, (.data (.int .i64) x.1)), (3, (.bptr 0 [])), (28, (.data (.sl false (.int .i64)) d.1.2.2.1)), (7, (.data (.int .i64) x.2)), (2, (.data (.int .i64) d.1.2.2.2.2.1)), (1, (.data (.sl false (.int .i64)) d.1.2.2.2.2.2.1)), (29, (.data (.int .i64) d.1.2.2.2.2.2.2.1))], [.cell (.data (.pair (.int .i64) (.pair (.sl false (.sl false (.int .i64))) .unit)) d.2.1)])) (s9_8 N k d.1.2.2.1 d.1.2.2.2.2.1 d.1.2.2.2.2.2.1 d.1.2.2.2.2.2.2.1 d.2.1) N (d.1.1, d.1.2.2.2.1)
theorem e9 (N : Nat) (a0 : (Int × (List (List Int) × Unit))) (a1 : List Int) (a2 : Int) : bodyK (x9 N) [.bool] [.tmp 6] b9 (entry (.pr (.val (.pair (.int .i64) (.pair (.sl false (.sl false (.int .i64))) .unit))) (.pr (.val (.sl false (.int .i64))) (.pr (.val (.int .i64)) .un))) (a0, (a1, (a2, ())))) = f9 N a0 a1 a2 := by kernel_rfl
theorem k9 (N : Nat) : CalleeOK Go.Proofs.Try.prog 9 (c9 N) :=
  fn_ok (fn := Go.Proofs.Try.f9) (body := b9) (c := x9 N) Go.Proofs.Try.func9 (by kernel_rfl) (by kernel_rfl) ⟨ttL_ok, mtL_ok, eqL_ok, env_cons (forall_mem1 (k12 N)) (env_cons (forall_mem1 (k13 N)) (env_cons (forall_mem1 (k18 N)) (env_cons (forall_mem1 (k23 N)) (env_cons (forall_mem1 (k35 N)) (env_cons (forall_mem1 (k21 N)) (env_cons (forall_mem1 (k36 N)) (env_cons (forall_mem1 (k24 N)) (env_nil))))))))⟩ mixed (by kernel_rfl) (Nat.le_of_ble_eq_true (by kernel_rfl)) (by kernel_rfl) (by decide)
    (loops_ok (by kernel_rfl : loopsOf b9 = [loopAt 8 (loopsOf b9)]) (.cons (l9_8 N) .nil)) fun d => e9 N d.1 d.2.1 d.2.2.1

end Go.Kz
