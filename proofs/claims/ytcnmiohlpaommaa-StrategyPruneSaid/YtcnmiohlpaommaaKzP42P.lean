/-
  The functions of the program as plain functions on lists and numbers, and the proofs that the program computes them. Printed by a program.
-/
import Derived.Test.YtcnmiohlpaommaaKzP42
set_option linter.unusedSimpArgs false
set_option maxRecDepth 100000
set_option linter.unusedVariables false
namespace Go.Kz
open Go.Proofs

/-! ### 36: slices.Clone[[]int,int] -/
def f36 (N : Nat) (a0 : List Int) : Option (List Int) := chk (decide (0 + List.length a0 ≤ room)) (some a0)
def c36 (N : Nat) : Callee := .pure (.pr (.val (.sl false (.int .i64))) .un) [(.sl true (.int .i64))] fun d => f36 N d.1
def x36 (N : Nat) : Ctx := { fuel := N, tt := getL ttL, mt := getL mtL, ntmps := 8, env := fun f => (getL [] f).getD [], cut := fun _ => none, exits := fun _ _ => none, res := ⟨[2], []⟩, own := fun _ => none, lp := fun _ => none, eqs := fun T => memN T eqL }
theorem k36 (N : Nat) : CalleeOK Go.Proofs.Try.prog 36 (c36 N) :=
  fn_ok_nil (fn := Go.Proofs.Try.f36) (c := x36 N) (p := .pr (.val (.sl false (.int .i64))) .un) (ts := [(.sl true (.int .i64))]) (t := (.int .i64)) (σ0 := fun d => ⟨(entry (.pr (.val (.sl false (.int .i64))) .un) d |>.set 2 .nilS).slots, fun _ => none, 8⟩) Go.Proofs.Try.func36 (by kernel_rfl) rfl ⟨ttL_ok, mtL_ok, eqL_ok, env_nil⟩ mixed (by kernel_rfl) (Nat.le_of_ble_eq_true (by kernel_rfl)) (by kernel_rfl)
    (AllL.mem .nil) (AllL.mem .nil) (AllL.mem .nil) (fun d => by kernel_rfl) rfl rfl rfl rfl rfl rfl (Nat.le_of_ble_eq_true (by kernel_rfl)) (Nat.le_of_ble_eq_true (by kernel_rfl)) (by kernel_rfl : (x36 N).tt 31 = some (.sl false (.int .i64))) (fun d => d.1) (fun d => by kernel_rfl)
    (fun d b hb => match d, b, hb with
      | (a0, u), false, _ => by kernel_rfl
      | ([], u), true, _ => by kernel_rfl
      | (_ :: _, u), true, hb => nomatch hb rfl)
/-! ### 38: keyhole/strategy.Prune -/
def f38_L13 {R : Type} (N : Nat) (t2_1 : Int) (t27_1 : List (Int × (List Int × Unit))) (t28_1 : Int) (t29_1 : Int) (t43 : Int) (o0_1 : Int) (o2 : List (Int × (List Int × Unit))) (kb : Int × List Int → Option R) (kx2 : (List Int) → Option R) : Int × List Int → Option R :=
  fun (t44, o1) =>
    cond (decide (t44 < t43))
      (chk (inb o1 t44) <|
      (idx o1 t44).bind fun x_1 =>
      (idx o1 t44).bind fun x_2 =>
      kb ((wi64 (t44 + 1)), (setI o1 t44 (-1))))
      (kx2 o1)
def f38_L8 {R : Type} (N : Nat) (t2 : Int) (t27 : List (Int × (List Int × Unit))) (t28 : Int) (kb : Int × (List (Int × (List Int × Unit))) → Option R) (kx0 : (List (Int × (List Int × Unit))) → Option R) : Int × (List (Int × (List Int × Unit))) → Option R :=
  fun (t29, o0) =>
    cond (decide (t29 < t28))
      ((idx t27 t29).bind fun x =>
      (f36 N x.2.1).bind fun r_1 =>
      cond (decide (t29 = t2))
        (iter (fun w => f38_L13 N t2 t27 t28 t29 (len r_1) x.1 o0 w
          (fun o1_1 =>
            chk (decide ((o0.length.succ) ≤ room)) <|
            kb ((wi64 (t29 + 1)), (o0 ++ ((x.1, (o1_1, ())) :: ([] : List (Int × (List Int × Unit)))))))) N (0, r_1))
        (chk (decide ((o0.length.succ) ≤ room)) <|
        kb ((wi64 (t29 + 1)), (o0 ++ ((x.1, (r_1, ())) :: ([] : List (Int × (List Int × Unit))))))))
      (kx0 o0)
def f38 (N : Nat) (a0 : (Int × (List (List Int) × Unit))) (a1 : List (Int × (List Int × Unit))) (a2 : Int) : Option ((List (Int × (List Int × Unit))) × Int) :=
  (f19 N a0 a1).bind fun r =>
  cond (!(decide (r = 0)))
    (some (([] : List (Int × (List Int × Unit))), r))
    ((cond (decide (a2 < 0))
        (some true)
        (some (decide ((len a1) ≤ a2)))).bind fun b =>
    cond b
      (some (([] : List (Int × (List Int × Unit))), 3))
      (iter (fun w => f38_L8 N a2 a1 (len a1) w
        (fun o0_2 =>
          some (o0_2, 0))) N (0, ([] : List (Int × (List Int × Unit))))))
def c38 (N : Nat) : Callee := .pure (.pr (.val (.pair (.int .i64) (.pair (.sl false (.sl false (.int .i64))) .unit))) (.pr (.val (.sl false (.pair (.int .i64) (.pair (.sl false (.int .i64)) .unit)))) (.pr (.val (.int .i64)) .un))) [(.sl true (.pair (.int .i64) (.pair (.sl false (.int .i64)) .unit))), (.int .i64)] fun d => f38 N d.1 d.2.1 d.2.2.1
def F38_13 : SForm := ⟨[(44, (.val (.int .i64))), (11, (.bptr 0 [])), (2, (.val (.int .i64))), (27, (.val (.sl false (.pair (.int .i64) (.pair (.sl false (.int .i64)) .unit))))), (28, (.val (.int .i64))), (29, (.val (.int .i64))), (9, (.ref 2)), (43, (.val (.int .i64)))], [.cell (.agg (.pr (.val (.int .i64)) (.pr (.ref 1) .un))), .row (.int .i64), .row (.pair (.int .i64) (.pair (.sl false (.int .i64)) .unit))]⟩
def G38_13 (N : Nat) : (R : Type) → F38_13.den → (AExit → St → Option R) → Option R := fun R d k => iter (fun kb => f38_L13 N d.1.2.2.1 d.1.2.2.2.1 d.1.2.2.2.2.1 d.1.2.2.2.2.2.1 d.1.2.2.2.2.2.2.2.1 d.2.1.1 d.2.2.2.1 kb
    (fun y5 => k (.exit 2) (St.of [(2, (.data (.int .i64) d.1.2.2.1)), (27, (.data (.sl false (.pair (.int .i64) (.pair (.sl false (.int .i64)) .unit))) d.1.2.2.2.1)), (28, (.data (.int .i64) d.1.2.2.2.2.1)), (29, (.data (.int .i64) d.1.2.2.2.2.2.1)), (11, (.bptr 0 [])), (9, (.ref 2 [] 0))] [.cell (.agg (.pr (.data (.int .i64) d.2.1.1) (.pr (.ref 1 [] 0) .un))), .row (.int .i64) y5 0, .row (.pair (.int .i64) (.pair (.sl false (.int .i64)) .unit)) d.2.2.2.1 0]))) N (d.1.1, d.2.2.1)
def F38_8 : SForm := ⟨[(29, (.val (.int .i64))), (9, (.ref 0)), (2, (.val (.int .i64))), (27, (.val (.sl false (.pair (.int .i64) (.pair (.sl false (.int .i64)) .unit))))), (28, (.val (.int .i64)))], [.row (.pair (.int .i64) (.pair (.sl false (.int .i64)) .unit))]⟩
def G38_8 (N : Nat) : (R : Type) → F38_8.den → (AExit → St → Option R) → Option R := fun R d k => iter (fun kb => f38_L8 N d.1.2.2.1 d.1.2.2.2.1 d.1.2.2.2.2.1 kb
    (fun y0 => k (.exit 0) (St.of [(9, (.ref 0 [] 0))] [.row (.pair (.int .i64) (.pair (.sl false (.int .i64)) .unit)) y0 0]))) N (d.1.1, d.2.1)
def lp38 (N : Nat) : Nat → Option LoopFn := fun r => cond (Nat.beq r 13) (some fun R sl os k => F38_13.take sl os fun d => G38_13 N R d k) (cond (Nat.beq r 8) (some fun R sl os k => F38_8.take sl os fun d => G38_8 N R d k) (none))
def x38 (N : Nat) : Ctx := { fuel := N, tt := getL ttL, mt := getL mtL, ntmps := 58, env := fun f => (getL [(19, [c19 N]), (36, [c36 N])] f).getD [], cut := getL [(8, ⟨[29, 9, 2, 27, 28], [(9, none, .row (.pair (.int .i64) (.pair (.sl false (.int .i64)) .unit)))]⟩), (13, ⟨[44, 11, 2, 27, 28, 29, 9, 43], []⟩)], exits := fun r => getL ((getL [(8, [(0, ⟨[9], []⟩)]), (13, [(2, ⟨[2, 27, 28, 29, 11, 9], []⟩)])] r).getD []), res := ⟨[6, 7], []⟩, own := fun _ => none, lp := lp38 N, eqs := fun T => memN T eqL }
noncomputable def b38 : Code := ((Go.Proofs.Try.f38).body).getD .skip
theorem s38_13 (N : Nat) {R : Type} (k : AExit → St → Option R) (t2_1 : Int) (t27_1 : List (Int × (List Int × Unit))) (t28_1 : Int) (t29_1 : Int) (t43 : Int) (o0_1 : Int) (o2 : List (Int × (List Int × Unit))) (kb : List (Nat × AVal) → List Obj → Option R) (x : Int × List Int) : codeK (x38 N) (loopAt 13 (loopsOf b38)) (St.of [(44, (.data (.int .i64) x.1)), (11, (.bptr 0 [])), (2, (.data (.int .i64) t2_1)), (27, (.data (.sl false (.pair (.int .i64) (.pair (.sl false (.int .i64)) .unit))) t27_1)), (28, (.data (.int .i64) t28_1)), (29, (.data (.int .i64) t29_1)), (9, (.ref 2 [] 0)), (43, (.data (.int .i64) t43))] [.cell (.agg (.pr (.data (.int .i64) o0_1) (.pr (.ref 1 [] 0) .un))), .row (.int .i64) x.2 0, .row (.pair (.int .i64) (.pair (.sl false (.int .i64)) .unit)) o2 0]) (kLoop (x38 N) 13 ⟨[44, 11, 2, 27, 28, 29, 9, 43], []⟩ kb k) = f38_L13 N t2_1 t27_1 t28_1 t29_1 t43 o0_1 o2 (fun y => kb [(44, (.data (.int .i64) y.1)), (11, (.bptr 0 [])), (2, (.data (.int .i64) t2_1)), (27, (.data (.sl false (.pair (.int .i64) (.pair (.sl false (.int .i64)) .unit))) t27_1)), (28, (.data (.int .i64) t28_1)), (29, (.data (.int .i64) t29_1)), (9, (.ref 2 [] 0)), (43, (.data (.int .i64) t43))] [.cell (.agg (.pr (.data (.int .i64) o0_1) (.pr (.ref 1 [] 0) .un))), .row (.int .i64) y.2 0, .row (.pair (.int .i64) (.pair (.sl false (.int .i64)) .unit)) o2 0])
    (fun y5 => k (.exit 2) (St.of [(2, (.data (.int .i64) t2_1)), (27, (.data (.sl false (.pair (.int .i64) (.pair (.sl false (.int .i64)) .unit))) t27_1)), (28, (.data (.int .i64) t28_1)), (29, (.data (.int .i64) t29_1)), (11, (.bptr 0 [])), (9, (.ref 2 [] 0))] [.cell (.agg (.pr (.data (.int .i64) o0_1) (.pr (.ref 1 [] 0) .un))), .row (.int .i64) y5 0, .row (.pair (.int .i64) (.pair (.sl false (.int .i64)) .unit)) o2 0])) x := by kernel_rfl
theorem l38_13 (N : Nat) : LoopOK (x38 N) (loopAt 13 (loopsOf b38)) :=
  loop_mk (G38_13 N) (by kernel_rfl) (by kernel_rfl) (by kernel_rfl) fun R k d =>
    loop_eq (st := fun (x : Int × List Int) => ([(44, (.data (.int .i64) x.1)), (11, (.bptr 0 [])), (2, (.data (.int .i64) d.1.2.2.1)), (27, (.data (.sl false (.pair (.int .i64) (.pair (.sl false (.int .i64)) .unit))) d.1.2.2.2.1)), (28, (.data (.int .i64) d.1.2.2.2.2.1)), (29, (.data (.int .i64) d.1.2.2.2.2.2.1)), (9, (.ref 2 [] 0)), (43, (.data (.int .i64) d.1.2.2.2.2.2.2.2.1))], [.cell (.agg (.pr (.data (.int .i64) d.2.1.1) (.pr (.ref 1 [] 0) .un))), .row (.int .i64) x.2 0, .row (.pair (.int .i64) (.pair (.sl false (.int .i64)) .unit)) d.2.2.2.1 0])) (s38_13 N k d.1.2.2.1 d.1.2.2.2.1 d.1.2.2.2.2.1 d.1.2.2.2.2.2.1 d.1.2.2.2.2.2.2.2.1 d.2.1.1 d.2.2.2.1) N (d.1.1, d.2.2.1)
theorem s38_8 (N : Nat) {R : Type} (k : AExit → St → Option R) (t2 : Int) (t27 : List (Int × (List Int × Unit))) (t28 : Int) (kb : List (Nat × AVal) → List Obj → Option R) (x : Int × (List (Int × (List Int × Unit)))) : codeK (x38 N) (loopAt 8 (loopsOf b38)) (St.of [(29, (.data (.int .i64) x.1)), (9, (.ref 0 [] 0)), (2, (.data (.int .i64) t2)), (27, (.data (.sl false (.pair (.int .i64) (.pair (.sl false (.int .i64)) .unit))) t27)), (28, (.data (.int .i64) t28))] [.row (.pair (.int .i64) (.pair (.sl false (.int .i64)) .unit)) x.2 0]) (kLoop (x38 N) 8 ⟨[29, 9, 2, 27, 28], [(9, none, .row (.pair (.int .i64) (.pair (.sl false (.int .i64)) .unit)))]⟩ kb k) = f38_L8 N t2 t27 t28 (fun y => kb [(29, (.data (.int .i64) y.1)), (9, (.ref 0 [] 0)), (2, (.data (.int .i64) t2)), (27, (.data (.sl false (.pair (.int .i64) (.pair (.sl false (.int .i64)) .unit))) t27)), (28, (.data (.int .i64) t28))] [.row (.pair (.int .i64) (.pair (.sl false (.int .i64)) .unit)) y.2 0])
    (fun y0 => k (.exit 0) (St.of [(9, (.ref 0 [] 0))] [.row (.pair (.int .i64) (.pair (.sl false (.int .i64)) .unit)) y0 0])) x := by kernel_rfl
theorem l38_8 (N : Nat) : LoopOK (x38 N) (loopAt 8 (loopsOf b38)) :=
  loop_mk (G38_8 N) (by kernel_rfl) (by kernel_rfl) (by kernel_rfl) fun R k d =>
    loop_eq (st := fun (x : Int × (List (Int × (List Int × Unit)))) => ([(29, (.data (.int .i64) x.1)), (9, (.ref 0 [] 0)), (2, (.data (.int .i64) d.1.2.2.1)), (27, (.data (.sl false (.pair (.int .i64) (.pair (.sl false (.int .i64)) .unit))) d.1.2.2.2.1)), (28, (.data (.int .i64) d.1.2.2.2.2.1))], [.row (.pair (.int .i64) (.pair (.sl false (.int .i64)) .unit)) x.2 0])) (s38_8 N k d.1.2.2.1 d.1.2.2.2.1 d.1.2.2.2.2.1) N (d.1.1, d.2.1)
theorem e38 (N : Nat) (a0 : (Int × (List (List Int) × Unit))) (a1 : List (Int × (List Int × Unit))) (a2 : Int) : bodyK (x38 N) [(.sl true (.pair (.int .i64) (.pair (.sl false (.int .i64)) .unit))), (.int .i64)] [.tmp 6, .tmp 7] b38 (entry (.pr (.val (.pair (.int .i64) (.pair (.sl false (.sl false (.int .i64))) .unit))) (.pr (.val (.sl false (.pair (.int .i64) (.pair (.sl false (.int .i64)) .unit)))) (.pr (.val (.int .i64)) .un))) (a0, (a1, (a2, ())))) = f38 N a0 a1 a2 := by kernel_rfl
theorem k38 (N : Nat) : CalleeOK Go.Proofs.Try.prog 38 (c38 N) :=
  fn_ok (fn := Go.Proofs.Try.f38) (body := b38) (c := x38 N) Go.Proofs.Try.func38 (by kernel_rfl) (by kernel_rfl) ⟨ttL_ok, mtL_ok, eqL_ok, env_cons (forall_mem1 (k19 N)) (env_cons (forall_mem1 (k36 N)) (env_nil))⟩ mixed (by kernel_rfl) (Nat.le_of_ble_eq_true (by kernel_rfl)) (by kernel_rfl) (by decide)
    (loops_ok (by kernel_rfl : loopsOf b38 = [loopAt 8 (loopsOf b38), loopAt 13 (loopsOf b38)]) (.cons (l38_8 N) (.cons (l38_13 N) .nil))) fun d => e38 N d.1 d.2.1 d.2.2.1
/-! ### 11: keyhole/keyholelaw42.StrategyPrune -/
def f11_L17 {R : Type} (N : Nat) (t10 : Int) (t1_1 : List (Int × (List Int × Unit))) (t2_1 : Int) (t79 : List Int) (t71_1 : Int) (t72_1 : Int) (t80 : Int) (o0_1 : List (Int × (List Int × Unit))) (o1_1 : (Int × (List (List Int) × Unit))) (kb : Int → Option R) (kret : Bool → Option R) (kx2 : Unit → Option R) : Int → Option R :=
  fun t81 =>
    cond (decide (t81 < t80))
      ((idx t79 t81).bind fun x_1 =>
      cond (decide (t10 = t2_1))
        (chk (inb o0_1 t10) <|
        (idx o0_1 t10).bind fun x_2 =>
        (idx o0_1 t10).bind fun x_3 =>
        (idx t1_1 t10).bind fun x_4 =>
        (cond (!(decide (x_3.1 = x_4.1)))
            (some true)
            (chk (inb o0_1 t10) <|
            (idx o0_1 t10).bind fun x_5 =>
            (idx o0_1 t10).bind fun x_6 =>
            (idx t1_1 t10).bind fun x_7 =>
            some (!(decide ((len x_6.2.1) = (len x_7.2.1)))))).bind fun b_4 =>
        (cond b_4
            (some true)
            (chk (inb o0_1 t10) <|
            (idx o0_1 t10).bind fun x_8 =>
            (idx o0_1 t10).bind fun x_9 =>
            (idx x_9.2.1 t81).bind fun x_10 =>
            some (!(decide (x_10 = (-1)))))).bind fun b_5 =>
        cond b_5
          (kret false)
          (kb (wi64 (t81 + 1))))
        (chk (inb o0_1 t10) <|
        (idx o0_1 t10).bind fun x_11 =>
        (idx o0_1 t10).bind fun x_12 =>
        (idx t1_1 t10).bind fun x_13 =>
        (cond (!(decide (x_12.1 = x_13.1)))
            (some true)
            (chk (inb o0_1 t10) <|
            (idx o0_1 t10).bind fun x_14 =>
            (idx o0_1 t10).bind fun x_15 =>
            (idx t1_1 t10).bind fun x_16 =>
            some (!(decide ((len x_15.2.1) = (len x_16.2.1)))))).bind fun b_6 =>
        (cond b_6
            (some true)
            (chk (inb o0_1 t10) <|
            (idx o0_1 t10).bind fun x_17 =>
            (idx o0_1 t10).bind fun x_18 =>
            (idx x_18.2.1 t81).bind fun x_19 =>
            some (!(decide (x_19 = x_1))))).bind fun b_7 =>
        cond b_7
          (kret false)
          (kb (wi64 (t81 + 1)))))
      (kx2 ())
def f11_L14 {R : Type} (N : Nat) (t1 : List (Int × (List Int × Unit))) (t2 : Int) (t71 : Int) (o0 : List (Int × (List Int × Unit))) (o1 : (Int × (List (List Int) × Unit))) (kb : Int → Option R) (kret : Bool → Option R) (kx0 : Unit → Option R) : Int → Option R :=
  fun t72 =>
    cond (decide (t72 < t71))
      ((idx t1 t72).bind fun x =>
      iter (fun w => f11_L17 N t72 t1 t2 x.2.1 t71 t72 (len x.2.1) o0 o1 w
        (fun t6 =>
          kret t6)
        (fun (_ : Unit) =>
          kb (wi64 (t72 + 1)))) N 0)
      (kx0 ())
def f11_L31 {R : Type} (N : Nat) (o1_2 : (Int × (List (List Int) × Unit))) (o2 : List Int) (o3 : List Int) (kb : Int × List (List Int) → Option R) (kx4 : (List (List Int)) → Option R) : Int × List (List Int) → Option R :=
  fun (t18, o0_2) =>
    cond (decide (t18 < o1_2.1))
      (chk (((decide (0 ≤ o1_2.1)) && (decide (o1_2.1 ≤ o1_2.1))) && (decide (o1_2.1 ≤ ((room : Nat) : Int)))) <|
      chk (inb (List.replicate (Int.toNat o1_2.1) 0 : List Int) t18) <|
      (idx (List.replicate (Int.toNat o1_2.1) 0 : List Int) t18).bind fun x_20 =>
      (idx (List.replicate (Int.toNat o1_2.1) 0 : List Int) t18).bind fun x_21 =>
      chk (decide ((o0_2.length.succ) ≤ room)) <|
      kb ((wi64 (t18 + 1)), (o0_2 ++ ((setI (List.replicate (Int.toNat o1_2.1) 0 : List Int) t18 (wi64 (t18 + 1))) :: ([] : List (List Int))))))
      (kx4 o0_2)
def f11 (N : Nat) (a0 : (Int × (List (List Int) × Unit))) (a1 : List (Int × (List Int × Unit))) (a2 : Int) : Option (Bool) :=
  (f12 N).bind fun r =>
  cond (!r)
    (some false)
    ((f13 N a0 a1 20 30).bind fun r_1 =>
    cond (!r_1)
      (some true)
      ((f14 N a0 a1).bind fun r_2 =>
      (cond (decide (r_2 = 0))
          ((cond (decide (a2 < 0))
              (some true)
              (some (decide ((len a1) ≤ a2)))).bind fun b =>
          some b)
          (some false)).bind fun b_1 =>
      cond b_1
        ((f38 N a0 a1 a2).bind fun r_3 =>
        (cond (!(decide (r_3.2 = 3)))
            (some true)
            (some true)).bind fun b_2 =>
        cond b_2
          ((cond (decide (r_3.2 = 3))
              (some (decide ((len r_3.1) = 0)))
              (some false)).bind fun b_3 =>
          some b_3)
          (cond (!(decide ((len r_3.1) = (len a1))))
            (some false)
            (iter (fun w => f11_L14 N a1 a2 (len a1) r_3.1 a0 w
              (fun t6_1 =>
                some t6_1)
              (fun (_ : Unit) =>
                (f15 N a0 a1).bind fun r_4 =>
                (f15 N a0 r_3.1).bind fun r_5 =>
                (cond (!(decide (r_4.2 = 0)))
                    (some true)
                    (some (!(decide (r_5.2 = 0))))).bind fun b_8 =>
                (cond b_8
                    (some true)
                    (some (!(decide ((len r_4.1) = a0.1))))).bind fun b_9 =>
                (cond b_9
                    (some true)
                    (some (!(decide ((len r_5.1) = a0.1))))).bind fun b_10 =>
                (cond b_10
                    (some true)
                    ((f24 N r_4.1 r_5.1).bind fun r_6 =>
                    some (!r_6))).bind fun b_11 =>
                cond b_11
                  (some false)
                  (iter (fun w => f11_L31 N a0 r_5.1 r_4.1 w
                    (fun o1_3 =>
                      (f28 N a0 o1_3 r_4.1).bind fun r_7 =>
                      (f28 N a0 o1_3 r_5.1).bind fun r_8 =>
                      (cond (decide (r_7.2 = 0))
                          (some (decide (r_8.2 = 0)))
                          (some false)).bind fun b_12 =>
                      (cond b_12
                          (some (decide (r_8.1 ≤ r_7.1)))
                          (some false)).bind fun b_13 =>
                      some b_13)) N (0, ([] : List (List Int)))))) N 0)))
        ((f38 N a0 a1 a2).bind fun r_9 =>
        (cond (!(decide (r_9.2 = r_2)))
            (some true)
            (some (!(decide (r_2 = 0))))).bind fun b_14 =>
        cond b_14
          ((cond (decide (r_9.2 = r_2))
              (some (decide ((len r_9.1) = 0)))
              (some false)).bind fun b_15 =>
          some b_15)
          (cond (!(decide ((len r_9.1) = (len a1))))
            (some false)
            (iter (fun w => f11_L14 N a1 a2 (len a1) r_9.1 a0 w
              (fun t6_2 =>
                some t6_2)
              (fun (_ : Unit) =>
                (f15 N a0 a1).bind fun r_10 =>
                (f15 N a0 r_9.1).bind fun r_11 =>
                (cond (!(decide (r_10.2 = 0)))
                    (some true)
                    (some (!(decide (r_11.2 = 0))))).bind fun b_16 =>
                (cond b_16
                    (some true)
                    (some (!(decide ((len r_10.1) = a0.1))))).bind fun b_17 =>
                (cond b_17
                    (some true)
                    (some (!(decide ((len r_11.1) = a0.1))))).bind fun b_18 =>
                (cond b_18
                    (some true)
                    ((f24 N r_10.1 r_11.1).bind fun r_12 =>
                    some (!r_12))).bind fun b_19 =>
                cond b_19
                  (some false)
                  (iter (fun w => f11_L31 N a0 r_11.1 r_10.1 w
                    (fun o1_4 =>
                      (f28 N a0 o1_4 r_10.1).bind fun r_13 =>
                      (f28 N a0 o1_4 r_11.1).bind fun r_14 =>
                      (cond (decide (r_13.2 = 0))
                          (some (decide (r_14.2 = 0)))
                          (some false)).bind fun b_20 =>
                      (cond b_20
                          (some (decide (r_14.1 ≤ r_13.1)))
                          (some false)).bind fun b_21 =>
                      some b_21)) N (0, ([] : List (List Int)))))) N 0)))))
def c11 (N : Nat) : Callee := .pure (.pr (.val (.pair (.int .i64) (.pair (.sl false (.sl false (.int .i64))) .unit))) (.pr (.val (.sl false (.pair (.int .i64) (.pair (.sl false (.int .i64)) .unit)))) (.pr (.val (.int .i64)) .un))) [.bool] fun d => f11 N d.1 d.2.1 d.2.2.1
def F11_17 : SForm := ⟨[(81, (.val (.int .i64))), (10, (.val (.int .i64))), (8, (.ref 0)), (1, (.val (.sl false (.pair (.int .i64) (.pair (.sl false (.int .i64)) .unit))))), (2, (.val (.int .i64))), (79, (.val (.sl false (.int .i64)))), (3, (.bptr 1 [])), (71, (.val (.int .i64))), (72, (.val (.int .i64))), (80, (.val (.int .i64)))], [.row (.pair (.int .i64) (.pair (.sl false (.int .i64)) .unit)), .cell (.val (.pair (.int .i64) (.pair (.sl false (.sl false (.int .i64))) .unit)))]⟩
def G11_17 (N : Nat) : (R : Type) → F11_17.den → (AExit → St → Option R) → Option R := fun R d k => iter (fun kb => f11_L17 N d.1.2.1 d.1.2.2.2.1 d.1.2.2.2.2.1 d.1.2.2.2.2.2.1 d.1.2.2.2.2.2.2.2.1 d.1.2.2.2.2.2.2.2.2.1 d.1.2.2.2.2.2.2.2.2.2.1 d.2.1 d.2.2.1 kb
    (fun y0 => k .ret (St.of [(6, (.data .bool y0))] []))
    (fun _ => k (.exit 2) (St.of [(8, (.ref 0 [] 0)), (1, (.data (.sl false (.pair (.int .i64) (.pair (.sl false (.int .i64)) .unit))) d.1.2.2.2.1)), (2, (.data (.int .i64) d.1.2.2.2.2.1)), (3, (.bptr 1 [])), (71, (.data (.int .i64) d.1.2.2.2.2.2.2.2.1)), (72, (.data (.int .i64) d.1.2.2.2.2.2.2.2.2.1))] [.row (.pair (.int .i64) (.pair (.sl false (.int .i64)) .unit)) d.2.1 0, .cell (.data (.pair (.int .i64) (.pair (.sl false (.sl false (.int .i64))) .unit)) d.2.2.1)]))) N d.1.1
def F11_14 : SForm := ⟨[(8, (.ref 0)), (1, (.val (.sl false (.pair (.int .i64) (.pair (.sl false (.int .i64)) .unit))))), (2, (.val (.int .i64))), (72, (.val (.int .i64))), (3, (.bptr 1 [])), (71, (.val (.int .i64)))], [.row (.pair (.int .i64) (.pair (.sl false (.int .i64)) .unit)), .cell (.val (.pair (.int .i64) (.pair (.sl false (.sl false (.int .i64))) .unit)))]⟩
def G11_14 (N : Nat) : (R : Type) → F11_14.den → (AExit → St → Option R) → Option R := fun R d k => iter (fun kb => f11_L14 N d.1.2.1 d.1.2.2.1 d.1.2.2.2.2.2.1 d.2.1 d.2.2.1 kb
    (fun y0 => k .ret (St.of [(6, (.data .bool y0))] []))
    (fun _ => k (.exit 0) (St.of [(3, (.bptr 0 [])), (8, (.ref 1 [] 0)), (1, (.data (.sl false (.pair (.int .i64) (.pair (.sl false (.int .i64)) .unit))) d.1.2.1))] [.cell (.data (.pair (.int .i64) (.pair (.sl false (.sl false (.int .i64))) .unit)) d.2.2.1), .row (.pair (.int .i64) (.pair (.sl false (.int .i64)) .unit)) d.2.1 0]))) N d.1.2.2.2.1
def F11_31 : SForm := ⟨[(18, (.val (.int .i64))), (17, (.ref 0)), (3, (.bptr 1 [])), (15, (.ref 2)), (13, (.ref 3))], [.row (.sl false (.int .i64)), .cell (.val (.pair (.int .i64) (.pair (.sl false (.sl false (.int .i64))) .unit))), .row (.int .i64), .row (.int .i64)]⟩
def G11_31 (N : Nat) : (R : Type) → F11_31.den → (AExit → St → Option R) → Option R := fun R d k => iter (fun kb => f11_L31 N d.2.2.1 d.2.2.2.1 d.2.2.2.2.1 kb
    (fun y1 => k (.exit 4) (St.of [(15, (.ref 0 [] 0)), (17, (.ref 1 [] 0)), (3, (.bptr 2 [])), (13, (.ref 3 [] 0))] [.row (.int .i64) d.2.2.2.1 0, .row (.sl false (.int .i64)) y1 0, .cell (.data (.pair (.int .i64) (.pair (.sl false (.sl false (.int .i64))) .unit)) d.2.2.1), .row (.int .i64) d.2.2.2.2.1 0]))) N (d.1.1, d.2.1)
def lp11 (N : Nat) : Nat → Option LoopFn := fun r => cond (Nat.beq r 17) (some fun R sl os k => F11_17.take sl os fun d => G11_17 N R d k) (cond (Nat.beq r 14) (some fun R sl os k => F11_14.take sl os fun d => G11_14 N R d k) (cond (Nat.beq r 31) (some fun R sl os k => F11_31.take sl os fun d => G11_31 N R d k) (none)))
def x11 (N : Nat) : Ctx := { fuel := N, tt := getL ttL, mt := getL mtL, ntmps := 211, env := fun f => (getL [(12, [c12 N]), (13, [c13 N]), (14, [c14 N]), (38, [c38 N]), (15, [c15 N]), (24, [c24 N]), (28, [c28 N])] f).getD [], cut := getL [(14, ⟨[8, 1, 2, 72, 3, 71], []⟩), (17, ⟨[81, 10, 8, 1, 2, 79, 3, 71, 72, 80], []⟩), (31, ⟨[18, 17, 3, 15, 13], []⟩)], exits := fun r => getL ((getL [(14, [(0, ⟨[3, 8, 1], []⟩)]), (17, [(2, ⟨[8, 1, 2, 3, 71, 72], []⟩)]), (31, [(4, ⟨[15, 17, 3, 13], []⟩)])] r).getD []), res := ⟨[6], []⟩, own := fun _ => none, lp := lp11 N, eqs := fun T => memN T eqL }
noncomputable def b11 : Code := ((Go.Proofs.Try.f11).body).getD .skip
theorem s11_17 (N : Nat) {R : Type} (k : AExit → St → Option R) (t10 : Int) (t1_1 : List (Int × (List Int × Unit))) (t2_1 : Int) (t79 : List Int) (t71_1 : Int) (t72_1 : Int) (t80 : Int) (o0_1 : List (Int × (List Int × Unit))) (o1_1 : (Int × (List (List Int) × Unit))) (kb : List (Nat × AVal) → List Obj → Option R) (x : Int) : codeK (x11 N) (loopAt 17 (loopsOf b11)) (St.of [(81, (.data (.int .i64) x)), (10, (.data (.int .i64) t10)), (8, (.ref 0 [] 0)), (1, (.data (.sl false (.pair (.int .i64) (.pair (.sl false (.int .i64)) .unit))) t1_1)), (2, (.data (.int .i64) t2_1)), (79, (.data (.sl false (.int .i64)) t79)), (3, (.bptr 1 [])), (71, (.data (.int .i64) t71_1)), (72, (.data (.int .i64) t72_1)), (80, (.data (.int .i64) t80))] [.row (.pair (.int .i64) (.pair (.sl false (.int .i64)) .unit)) o0_1 0, .cell (.data (.pair (.int .i64) (.pair (.sl false (.sl false (.int .i64))) .unit)) o1_1)]) (kLoop (x11 N) 17 ⟨[81, 10, 8, 1, 2, 79, 3, 71, 72, 80], []⟩ kb k) = f11_L17 N t10 t1_1 t2_1 t79 t71_1 t72_1 t80 o0_1 o1_1 (fun y => kb [(81, (.data (.int .i64) y)), (10, (.data (.int .i64) t10)), (8, (.ref 0 [] 0)), (1, (.data (.sl false (.pair (.int .i64) (.pair (.sl false (.int .i64)) .unit))) t1_1)), (2, (.data (.int .i64) t2_1)), (79, (.data (.sl false (.int .i64)) t79)), (3, (.bptr 1 [])), (71, (.data (.int .i64) t71_1)), (72, (.data (.int .i64) t72_1)), (80, (.data (.int .i64) t80))] [.row (.pair (.int .i64) (.pair (.sl false (.int .i64)) .unit)) o0_1 0, .cell (.data (.pair (.int .i64) (.pair (.sl false (.sl false (.int .i64))) .unit)) o1_1)])
    (fun y0 => k .ret (St.of [(6, (.data .bool y0))] []))
    (fun _ => k (.exit 2) (St.of [(8, (.ref 0 [] 0)), (1, (.data (.sl false (.pair (.int .i64) (.pair (.sl false (.int .i64)) .unit))) t1_1)), (2, (.data (.int .i64) t2_1)), (3, (.bptr 1 [])), (71, (.data (.int .i64) t71_1)), (72, (.data (.int .i64) t72_1))] [.row (.pair (.int .i64) (.pair (.sl false (.int .i64)) .unit)) o0_1 0, .cell (.data (.pair (.int .i64) (.pair (.sl false (.sl false (.int .i64))) .unit)) o1_1)])) x := by kernel_rfl
theorem l11_17 (N : Nat) : LoopOK (x11 N) (loopAt 17 (loopsOf b11)) :=
  loop_mk (G11_17 N) (by kernel_rfl) (by kernel_rfl) (by kernel_rfl) fun R k d =>
    loop_eq (st := fun (x : Int) => ([(81, (.data (.int .i64) x)), (10, (.data (.int .i64) d.1.2.1)), (8, (.ref 0 [] 0)), (1, (.data (.sl false (.pair (.int .i64) (.pair (.sl false (.int .i64)) .unit))) d.1.2.2.2.1)), (2, (.data (.int .i64) d.1.2.2.2.2.1)), (79, (.data (.sl false (.int .i64)) d.1.2.2.2.2.2.1)), (3, (.bptr 1 [])), (71, (.data (.int .i64) d.1.2.2.2.2.2.2.2.1)), (72, (.data (.int .i64) d.1.2.2.2.2.2.2.2.2.1)), (80, (.data (.int .i64) d.1.2.2.2.2.2.2.2.2.2.1))], [.row (.pair (.int .i64) (.pair (.sl false (.int .i64)) .unit)) d.2.1 0, .cell (.data (.pair (.int .i64) (.pair (.sl false (.sl false (.int .i64))) .unit)) d.2.2.1)])) (s11_17 N k d.1.2.1 d.1.2.2.2.1 d.1.2.2.2.2.1 d.1.2.2.2.2.2.1 d.1.2.2.2.2.2.2.2.1 d.1.2.2.2.2.2.2.2.2.1 d.1.2.2.2.2.2.2.2.2.2.1 d.2.1 d.2.2.1) N d.1.1
theorem s11_14 (N : Nat) {R : Type} (k : AExit → St → Option R) (t1 : List (Int × (List Int × Unit))) (t2 : Int) (t71 : Int) (o0 : List (Int × (List Int × Unit))) (o1 : (Int × (List (List Int) × Unit))) (kb : List (Nat × AVal) → List Obj → Option R) (x : Int) : codeK (x11 N) (loopAt 14 (loopsOf b11)) (St.of [(8, (.ref 0 [] 0)), (1, (.data (.sl false (.pair (.int .i64) (.pair (.sl false (.int .i64)) .unit))) t1)), (2, (.data (.int .i64) t2)), (72, (.data (.int .i64) x)), (3, (.bptr 1 [])), (71, (.data (.int .i64) t71))] [.row (.pair (.int .i64) (.pair (.sl false (.int .i64)) .unit)) o0 0, .cell (.data (.pair (.int .i64) (.pair (.sl false (.sl false (.int .i64))) .unit)) o1)]) (kLoop (x11 N) 14 ⟨[8, 1, 2, 72, 3, 71], []⟩ kb k) = f11_L14 N t1 t2 t71 o0 o1 (fun y => kb [(8, (.ref 0 [] 0)), (1, (.data (.sl false (.pair (.int .i64) (.pair (.sl false (.int .i64)) .unit))) t1)), (2, (.data (.int .i64) t2)), (72, (.data (.int .i64) y)), (3, (.bptr 1 [])), (71, (.data (.int .i64) t71))] [.row (.pair (.int .i64) (.pair (.sl false (.int .i64)) .unit)) o0 0, .cell (.data (.pair (.int .i64) (.pair (.sl false (.sl false (.int .i64))) .unit)) o1)])
    (fun y0 => k .ret (St.of [(6, (.data .bool y0))] []))
    (fun _ => k (.exit 0) (St.of [(3, (.bptr 0 [])), (8, (.ref 1 [] 0)), (1, (.data (.sl false (.pair (.int .i64) (.pair (.sl false (.int .i64)) .unit))) t1))] [.cell (.data (.pair (.int .i64) (.pair (.sl false (.sl false (.int .i64))) .unit)) o1), .row (.pair (.int .i64) (.pair (.sl false (.int .i64)) .unit)) o0 0])) x := by kernel_rfl
theorem l11_14 (N : Nat) : LoopOK (x11 N) (loopAt 14 (loopsOf b11)) :=
  loop_mk (G11_14 N) (by kernel_rfl) (by kernel_rfl) (by kernel_rfl) fun R k d =>
    loop_eq (st := fun (x : Int) => ([(8, (.ref 0 [] 0)), (1, (.data (.sl false (.pair (.int .i64) (.pair (.sl false (.int .i64)) .unit))) d.1.2.1)), (2, (.data (.int .i64) d.1.2.2.1)), (72, (.data (.int .i64) x)), (3, (.bptr 1 [])), (71, (.data (.int .i64) d.1.2.2.2.2.2.1))], [.row (.pair (.int .i64) (.pair (.sl false (.int .i64)) .unit)) d.2.1 0, .cell (.data (.pair (.int .i64) (.pair (.sl false (.sl false (.int .i64))) .unit)) d.2.2.1)])) (s11_14 N k d.1.2.1 d.1.2.2.1 d.1.2.2.2.2.2.1 d.2.1 d.2.2.1) N d.1.2.2.2.1
theorem s11_31 (N : Nat) {R : Type} (k : AExit → St → Option R) (o1_2 : (Int × (List (List Int) × Unit))) (o2 : List Int) (o3 : List Int) (kb : List (Nat × AVal) → List Obj → Option R) (x : Int × List (List Int)) : codeK (x11 N) (loopAt 31 (loopsOf b11)) (St.of [(18, (.data (.int .i64) x.1)), (17, (.ref 0 [] 0)), (3, (.bptr 1 [])), (15, (.ref 2 [] 0)), (13, (.ref 3 [] 0))] [.row (.sl false (.int .i64)) x.2 0, .cell (.data (.pair (.int .i64) (.pair (.sl false (.sl false (.int .i64))) .unit)) o1_2), .row (.int .i64) o2 0, .row (.int .i64) o3 0]) (kLoop (x11 N) 31 ⟨[18, 17, 3, 15, 13], []⟩ kb k) = f11_L31 N o1_2 o2 o3 (fun y => kb [(18, (.data (.int .i64) y.1)), (17, (.ref 0 [] 0)), (3, (.bptr 1 [])), (15, (.ref 2 [] 0)), (13, (.ref 3 [] 0))] [.row (.sl false (.int .i64)) y.2 0, .cell (.data (.pair (.int .i64) (.pair (.sl false (.sl false (.int .i64))) .unit)) o1_2), .row (.int .i64) o2 0, .row (.int .i64) o3 0])
    (fun y1 => k (.exit 4) (St.of [(15, (.ref 0 [] 0)), (17, (.ref 1 [] 0)), (3, (.bptr 2 [])), (13, (.ref 3 [] 0))] [.row (.int .i64) o2 0, .row (.sl false (.int .i64)) y1 0, .cell (.data (.pair (.int .i64) (.pair (.sl false (.sl false (.int .i64))) .unit)) o1_2), .row (.int .i64) o3 0])) x := by kernel_rfl
theorem l11_31 (N : Nat) : LoopOK (x11 N) (loopAt 31 (loopsOf b11)) :=
  loop_mk (G11_31 N) (by kernel_rfl) (by kernel_rfl) (by kernel_rfl) fun R k d =>
    loop_eq (st := fun (x : Int × List (List Int)) => ([(18, (.data (.int .i64) x.1)), (17, (.ref 0 [] 0)), (3, (.bptr 1 [])), (15, (.ref 2 [] 0)), (13, (.ref 3 [] 0))], [.row (.sl false (.int .i64)) x.2 0, .cell (.data (.pair (.int .i64) (.pair (.sl false (.sl false (.int .i64))) .unit)) d.2.2.1), .row (.int .i64) d.2.2.2.1 0, .row (.int .i64) d.2.2.2.2.1 0])) (s11_31 N k d.2.2.1 d.2.2.2.1 d.2.2.2.2.1) N (d.1.1, d.2.1)
theorem e11 (N : Nat) (a0 : (Int × (List (List Int) × Unit))) (a1 : List (Int × (List Int × Unit))) (a2 : Int) : bodyK (x11 N) [.bool] [.tmp 6] b11 (entry (.pr (.val (.pair (.int .i64) (.pair (.sl false (.sl false (.int .i64))) .unit))) (.pr (.val (.sl false (.pair (.int .i64) (.pair (.sl false (.int .i64)) .unit)))) (.pr (.val (.int .i64)) .un))) (a0, (a1, (a2, ())))) = f11 N a0 a1 a2 := by kernel_rfl
theorem k11 (N : Nat) : CalleeOK Go.Proofs.Try.prog 11 (c11 N) :=
  fn_ok (fn := Go.Proofs.Try.f11) (body := b11) (c := x11 N) Go.Proofs.Try.func11 (by kernel_rfl) (by kernel_rfl) ⟨ttL_ok, mtL_ok, eqL_ok, env_cons (forall_mem1 (k12 N)) (env_cons (forall_mem1 (k13 N)) (env_cons (forall_mem1 (k14 N)) (env_cons (forall_mem1 (k38 N)) (env_cons (forall_mem1 (k15 N)) (env_cons (forall_mem1 (k24 N)) (env_cons (forall_mem1 (k28 N)) (env_nil)))))))⟩ mixed (by kernel_rfl) (Nat.le_of_ble_eq_true (by kernel_rfl)) (by kernel_rfl) (by decide)
    (loops_ok (by kernel_rfl : loopsOf b11 = [loopAt 14 (loopsOf b11), loopAt 17 (loopsOf b11), loopAt 31 (loopsOf b11)]) (.cons (l11_14 N) (.cons (l11_17 N) (.cons (l11_31 N) .nil)))) fun d => e11 N d.1 d.2.1 d.2.2.1

end Go.Kz
