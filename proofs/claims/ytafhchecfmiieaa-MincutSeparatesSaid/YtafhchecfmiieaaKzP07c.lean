/-
  The functions of the program as plain functions on lists and numbers, and the proofs that the program computes them. Printed by a program.
-/
import Derived.Test.YtafhchecfmiieaaKzP07b
set_option linter.unusedSimpArgs false
set_option maxRecDepth 100000
set_option linter.unusedVariables false
namespace Go.Kz
open Go.Proofs
noncomputable section

def f33_L3 {R : Type} (N : Nat) (t1 : List Int) (t3 : List Int) (t2 : List Int) (o1 : (Int × (List (List Int) × Unit))) (kb : Int × List Int → Option R) (kx0 : (List Int) → Option R) : Int × List Int → Option R :=
  fun (t10, o0) =>
    cond (decide (t10 < (len t1)))
      ((idx t1 t10).bind fun x =>
      (f40 N t3 x).bind fun r =>
      (cond (!r)
          ((idx t1 t10).bind fun x_1 =>
          (f40 N o0 x_1).bind fun r_1 =>
          some (!r_1))
          (some false)).bind fun b =>
      cond b
        ((idx t1 t10).bind fun x_2 =>
        chk (decide ((Nat.succ (List.length o0)) ≤ room)) <|
        kb ((wi64 (t10 + 1)), (o0 ++ (x_2 :: ([] : List Int)))))
        (kb ((wi64 (t10 + 1)), o0)))
      (kx0 o0)
def f33_L13 {R : Type} (N : Nat) (t3_2 : List Int) (t11_1 : Int) (t2_2 : List Int) (o1_2 : (Int × (List (List Int) × Unit))) (kb : Int × List Int → Option R) (kx4 : (List Int) → Option R) : Int × List Int → Option R :=
  fun (t12, o0_3) =>
    cond (decide (t12 < (len o1_2.2.1)))
      ((idx o1_2.2.1 t12).bind fun x_4 =>
      (idx x_4 1).bind fun x_5 =>
      (idx o1_2.2.1 t12).bind fun x_6 =>
      (idx x_6 0).bind fun x_7 =>
      chk (inb o0_3 t11_1) <|
      (idx o0_3 t11_1).bind fun x_8 =>
      (cond (decide (x_7 = x_8))
          ((f40 N t3_2 x_5).bind fun r_3 =>
          some (!r_3))
          (some false)).bind fun b_1 =>
      (cond b_1
          ((f40 N o0_3 x_5).bind fun r_4 =>
          some (!r_4))
          (some false)).bind fun b_2 =>
      cond b_2
        (chk (decide ((Nat.succ (List.length o0_3)) ≤ room)) <|
        kb ((wi64 (t12 + 1)), (o0_3 ++ (x_5 :: ([] : List Int)))))
        (kb ((wi64 (t12 + 1)), o0_3)))
      (kx4 o0_3)
def f33_L8 {R : Type} (N : Nat) (t3_1 : List Int) (t2_1 : List Int) (o1_1 : (Int × (List (List Int) × Unit))) (kb : Int × List Int → Option R) (kret : Bool → Option R) (kx2 : Unit → Option R) : Int × List Int → Option R :=
  fun (t11, o0_2) =>
    cond (decide (t11 < (len o0_2)))
      (chk (inb o0_2 t11) <|
      (idx o0_2 t11).bind fun x_3 =>
      (f40 N t2_1 x_3).bind fun r_2 =>
      cond r_2
        (kret true)
        (iter (fun w => f33_L13 N t3_1 t11 t2_1 o1_1 w
          (fun o0_4 =>
            kb ((wi64 (t11 + 1)), o0_4))) N (0, o0_2)))
      (kx2 ())
def f33 (N : Nat) (a0 : (Int × (List (List Int) × Unit))) (a1 : List Int) (a2 : List Int) (a3 : List Int) : Option (Bool) :=
  iter (fun w => f33_L3 N a1 a3 a2 a0 w
    (fun o0_1 =>
      iter (fun w => f33_L8 N a3 a2 a0 w
        (fun t8 =>
          some t8)
        (fun (_ : Unit) =>
          some false)) N (0, o0_1))) N (0, ([] : List Int))
def c33 (N : Nat) : Callee := .pure (.pr (.val (.pair (.int .i64) (.pair (.sl false (.arr 2 (.int .i64))) .unit))) (.pr (.val (.sl false (.int .i64))) (.pr (.val (.sl false (.int .i64))) (.pr (.val (.sl false (.int .i64))) .un)))) [.bool] fun d => f33 N d.1 d.2.1 d.2.2.1 d.2.2.2.1
def F33_3 : SForm := ⟨[(10, (.val (.int .i64))), (1, (.val (.sl false (.int .i64)))), (9, (.ref 0)), (3, (.val (.sl false (.int .i64)))), (4, (.bptr 1 [])), (2, (.val (.sl false (.int .i64))))], [.row (.int .i64), .cell (.val (.pair (.int .i64) (.pair (.sl false (.arr 2 (.int .i64))) .unit)))]⟩
def G33_3 (N : Nat) : (R : Type) → F33_3.den → (AExit → St → Option R) → Option R := fun R d k => iter (fun kb => f33_L3 N d.1.2.1 d.1.2.2.2.1 d.1.2.2.2.2.2.1 d.2.2.1 kb
    (fun y2 => k (.exit 0) (St.of [(9, (.ref 0 [] 0)), (3, (.data (.sl false (.int .i64)) d.1.2.2.2.1)), (4, (.bptr 1 [])), (2, (.data (.sl false (.int .i64)) d.1.2.2.2.2.2.1))] [.row (.int .i64) y2 0, .cell (.data (.pair (.int .i64) (.pair (.sl false (.arr 2 (.int .i64))) .unit)) d.2.2.1)]))) N (d.1.1, d.2.1)
def F33_13 : SForm := ⟨[(12, (.val (.int .i64))), (9, (.ref 0)), (3, (.val (.sl false (.int .i64)))), (11, (.val (.int .i64))), (4, (.bptr 1 [])), (2, (.val (.sl false (.int .i64))))], [.row (.int .i64), .cell (.val (.pair (.int .i64) (.pair (.sl false (.arr 2 (.int .i64))) .unit)))]⟩
def G33_13 (N : Nat) : (R : Type) → F33_13.den → (AExit → St → Option R) → Option R := fun R d k => iter (fun kb => f33_L13 N d.1.2.2.1 d.1.2.2.2.1 d.1.2.2.2.2.2.1 d.2.2.1 kb
    (fun y3 => k (.exit 4) (St.of [(9, (.ref 0 [] 0)), (3, (.data (.sl false (.int .i64)) d.1.2.2.1)), (4, (.bptr 1 [])), (2, (.data (.sl false (.int .i64)) d.1.2.2.2.2.2.1)), (11, (.data (.int .i64) d.1.2.2.2.1))] [.row (.int .i64) y3 0, .cell (.data (.pair (.int .i64) (.pair (.sl false (.arr 2 (.int .i64))) .unit)) d.2.2.1)]))) N (d.1.1, d.2.1)
def F33_8 : SForm := ⟨[(9, (.ref 0)), (3, (.val (.sl false (.int .i64)))), (11, (.val (.int .i64))), (4, (.bptr 1 [])), (2, (.val (.sl false (.int .i64))))], [.row (.int .i64), .cell (.val (.pair (.int .i64) (.pair (.sl false (.arr 2 (.int .i64))) .unit)))]⟩
def G33_8 (N : Nat) : (R : Type) → F33_8.den → (AExit → St → Option R) → Option R := fun R d k => iter (fun kb => f33_L8 N d.1.2.1 d.1.2.2.2.2.1 d.2.2.1 kb
    (fun y0 => k .ret (St.of [(8, (.data .bool y0))] []))
    (fun _ => k (.exit 2) (St.of [] []))) N (d.1.2.2.1, d.2.1)
def lp33 (N : Nat) : Nat → Option LoopFn := fun r => cond (Nat.beq r 3) (some fun R sl os k => F33_3.take sl os fun d => G33_3 N R d k) (cond (Nat.beq r 13) (some fun R sl os k => F33_13.take sl os fun d => G33_13 N R d k) (cond (Nat.beq r 8) (some fun R sl os k => F33_8.take sl os fun d => G33_8 N R d k) (none)))
def x33 (N : Nat) : Ctx := { fuel := N, tt := getL ttL, mt := getL mtL, ntmps := 96, env := fun f => (getL [(40, [c40 N])] f).getD [], cut := getL [(3, ⟨[10, 1, 9, 3, 4, 2], []⟩), (8, ⟨[9, 3, 11, 4, 2], []⟩), (13, ⟨[12, 9, 3, 11, 4, 2], []⟩)], exits := fun r => getL ((getL [(3, [(0, ⟨[9, 3, 4, 2], []⟩)]), (8, [(2, ⟨[], []⟩)]), (13, [(4, ⟨[9, 3, 4, 2, 11], []⟩)])] r).getD []), res := ⟨[8], []⟩, own := fun _ => none, lp := lp33 N, eqs := fun T => memN T eqL, ct := fun T => memN T ctL, ms := getMs msL }
noncomputable def b33 : Code := ((Go.Proofs.Try.f33).body).getD .skip
theorem s33_3 (N : Nat) {R : Type} (k : AExit → St → Option R) (t1 : List Int) (t3 : List Int) (t2 : List Int) (o1 : (Int × (List (List Int) × Unit))) (kb : List (Nat × AVal) → List Obj → Option R) (x : Int × List Int) : codeK (x33 N) (loopAt 3 (loopsOf b33)) (St.of [(10, (.data (.int .i64) x.1)), (1, (.data (.sl false (.int .i64)) t1)), (9, (.ref 0 [] 0)), (3, (.data (.sl false (.int .i64)) t3)), (4, (.bptr 1 [])), (2, (.data (.sl false (.int .i64)) t2))] [.row (.int .i64) x.2 0, .cell (.data (.pair (.int .i64) (.pair (.sl false (.arr 2 (.int .i64))) .unit)) o1)]) (kLoop (x33 N) 3 ⟨[10, 1, 9, 3, 4, 2], []⟩ kb k) = f33_L3 N t1 t3 t2 o1 (fun y => kb [(10, (.data (.int .i64) y.1)), (1, (.data (.sl false (.int .i64)) t1)), (9, (.ref 0 [] 0)), (3, (.data (.sl false (.int .i64)) t3)), (4, (.bptr 1 [])), (2, (.data (.sl false (.int .i64)) t2))] [.row (.int .i64) y.2 0, .cell (.data (.pair (.int .i64) (.pair (.sl false (.arr 2 (.int .i64))) .unit)) o1)])
    (fun y2 => k (.exit 0) (St.of [(9, (.ref 0 [] 0)), (3, (.data (.sl false (.int .i64)) t3)), (4, (.bptr 1 [])), (2, (.data (.sl false (.int .i64)) t2))] [.row (.int .i64) y2 0, .cell (.data (.pair (.int .i64) (.pair (.sl false (.arr 2 (.int .i64))) .unit)) o1)])) x := by kernel_rfl
theorem l33_3 (N : Nat) : LoopOK (x33 N) (loopAt 3 (loopsOf b33)) :=
  loop_mk (G33_3 N) (by kernel_rfl) (by kernel_rfl) (by kernel_rfl) fun R k d =>
    loop_eq (st := fun (x : Int × List Int) => ([(10, (.data (.int .i64) x.1)), (1, (.data (.sl false (.int .i64)) d.1.2.1)), (9, (.ref 0 [] 0)), (3, (.data (.sl false (.int .i64)) d.1.2.2.2.1)), (4, (.bptr 1 [])), (2, (.data (.sl false (.int .i64)) d.1.2.2.2.2.2.1))], [.row (.int .i64) x.2 0, .cell (.data (.pair (.int .i64) (.pair (.sl false (.arr 2 (.int .i64))) .unit)) d.2.2.1)])) (s33_3 N k d.1.2.1 d.1.2.2.2.1 d.1.2.2.2.2.2.1 d.2.2.1) N (d.1.1, d.2.1)
theorem s33_13 (N : Nat) {R : Type} (k : AExit → St → Option R) (t3_2 : List Int) (t11_1 : Int) (t2_2 : List Int) (o1_2 : (Int × (List (List Int) × Unit))) (kb : List (Nat × AVal) → List Obj → Option R) (x : Int × List Int) : codeK (x33 N) (loopAt 13 (loopsOf b33)) (St.of [(12, (.data (.int .i64) x.1)), (9, (.ref 0 [] 0)), (3, (.data (.sl false (.int .i64)) t3_2)), (11, (.data (.int .i64) t11_1)), (4, (.bptr 1 [])), (2, (.data (.sl false (.int .i64)) t2_2))] [.row (.int .i64) x.2 0, .cell (.data (.pair (.int .i64) (.pair (.sl false (.arr 2 (.int .i64))) .unit)) o1_2)]) (kLoop (x33 N) 13 ⟨[12, 9, 3, 11, 4, 2], []⟩ kb k) = f33_L13 N t3_2 t11_1 t2_2 o1_2 (fun y => kb [(12, (.data (.int .i64) y.1)), (9, (.ref 0 [] 0)), (3, (.data (.sl false (.int .i64)) t3_2)), (11, (.data (.int .i64) t11_1)), (4, (.bptr 1 [])), (2, (.data (.sl false (.int .i64)) t2_2))] [.row (.int .i64) y.2 0, .cell (.data (.pair (.int .i64) (.pair (.sl false (.arr 2 (.int .i64))) .unit)) o1_2)])
    (fun y3 => k (.exit 4) (St.of [(9, (.ref 0 [] 0)), (3, (.data (.sl false (.int .i64)) t3_2)), (4, (.bptr 1 [])), (2, (.data (.sl false (.int .i64)) t2_2)), (11, (.data (.int .i64) t11_1))] [.row (.int .i64) y3 0, .cell (.data (.pair (.int .i64) (.pair (.sl false (.arr 2 (.int .i64))) .unit)) o1_2)])) x := by kernel_rfl
theorem l33_13 (N : Nat) : LoopOK (x33 N) (loopAt 13 (loopsOf b33)) :=
  loop_mk (G33_13 N) (by kernel_rfl) (by kernel_rfl) (by kernel_rfl) fun R k d =>
    loop_eq (st := fun (x : Int × List Int) => ([(12, (.data (.int .i64) x.1)), (9, (.ref 0 [] 0)), (3, (.data (.sl false (.int .i64)) d.1.2.2.1)), (11, (.data (.int .i64) d.1.2.2.2.1)), (4, (.bptr 1 [])), (2, (.data (.sl false (.int .i64)) d.1.2.2.2.2.2.1))], [.row (.int .i64) x.2 0, .cell (.data (.pair (.int .i64) (.pair (.sl false (.arr 2 (.int .i64))) .unit)) d.2.2.1)])) (s33_13 N k d.1.2.2.1 d.1.2.2.2.1 d.1.2.2.2.2.2.1 d.2.2.1) N (d.1.1, d.2.1)
theorem s33_8 (N : Nat) {R : Type} (k : AExit → St → Option R) (t3_1 : List Int) (t2_1 : List Int) (o1_1 : (Int × (List (List Int) × Unit))) (kb : List (Nat × AVal) → List Obj → Option R) (x : Int × List Int) : codeK (x33 N) (loopAt 8 (loopsOf b33)) (St.of [(9, (.ref 0 [] 0)), (3, (.data (.sl false (.int .i64)) t3_1)), (11, (.data (.int .i64) x.1)), (4, (.bptr 1 [])), (2, (.data (.sl false (.int .i64)) t2_1))] [.row (.int .i64) x.2 0, .cell (.data (.pair (.int .i64) (.pair (.sl false (.arr 2 (.int .i64))) .unit)) o1_1)]) (kLoop (x33 N) 8 ⟨[9, 3, 11, 4, 2], []⟩ kb k) = f33_L8 N t3_1 t2_1 o1_1 (fun y => kb [(9, (.ref 0 [] 0)), (3, (.data (.sl false (.int .i64)) t3_1)), (11, (.data (.int .i64) y.1)), (4, (.bptr 1 [])), (2, (.data (.sl false (.int .i64)) t2_1))] [.row (.int .i64) y.2 0, .cell (.data (.pair (.int .i64) (.pair (.sl false (.arr 2 (.int .i64))) .unit)) o1_1)])
    (fun y0 => k .ret (St.of [(8, (.data .bool y0))] []))
    (fun _ => k (.exit 2) (St.of [] [])) x := by kernel_rfl
theorem l33_8 (N : Nat) : LoopOK (x33 N) (loopAt 8 (loopsOf b33)) :=
  loop_mk (G33_8 N) (by kernel_rfl) (by kernel_rfl) (by kernel_rfl) fun R k d =>
    loop_eq (st := fun (x : Int × List Int) => ([(9, (.ref 0 [] 0)), (3, (.data (.sl false (.int .i64)) d.1.2.1)), (11, (.data (.int .i64) x.1)), (4, (.bptr 1 [])), (2, (.data (.sl false (.int .i64)) d.1.2.2.2.2.1))], [.row (.int .i64) x.2 0, .cell (.data (.pair (.int .i64) (.pair (.sl false (.arr 2 (.int .i64))) .unit)) d.2.2.1)])) (s33_8 N k d.1.2.1 d.1.2.2.2.2.1 d.2.2.1) N (d.1.2.2.1, d.2.1)
theorem e33 (N : Nat) (a0 : (Int × (List (List Int) × Unit))) (a1 : List Int) (a2 : List Int) (a3 : List Int) : bodyK (x33 N) [.bool] [.tmp 8] b33 (entry (.pr (.val (.pair (.int .i64) (.pair (.sl false (.arr 2 (.int .i64))) .unit))) (.pr (.val (.sl false (.int .i64))) (.pr (.val (.sl false (.int .i64))) (.pr (.val (.sl false (.int .i64))) .un)))) (a0, (a1, (a2, (a3, ()))))) = f33 N a0 a1 a2 a3 := by kernel_rfl
theorem k33 (N : Nat) : CalleeOK Go.Proofs.Try.prog 33 (c33 N) :=
  fn_ok (fn := Go.Proofs.Try.f33) (body := b33) (c := x33 N) Go.Proofs.Try.func33 (by kernel_rfl) (by kernel_rfl) ⟨ttL_ok, mtL_ok, eqL_ok, ctL_ok, msL_ok, env_cons (forall_mem1 (k40 N)) (env_nil)⟩ mixed (by kernel_rfl) (Nat.le_of_ble_eq_true (by kernel_rfl)) (by kernel_rfl) (by decide)
    (loops_ok (by kernel_rfl : loopsOf b33 = [loopAt 3 (loopsOf b33), loopAt 8 (loopsOf b33), loopAt 13 (loopsOf b33)]) (.cons (l33_3 N) (.cons (l33_8 N) (.cons (l33_13 N) .nil)))) fun d => e33 N d.1 d.2.1 d.2.2.1 d.2.2.2.1
def f14 (N : Nat) (a0 : (Int × (List (List Int) × Unit))) (a1 : List Int) (a2 : List Int) (a3 : List Int) : Option (Int) :=
  (f17 N a0 a1 a2 a3).bind fun r =>
  cond (!(decide (r = 0)))
    (some r)
    ((f34 N a1).bind fun r_1 =>
    (f33 N a0 a2 a3 r_1).bind fun r_2 =>
    cond r_2
      (some 11)
      (some 0))
def c14 (N : Nat) : Callee := .pure (.pr (.val (.pair (.int .i64) (.pair (.sl false (.arr 2 (.int .i64))) .unit))) (.pr (.val (.sl false (.int .i64))) (.pr (.val (.sl false (.int .i64))) (.pr (.val (.sl false (.int .i64))) .un)))) [(.int .i64)] fun d => f14 N d.1 d.2.1 d.2.2.1 d.2.2.2.1
def f15_L3 {R : Type} (N : Nat) (t1 : List Int) (t0 : List Int) (kb : Int × Int → Option R) (kret : Int → Bool → Option R) (kx0 : Int → Option R) : Int × Int → Option R :=
  fun (t7, t6) =>
    cond (decide (t7 < (len t1)))
      ((idx t1 t7).bind fun x =>
      (cond (decide (x < 0))
          (some true)
          ((idx t1 t7).bind fun x_1 =>
          some (decide ((len t0) ≤ x_1)))).bind fun b =>
      (cond b
          (some true)
          ((cond (decide (0 < t7))
              ((idx t1 t7).bind fun x_2 =>
              (idx t1 (wi64 (t7 - 1))).bind fun x_3 =>
              some (decide (x_2 ≤ x_3)))
              (some false)).bind fun b_1 =>
          some b_1)).bind fun b_2 =>
      (cond b_2
          (some true)
          ((idx t1 t7).bind fun x_4 =>
          (idx t0 x_4).bind fun x_5 =>
          some (decide (x_5 < 0)))).bind fun b_3 =>
      cond b_3
        (kret 0 false)
        ((idx t1 t7).bind fun x_6 =>
        (idx t0 x_6).bind fun x_7 =>
        kb ((wi64 (t7 + 1)), (wi64 (t6 + x_7)))))
      (kx0 t6)
def f15 (N : Nat) (a0 : List Int) (a1 : List Int) : Option (Int × Bool) :=
  iter (fun w => f15_L3 N a1 a0 w
    (fun t4 t5 =>
      some (t4, t5))
    (fun t6_1 =>
      some (t6_1, true))) N (0, 0)
def c15 (N : Nat) : Callee := .pure (.pr (.val (.sl false (.int .i64))) (.pr (.val (.sl false (.int .i64))) .un)) [(.int .i64), .bool] fun d => f15 N d.1 d.2.1
def f52_L2 {R : Type} (N : Nat) (t2 : Int) (t1 : Int) (o0 : (Int × (List (List Int) × Unit))) (kb : Int → Option R) (kret : Bool → Option R) (kx0 : Unit → Option R) : Int → Option R :=
  fun t7 =>
    cond (decide (t7 < (len o0.2.1)))
      ((idx o0.2.1 t7).bind fun x =>
      (idx x 0).bind fun x_1 =>
      (cond (decide (x_1 = t1))
          ((idx o0.2.1 t7).bind fun x_2 =>
          (idx x_2 1).bind fun x_3 =>
          some (decide (x_3 = t2)))
          (some false)).bind fun b =>
      cond b
        (kret true)
        (kb (wi64 (t7 + 1))))
      (kx0 ())
def f52 (N : Nat) (a0 : (Int × (List (List Int) × Unit))) (a1 : Int) (a2 : Int) : Option (Bool) :=
  iter (fun w => f52_L2 N a2 a1 a0 w
    (fun t6 =>
      some t6)
    (fun (_ : Unit) =>
      some false)) N 0
def f35_L4 {R : Type} (N : Nat) (t3 : List Int) (o0 : (Int × (List (List Int) × Unit))) (kb : Int → Option R) (kret : Bool → Option R) (kx0 : Unit → Option R) : Int → Option R :=
  fun t9 =>
    cond (decide (t9 < (len t3)))
      ((cond (decide (0 < t9))
          ((idx t3 (wi64 (t9 - 1))).bind fun x_2 =>
          (idx t3 t9).bind fun x_3 =>
          (f52 N o0 x_2 x_3).bind fun r_3 =>
          some (!r_3))
          (some false)).bind fun b_4 =>
      (cond b_4
          (some true)
          (chk ((decide (0 ≤ t9)) && (decide (t9 ≤ (len t3)))) <|
          (idx t3 t9).bind fun x_4 =>
          (f40 N (sub t3 0 t9) x_4).bind fun r_4 =>
          some r_4)).bind fun b_5 =>
      cond b_5
        (kret false)
        (kb (wi64 (t9 + 1))))
      (kx0 ())
def f35 (N : Nat) (a0 : (Int × (List (List Int) × Unit))) (a1 : List Int) (a2 : List Int) (a3 : List Int) : Option (Bool) :=
  (cond (decide ((len a3) = 0))
      (some true)
      (some (decide (a0.1 < (len a3))))).bind fun b =>
  (cond b
      (some true)
      ((f37 N a0 a3).bind fun r =>
      some (!r))).bind fun b_1 =>
  (cond b_1
      (some true)
      ((idx a3 0).bind fun x =>
      (f40 N a1 x).bind fun r_1 =>
      some (!r_1))).bind fun b_2 =>
  (cond b_2
      (some true)
      ((idx a3 (wi64 ((len a3) - 1))).bind fun x_1 =>
      (f40 N a2 x_1).bind fun r_2 =>
      some (!r_2))).bind fun b_3 =>
  cond b_3
    (some false)
    (iter (fun w => f35_L4 N a3 a0 w
      (fun t8 =>
        some t8)
      (fun (_ : Unit) =>
        some true)) N 0)
def f16_L17 {R : Type} (N : Nat) (t1_1 : List Int) (t16_1 : Int) (t3_1 : List Int) (t2_1 : List Int) (t14_1 : Int) (t5_1 : List (List Int × (Int × Unit))) (t18_1 : Int) (o1_1 : (List Int × (Int × Unit))) (o2 : (Int × (List (List Int) × Unit))) (kb : Int × List Int → Option R) (kret : Int → Option R) (kx2 : (List Int) → Option R) : Int × List Int → Option R :=
  fun (t20, o0_1) =>
    cond (decide (t20 < (len o1_1.1)))
      ((idx o1_1.1 t20).bind fun x_1 =>
      chk (inb o0_1 x_1) <|
      (idx o0_1 x_1).bind fun x_2 =>
      chk (inb o0_1 x_1) <|
      (idx o0_1 x_1).bind fun x_3 =>
      (idx o0_1 x_1).bind fun x_4 =>
      (idx t1_1 x_1).bind fun x_5 =>
      (cond (decide (0 ≤ x_5))
          (chk (inb (setI o0_1 x_1 (wi64 (x_2 + o1_1.2.1))) x_1) <|
          (idx (setI o0_1 x_1 (wi64 (x_2 + o1_1.2.1))) x_1).bind fun x_6 =>
          (idx t1_1 x_1).bind fun x_7 =>
          some (decide (x_7 < x_6)))
          (some false)).bind fun b_3 =>
      cond b_3
        (kret 13)
        (kb ((wi64 (t20 + 1)), (setI o0_1 x_1 (wi64 (x_2 + o1_1.2.1))))))
      (kx2 o0_1)
def f16_L10 {R : Type} (N : Nat) (t1 : List Int) (t3 : List Int) (t2 : List Int) (t14 : Int) (t5 : List (List Int × (Int × Unit))) (o1 : (Int × (List (List Int) × Unit))) (kb : Int × Int × List Int → Option R) (kret : Int → Option R) (kx0 : Int → Option R) : Int × Int × List Int → Option R :=
  fun (t18, t16, o0) =>
    cond (decide (t18 < (len t5)))
      ((idx t5 t18).bind fun x =>
      (cond (decide (x.2.1 < 1))
          (some true)
          (some (decide ((wi64 (t14 - t16)) < x.2.1)))).bind fun b_1 =>
      (cond b_1
          (some true)
          ((f35 N o1 t2 t3 x.1).bind fun r_3 =>
          some (!r_3))).bind fun b_2 =>
      cond b_2
        (kret 13)
        (iter (fun w => f16_L17 N t1 (wi64 (t16 + x.2.1)) t3 t2 t14 t5 t18 x o1 w
          (fun t12 =>
            kret t12)
          (fun o0_2 =>
            kb ((wi64 (t18 + 1)), (wi64 (t16 + x.2.1)), o0_2))) N (0, o0)))
      (kx0 t16)
def f16 (N : Nat) (a0 : (Int × (List (List Int) × Unit))) (a1 : List Int) (a2 : List Int) (a3 : List Int) (a4 : List Int) (a5 : List (List Int × (Int × Unit))) : Option (Int) :=
  (f17 N a0 a1 a2 a3).bind fun r =>
  cond (!(decide (r = 0)))
    (some r)
    ((f15 N a1 a4).bind fun r_1 =>
    (cond (!r_1.2)
        (some true)
        ((f33 N a0 a2 a3 a4).bind fun r_2 =>
        some r_2)).bind fun b =>
    cond b
      (some 13)
      (chk (((decide (0 ≤ a0.1)) && (decide (a0.1 ≤ a0.1))) && (decide (a0.1 ≤ ((room : Nat) : Int)))) <|
      iter (fun w => f16_L10 N a1 a3 a2 r_1.1 a5 a0 w
        (fun t12_1 =>
          some t12_1)
        (fun t16_2 =>
          cond (!(decide (t16_2 = r_1.1)))
            (some 13)
            (some 0))) N (0, 0, (List.replicate (Int.toNat a0.1) 0 : List Int))))
def c16 (N : Nat) : Callee := .pure (.pr (.val (.pair (.int .i64) (.pair (.sl false (.arr 2 (.int .i64))) .unit))) (.pr (.val (.sl false (.int .i64))) (.pr (.val (.sl false (.int .i64))) (.pr (.val (.sl false (.int .i64))) (.pr (.val (.sl false (.int .i64))) (.pr (.val (.sl false (.pair (.sl false (.int .i64)) (.pair (.int .i64) .unit)))) .un)))))) [(.int .i64)] fun d => f16 N d.1 d.2.1 d.2.2.1 d.2.2.2.1 d.2.2.2.2.1 d.2.2.2.2.2.1
def f3 (N : Nat) (a0 : ((Int × (List (List Int) × Unit)) × (List Int × (List Int × (List Int × Unit))))) : Option (Bool) :=
  (f11 N).bind fun r =>
  cond (!r)
    (some false)
    ((f12 N a0 12 60).bind fun r_1 =>
    cond (!r_1)
      (some true)
      ((f13 N (a0.1.1, a0.1.2) a0.2.1 a0.2.2.1 a0.2.2.2.1).bind fun r_2 =>
      (f14 N (a0.1.1, a0.1.2) a0.2.1 a0.2.2.1 a0.2.2.2.1).bind fun r_3 =>
      cond (!(decide (r_2.2.2.2 = r_3)))
        (some false)
        (cond (!(decide (r_2.2.2.2 = 0)))
          ((cond (decide ((len r_2.1) = 0))
              (some (decide ((len r_2.2.1) = 0)))
              (some false)).bind fun b =>
          (cond b
              (some (decide (r_2.2.2.1 = 0)))
              (some false)).bind fun b_1 =>
          some b_1)
          ((f15 N a0.2.1 r_2.1).bind fun r_4 =>
          (cond r_4.2
              (some (decide (r_2.2.2.1 = r_4.1)))
              (some false)).bind fun b_2 =>
          (cond b_2
              ((f16 N (a0.1.1, a0.1.2) a0.2.1 a0.2.2.1 a0.2.2.2.1 r_2.1 r_2.2.1).bind fun r_5 =>
              some (decide (r_5 = 0)))
              (some false)).bind fun b_3 =>
          some b_3))))
def c3 (N : Nat) : Callee := .pure (.pr (.val (.pair (.pair (.int .i64) (.pair (.sl false (.arr 2 (.int .i64))) .unit)) (.pair (.sl false (.int .i64)) (.pair (.sl false (.int .i64)) (.pair (.sl false (.int .i64)) .unit))))) .un) [.bool] fun d => f3 N d.1
def lp3 (N : Nat) : Nat → Option LoopFn := fun r => none
def x3 (N : Nat) : Ctx := { fuel := N, tt := getL ttL, mt := getL mtL, ntmps := 80, env := fun f => (getL [(11, [c11 N]), (12, [c12 N]), (13, [c13 N]), (14, [c14 N]), (15, [c15 N]), (16, [c16 N])] f).getD [], cut := getL [], exits := fun r => getL ((getL [] r).getD []), res := ⟨[2], []⟩, own := fun _ => none, lp := lp3 N, eqs := fun T => memN T eqL, ct := fun T => memN T ctL, ms := getMs msL }
noncomputable def b3 : Code := ((Go.Proofs.Try.f3).body).getD .skip
theorem e3 (N : Nat) (a0 : ((Int × (List (List Int) × Unit)) × (List Int × (List Int × (List Int × Unit))))) : bodyK (x3 N) [.bool] [.tmp 2] b3 (entry (.pr (.val (.pair (.pair (.int .i64) (.pair (.sl false (.arr 2 (.int .i64))) .unit)) (.pair (.sl false (.int .i64)) (.pair (.sl false (.int .i64)) (.pair (.sl false (.int .i64)) .unit))))) .un) (a0, ())) = f3 N a0 := by kernel_rfl
def f18_L4 {R : Type} (N : Nat) (t3 : List Int) (t2 : List Int) (t9 : Int) (t1 : List Int) (o0 : (Int × (List (List Int) × Unit))) (kb : Int × Int → Option R) (kx0 : Int → Option R) : Int × Int → Option R :=
  fun (t11, t10) =>
    cond (decide (t11 < o0.1))
      (kb ((wi64 (t11 + 1)), (wi64 (2 * t10))))
      (kx0 t10)
def f18_L13 {R : Type} (N : Nat) (t3_2 : List Int) (t2_2 : List Int) (t1_2 : List Int) (t10_3 : Int) (t12_1 : Int) (t9_2 : Int) (o1 : (Int × (List (List Int) × Unit))) (kb : Int × Int × List Int → Option R) (kx4 : (List Int) → Option R) : Int × Int × List Int → Option R :=
  fun (t16, t15, o0_2) =>
    cond (decide (t16 < o1.1))
      (cond (decide ((Int.tmod t15 2) = 1))
        (chk (decide ((Nat.succ (List.length o0_2)) ≤ room)) <|
        kb ((wi64 (t16 + 1)), (wi64 (Int.tdiv t15 2)), (o0_2 ++ (t16 :: ([] : List Int)))))
        (kb ((wi64 (t16 + 1)), (wi64 (Int.tdiv t15 2)), o0_2)))
      (kx4 o0_2)
def f18_L8 {R : Type} (N : Nat) (t3_1 : List Int) (t2_1 : List Int) (t1_1 : List Int) (t10_2 : Int) (o0_1 : (Int × (List (List Int) × Unit))) (kb : Int × Int → Option R) (kx2 : Int → Option R) : Int × Int → Option R :=
  fun (t12, t9_1) =>
    cond (decide (t12 < t10_2))
      (iter (fun w => f18_L13 N t3_1 t2_1 t1_1 t10_2 t12 t9_1 o0_1 w
        (fun o1_1 =>
          (f15 N t1_1 o1_1).bind fun r =>
          (cond r.2
              ((cond (decide (t9_1 < 0))
                  (some true)
                  (some (decide (r.1 < t9_1)))).bind fun b =>
              some b)
              (some false)).bind fun b_1 =>
          (cond b_1
              ((f33 N o0_1 t2_1 t3_1 o1_1).bind fun r_1 =>
              some (!r_1))
              (some false)).bind fun b_2 =>
          cond b_2
            (kb ((wi64 (t12 + 1)), r.1))
            (kb ((wi64 (t12 + 1)), t9_1)))) N (0, t12, ([] : List Int)))
      (kx2 t9_1)
def f18 (N : Nat) (a0 : (Int × (List (List Int) × Unit))) (a1 : List Int) (a2 : List Int) (a3 : List Int) : Option (Int) :=
  iter (fun w => f18_L4 N a3 a2 (-1) a1 a0 w
    (fun t10_1 =>
      iter (fun w => f18_L8 N a3 a2 a1 t10_1 a0 w
        (fun t9_3 =>
          some t9_3)) N (0, (-1)))) N (0, 1)
def c18 (N : Nat) : Callee := .pure (.pr (.val (.pair (.int .i64) (.pair (.sl false (.arr 2 (.int .i64))) .unit))) (.pr (.val (.sl false (.int .i64))) (.pr (.val (.sl false (.int .i64))) (.pr (.val (.sl false (.int .i64))) .un)))) [(.int .i64)] fun d => f18 N d.1 d.2.1 d.2.2.1 d.2.2.2.1
def f4 (N : Nat) (a0 : ((Int × (List (List Int) × Unit)) × (List Int × (List Int × (List Int × Unit))))) : Option (Bool) :=
  (f11 N).bind fun r =>
  cond (!r)
    (some false)
    ((f12 N a0 6 20).bind fun r_1 =>
    (cond (!r_1)
        (some true)
        ((f17 N (a0.1.1, a0.1.2) a0.2.1 a0.2.2.1 a0.2.2.2.1).bind fun r_2 =>
        some (!(decide (r_2 = 0))))).bind fun b =>
    cond b
      (some true)
      ((f13 N (a0.1.1, a0.1.2) a0.2.1 a0.2.2.1 a0.2.2.2.1).bind fun r_3 =>
      (f18 N (a0.1.1, a0.1.2) a0.2.1 a0.2.2.1 a0.2.2.2.1).bind fun r_4 =>
      cond (decide (r_4 < 0))
        (some (decide (r_3.2.2.2 = 11)))
        ((cond (decide (r_3.2.2.2 = 0))
            (some (decide (r_3.2.2.1 = r_4)))
            (some false)).bind fun b_1 =>
        some b_1)))
def lp4 (N : Nat) : Nat → Option LoopFn := fun r => none
def x4 (N : Nat) : Ctx := { fuel := N, tt := getL ttL, mt := getL mtL, ntmps := 59, env := fun f => (getL [(11, [c11 N]), (12, [c12 N]), (17, [c17 N]), (13, [c13 N]), (18, [c18 N])] f).getD [], cut := getL [], exits := fun r => getL ((getL [] r).getD []), res := ⟨[2], []⟩, own := fun _ => none, lp := lp4 N, eqs := fun T => memN T eqL, ct := fun T => memN T ctL, ms := getMs msL }
noncomputable def b4 : Code := ((Go.Proofs.Try.f4).body).getD .skip
theorem e4 (N : Nat) (a0 : ((Int × (List (List Int) × Unit)) × (List Int × (List Int × (List Int × Unit))))) : bodyK (x4 N) [.bool] [.tmp 2] b4 (entry (.pr (.val (.pair (.pair (.int .i64) (.pair (.sl false (.arr 2 (.int .i64))) .unit)) (.pair (.sl false (.int .i64)) (.pair (.sl false (.int .i64)) (.pair (.sl false (.int .i64)) .unit))))) .un) (a0, ())) = f4 N a0 := by kernel_rfl
def f23 (N : Nat) (a0 : (Int × (List (List Int) × Unit))) (a1 : List Int) (a2 : List Int) (a3 : List Int) : Option (Bool × Int) :=
  (f38 N a0).bind fun r =>
  cond (!(decide (r = 0)))
    (some (false, 1))
    (chk (((decide (0 ≤ a0.1)) && (decide (a0.1 ≤ a0.1))) && (decide (a0.1 ≤ ((room : Nat) : Int)))) <|
    (f27 N a0 (List.replicate (Int.toNat a0.1) 0 : List Int) (a1 :: (a2 :: (a3 :: ([] : List (List Int)))))).bind fun r_1 =>
    cond (!(decide (r_1 = 0)))
      (some (false, r_1))
      ((f28 N a0).bind fun r_2 =>
      (f41 N a0.1 a3).bind fun r_3 =>
      (f29 N r_2.1 a1 a2 r_3).bind fun r_4 =>
      some (r_4, 0)))
def c23 (N : Nat) : Callee := .pure (.pr (.val (.pair (.int .i64) (.pair (.sl false (.arr 2 (.int .i64))) .unit))) (.pr (.val (.sl false (.int .i64))) (.pr (.val (.sl false (.int .i64))) (.pr (.val (.sl false (.int .i64))) .un)))) [.bool, (.int .i64)] fun d => f23 N d.1 d.2.1 d.2.2.1 d.2.2.2.1
def lp23 (N : Nat) : Nat → Option LoopFn := fun r => none
def x23 (N : Nat) : Ctx := { fuel := N, tt := getL ttL, mt := getL mtL, ntmps := 41, env := fun f => (getL [(38, [c38 N]), (27, [c27 N]), (28, [c28 N]), (41, [c41 N]), (29, [c29 N])] f).getD [], cut := getL [], exits := fun r => getL ((getL [] r).getD []), res := ⟨[8, 9], []⟩, own := fun _ => none, lp := lp23 N, eqs := fun T => memN T eqL, ct := fun T => memN T ctL, ms := getMs msL }
noncomputable def b23 : Code := ((Go.Proofs.Try.f23).body).getD .skip
theorem e23 (N : Nat) (a0 : (Int × (List (List Int) × Unit))) (a1 : List Int) (a2 : List Int) (a3 : List Int) : bodyK (x23 N) [.bool, (.int .i64)] [.tmp 8, .tmp 9] b23 (entry (.pr (.val (.pair (.int .i64) (.pair (.sl false (.arr 2 (.int .i64))) .unit))) (.pr (.val (.sl false (.int .i64))) (.pr (.val (.sl false (.int .i64))) (.pr (.val (.sl false (.int .i64))) .un)))) (a0, (a1, (a2, (a3, ()))))) = f23 N a0 a1 a2 a3 := by kernel_rfl
theorem k23 (N : Nat) : CalleeOK Go.Proofs.Try.prog 23 (c23 N) :=
  fn_ok (fn := Go.Proofs.Try.f23) (body := b23) (c := x23 N) Go.Proofs.Try.func23 (by kernel_rfl) (by kernel_rfl) ⟨ttL_ok, mtL_ok, eqL_ok, ctL_ok, msL_ok, env_cons (forall_mem1 (k38 N)) (env_cons (forall_mem1 (k27 N)) (env_cons (forall_mem1 (k28 N)) (env_cons (forall_mem1 (k41 N)) (env_cons (forall_mem1 (k29 N)) (env_nil)))))⟩ mixed (by kernel_rfl) (Nat.le_of_ble_eq_true (by kernel_rfl)) (by kernel_rfl) (by decide)
    (loops_ok (by kernel_rfl : loopsOf b23 = []) .nil) fun d => e23 N d.1 d.2.1 d.2.2.1 d.2.2.2.1
def f24 (N : Nat) (a0 : (Int × (List (List Int) × Unit))) (a1 : List Int) (a2 : List Int) (a3 : List Int) : Option (Bool × Int) :=
  (f36 N a0).bind fun r =>
  cond (!r)
    (some (false, 1))
    ((f37 N a0 a1).bind fun r_1 =>
    (cond (!r_1)
        (some true)
        ((f37 N a0 a2).bind fun r_2 =>
        some (!r_2))).bind fun b =>
    (cond b
        (some true)
        ((f37 N a0 a3).bind fun r_3 =>
        some (!r_3))).bind fun b_1 =>
    cond b_1
      (some (false, 3))
      ((f33 N a0 a1 a2 a3).bind fun r_4 =>
      some ((!r_4), 0)))
def c24 (N : Nat) : Callee := .pure (.pr (.val (.pair (.int .i64) (.pair (.sl false (.arr 2 (.int .i64))) .unit))) (.pr (.val (.sl false (.int .i64))) (.pr (.val (.sl false (.int .i64))) (.pr (.val (.sl false (.int .i64))) .un)))) [.bool, (.int .i64)] fun d => f24 N d.1 d.2.1 d.2.2.1 d.2.2.2.1
def lp24 (N : Nat) : Nat → Option LoopFn := fun r => none
def x24 (N : Nat) : Ctx := { fuel := N, tt := getL ttL, mt := getL mtL, ntmps := 35, env := fun f => (getL [(36, [c36 N]), (37, [c37 N]), (33, [c33 N])] f).getD [], cut := getL [], exits := fun r => getL ((getL [] r).getD []), res := ⟨[8, 9], []⟩, own := fun _ => none, lp := lp24 N, eqs := fun T => memN T eqL, ct := fun T => memN T ctL, ms := getMs msL }
noncomputable def b24 : Code := ((Go.Proofs.Try.f24).body).getD .skip
theorem e24 (N : Nat) (a0 : (Int × (List (List Int) × Unit))) (a1 : List Int) (a2 : List Int) (a3 : List Int) : bodyK (x24 N) [.bool, (.int .i64)] [.tmp 8, .tmp 9] b24 (entry (.pr (.val (.pair (.int .i64) (.pair (.sl false (.arr 2 (.int .i64))) .unit))) (.pr (.val (.sl false (.int .i64))) (.pr (.val (.sl false (.int .i64))) (.pr (.val (.sl false (.int .i64))) .un)))) (a0, (a1, (a2, (a3, ()))))) = f24 N a0 a1 a2 a3 := by kernel_rfl
theorem k24 (N : Nat) : CalleeOK Go.Proofs.Try.prog 24 (c24 N) :=
  fn_ok (fn := Go.Proofs.Try.f24) (body := b24) (c := x24 N) Go.Proofs.Try.func24 (by kernel_rfl) (by kernel_rfl) ⟨ttL_ok, mtL_ok, eqL_ok, ctL_ok, msL_ok, env_cons (forall_mem1 (k36 N)) (env_cons (forall_mem1 (k37 N)) (env_cons (forall_mem1 (k33 N)) (env_nil)))⟩ mixed (by kernel_rfl) (Nat.le_of_ble_eq_true (by kernel_rfl)) (by kernel_rfl) (by decide)
    (loops_ok (by kernel_rfl : loopsOf b24 = []) .nil) fun d => e24 N d.1 d.2.1 d.2.2.1 d.2.2.2.1
def f8 (N : Nat) (a0 : ((Int × (List (List Int) × Unit)) × (List Int × (List Int × (List Int × Unit))))) (a1 : List Int) : Option (Bool) :=
  (f11 N).bind fun r =>
  cond (!r)
    (some false)
    ((f12 N a0 12 60).bind fun r_1 =>
    (cond (!r_1)
        (some true)
        (some (decide (20 < (len a1))))).bind fun b =>
    cond b
      (some true)
      ((f23 N (a0.1.1, a0.1.2) a0.2.2.1 a0.2.2.2.1 a1).bind fun r_2 =>
      (f24 N (a0.1.1, a0.1.2) a0.2.2.1 a0.2.2.2.1 a1).bind fun r_3 =>
      (cond (decide (r_2.1 = r_3.1))
          (some (decide (r_2.2 = r_3.2)))
          (some false)).bind fun b_1 =>
      some b_1))
def c8 (N : Nat) : Callee := .pure (.pr (.val (.pair (.pair (.int .i64) (.pair (.sl false (.arr 2 (.int .i64))) .unit)) (.pair (.sl false (.int .i64)) (.pair (.sl false (.int .i64)) (.pair (.sl false (.int .i64)) .unit))))) (.pr (.val (.sl false (.int .i64))) .un)) [.bool] fun d => f8 N d.1 d.2.1
def lp8 (N : Nat) : Nat → Option LoopFn := fun r => none
def x8 (N : Nat) : Ctx := { fuel := N, tt := getL ttL, mt := getL mtL, ntmps := 49, env := fun f => (getL [(11, [c11 N]), (12, [c12 N]), (23, [c23 N]), (24, [c24 N])] f).getD [], cut := getL [], exits := fun r => getL ((getL [] r).getD []), res := ⟨[4], []⟩, own := fun _ => none, lp := lp8 N, eqs := fun T => memN T eqL, ct := fun T => memN T ctL, ms := getMs msL }
noncomputable def b8 : Code := ((Go.Proofs.Try.f8).body).getD .skip
theorem e8 (N : Nat) (a0 : ((Int × (List (List Int) × Unit)) × (List Int × (List Int × (List Int × Unit))))) (a1 : List Int) : bodyK (x8 N) [.bool] [.tmp 4] b8 (entry (.pr (.val (.pair (.pair (.int .i64) (.pair (.sl false (.arr 2 (.int .i64))) .unit)) (.pair (.sl false (.int .i64)) (.pair (.sl false (.int .i64)) (.pair (.sl false (.int .i64)) .unit))))) (.pr (.val (.sl false (.int .i64))) .un)) (a0, (a1, ()))) = f8 N a0 a1 := by kernel_rfl
theorem k8 (N : Nat) : CalleeOK Go.Proofs.Try.prog 8 (c8 N) :=
  fn_ok (fn := Go.Proofs.Try.f8) (body := b8) (c := x8 N) Go.Proofs.Try.func8 (by kernel_rfl) (by kernel_rfl) ⟨ttL_ok, mtL_ok, eqL_ok, ctL_ok, msL_ok, env_cons (forall_mem1 (k11 N)) (env_cons (forall_mem1 (k12 N)) (env_cons (forall_mem1 (k23 N)) (env_cons (forall_mem1 (k24 N)) (env_nil))))⟩ mixed (by kernel_rfl) (Nat.le_of_ble_eq_true (by kernel_rfl)) (by kernel_rfl) (by decide)
    (loops_ok (by kernel_rfl : loopsOf b8 = []) .nil) fun d => e8 N d.1 d.2.1
end
end Go.Kz
