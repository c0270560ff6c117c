/-
  The functions of the program as plain functions on lists and numbers, and the proofs that the program computes them. Printed by a program.
-/
import Derived.Test.YtcnmiohlpaommaaKzP42
set_option linter.unusedSimpArgs false
set_option maxRecDepth 100000
set_option linter.unusedVariables false
namespace Go.Kz
open Go.Proofs

/-! ### 6: keyhole/keyholelaw42.StrategyKraft -/
def f6_L11 {R : Type} (N : Nat) (t1 : List (Int × (List Int × Unit))) (t55 : Int) (o1 : (Int × (List (List Int) × Unit))) (o2 : List Int) (kb : Int × Int × List Int → Option R) (kret : Bool → Option R) (kx0 : Int → (List Int) → Option R) : Int × Int × List Int → Option R :=
  fun (t56, t8, o0) =>
    cond (decide (t56 < t55))
      (chk (inb o2 t56) <|
      (idx o2 t56).bind fun x =>
      (f27 N o1 t1 t56).bind fun r_6 =>
      (cond (!(decide (r_6.2 = 0)))
          (some true)
          (some (decide (r_6.1 < 1)))).bind fun b_3 =>
      (cond b_3
          (some true)
          (some (decide (1048576 < r_6.1)))).bind fun b_4 =>
      (cond b_4
          (some true)
          (chk (inb o0 x) <|
          (idx o0 x).bind fun x_1 =>
          (cond (!(decide (x_1 = 0)))
              (chk (inb o0 x) <|
              (idx o0 x).bind fun x_2 =>
              some (!(decide (x_2 = r_6.1))))
              (some false)).bind fun b_5 =>
          some b_5)).bind fun b_6 =>
      cond b_6
        (kret false)
        (chk (inb o0 x) <|
        (idx o0 x).bind fun x_3 =>
        (idx o0 x).bind fun x_4 =>
        kb ((wi64 (t56 + 1)), (maxI t8 r_6.1), (setI o0 x r_6.1))))
      (kx0 t8 o0)
def f6_L29 {R : Type} (N : Nat) (t106_1 : Int) (t107_1 : Int) (t14_1 : Int) (t13_1 : Int) (o0_3 : List Int) (kb : Int × Int → Option R) (kx4 : Int → Option R) : Int × Int → Option R :=
  fun (t18, t17) =>
    cond (decide (0 < t18))
      (cond (decide (t18 = 0))
        (none /- Go.Op.binOp Go.BinOp.rem (OfNat.ofNat.{0} Nat 3 (instOfNatNat 3)) (Go.Operand.tmp (OfNat.ofNat.{0} Nat 130 (instOfNatNat 130))) (Go.Operand.tmp (OfNat.ofNat.{0} Nat 131 (instOfNatNat 131))) (OfNat.ofNat.{0} Nat 3 (instOfNatNat 3)) -/)
        (kb ((Int.tmod t17 t18), t18)))
      (kx4 t17)
def f6_L23 {R : Type} (N : Nat) (t106 : Int) (o0_2 : List Int) (kb : Int × Int × Int → Option R) (kret : Bool → Option R) (kx2 : Int → Int → Option R) : Int × Int × Int → Option R :=
  fun (t107, t14, t13) =>
    cond (decide (t107 < t106))
      (chk (inb o0_2 t107) <|
      (idx o0_2 t107).bind fun x_5 =>
      (cond (decide (x_5 = 1048576))
          (some true)
          (some (decide (68719476736 < t14)))).bind fun b_7 =>
      cond b_7
        (kret true)
        (iter (fun w => f6_L29 N t106 t107 (wi64 (t14 * x_5)) (wi64 ((wi64 (t13 * x_5)) + t14)) o0_2 w
          (fun t17_1 =>
            cond (decide (t17_1 = 0))
              (none /- Go.Op.binOp Go.BinOp.quo (OfNat.ofNat.{0} Nat 3 (instOfNatNat 3)) (Go.Operand.tmp (OfNat.ofNat.{0} Nat 133 (instOfNatNat 133))) (Go.Operand.tmp (OfNat.ofNat.{0} Nat 134 (instOfNatNat 134))) (OfNat.ofNat.{0} Nat 3 (instOfNatNat 3)) -/)
              (cond (decide (t17_1 = 0))
                (none /- Go.Op.binOp Go.BinOp.quo (OfNat.ofNat.{0} Nat 3 (instOfNatNat 3)) (Go.Operand.tmp (OfNat.ofNat.{0} Nat 136 (instOfNatNat 136))) (Go.Operand.tmp (OfNat.ofNat.{0} Nat 137 (instOfNatNat 137))) (OfNat.ofNat.{0} Nat 3 (instOfNatNat 3)) -/)
                (kb ((wi64 (t107 + 1)), (wi64 (Int.tdiv (wi64 (t14 * x_5)) t17_1)), (wi64 (Int.tdiv (wi64 ((wi64 (t13 * x_5)) + t14)) t17_1))))))) N ((wi64 (t14 * x_5)), (wi64 ((wi64 (t13 * x_5)) + t14)))))
      (kx2 t14 t13)
def f6 (N : Nat) (a0 : (Int × (List (List Int) × Unit))) (a1 : List (Int × (List Int × Unit))) : Option (Bool) :=
  (f12 N).bind fun r =>
  cond (!r)
    (some false)
    ((f13 N a0 a1 62 60).bind fun r_1 =>
    (cond (!r_1)
        (some true)
        ((f14 N a0 a1).bind fun r_2 =>
        some (!(decide (r_2 = 0))))).bind fun b =>
    cond b
      (some true)
      ((f15 N a0 a1).bind fun r_3 =>
      (cond (!(decide (r_3.2 = 0)))
          (some true)
          (some (!(decide ((len r_3.1) = a0.1))))).bind fun b_1 =>
      (cond b_1
          (some true)
          ((f25 N r_3.1).bind fun r_4 =>
          some (!r_4))).bind fun b_2 =>
      cond b_2
        (some false)
        ((f26 N r_3.1).bind fun r_5 =>
        chk (((decide (0 ≤ r_5)) && (decide (r_5 ≤ r_5))) && (decide (r_5 ≤ ((room : Nat) : Int)))) <|
        iter (fun w => f6_L11 N a1 (len r_3.1) a0 r_3.1 w
          (fun t4 =>
            some t4)
          (fun t8_1 o0_1 =>
            cond (decide (t8_1 < (len o0_1)))
              (some false)
              (iter (fun w => f6_L23 N (len o0_1) o0_1 w
                (fun t4_1 =>
                  some t4_1)
                (fun t14_2 t13_2 =>
                  some (decide (t13_2 = t14_2)))) N (0, 1, 0)))) N (0, 1, (List.replicate (Int.toNat r_5) 0 : List Int)))))
def c6 (N : Nat) : Callee := .pure (.pr (.val (.pair (.int .i64) (.pair (.sl false (.sl false (.int .i64))) .unit))) (.pr (.val (.sl false (.pair (.int .i64) (.pair (.sl false (.int .i64)) .unit)))) .un)) [.bool] fun d => f6 N d.1 d.2.1
def F6_11 : SForm := ⟨[(56, (.val (.int .i64))), (8, (.val (.int .i64))), (7, (.ref 0)), (1, (.val (.sl false (.pair (.int .i64) (.pair (.sl false (.int .i64)) .unit))))), (2, (.bptr 1 [])), (54, (.ref 2)), (55, (.val (.int .i64)))], [.row (.int .i64), .cell (.val (.pair (.int .i64) (.pair (.sl false (.sl false (.int .i64))) .unit))), .row (.int .i64)]⟩
def G6_11 (N : Nat) : (R : Type) → F6_11.den → (AExit → St → Option R) → Option R := fun R d k => iter (fun kb => f6_L11 N d.1.2.2.2.1 d.1.2.2.2.2.2.2.1 d.2.2.1 d.2.2.2.1 kb
    (fun y0 => k .ret (St.of [(4, (.data .bool y0))] []))
    (fun y0 y1 => k (.exit 0) (St.of [(7, (.ref 0 [] 0)), (8, (.data (.int .i64) y0))] [.row (.int .i64) y1 0]))) N (d.1.1, d.1.2.1, d.2.1)
def F6_29 : SForm := ⟨[(18, (.val (.int .i64))), (17, (.val (.int .i64))), (105, (.ref 0)), (106, (.val (.int .i64))), (107, (.val (.int .i64))), (14, (.val (.int .i64))), (13, (.val (.int .i64)))], [.row (.int .i64)]⟩
def G6_29 (N : Nat) : (R : Type) → F6_29.den → (AExit → St → Option R) → Option R := fun R d k => iter (fun kb => f6_L29 N d.1.2.2.2.1 d.1.2.2.2.2.1 d.1.2.2.2.2.2.1 d.1.2.2.2.2.2.2.1 d.2.1 kb
    (fun y2 => k (.exit 4) (St.of [(105, (.ref 0 [] 0)), (106, (.data (.int .i64) d.1.2.2.2.1)), (107, (.data (.int .i64) d.1.2.2.2.2.1)), (17, (.data (.int .i64) y2)), (14, (.data (.int .i64) d.1.2.2.2.2.2.1)), (13, (.data (.int .i64) d.1.2.2.2.2.2.2.1))] [.row (.int .i64) d.2.1 0]))) N (d.1.1, d.1.2.1)
def F6_23 : SForm := ⟨[(107, (.val (.int .i64))), (14, (.val (.int .i64))), (13, (.val (.int .i64))), (105, (.ref 0)), (106, (.val (.int .i64)))], [.row (.int .i64)]⟩
def G6_23 (N : Nat) : (R : Type) → F6_23.den → (AExit → St → Option R) → Option R := fun R d k => iter (fun kb => f6_L23 N d.1.2.2.2.2.1 d.2.1 kb
    (fun y0 => k .ret (St.of [(4, (.data .bool y0))] []))
    (fun y0 y1 => k (.exit 2) (St.of [(14, (.data (.int .i64) y0)), (13, (.data (.int .i64) y1))] []))) N (d.1.1, d.1.2.1, d.1.2.2.1)
def lp6 (N : Nat) : Nat → Option LoopFn := fun r => cond (Nat.beq r 11) (some fun R sl os k => F6_11.take sl os fun d => G6_11 N R d k) (cond (Nat.beq r 29) (some fun R sl os k => F6_29.take sl os fun d => G6_29 N R d k) (cond (Nat.beq r 23) (some fun R sl os k => F6_23.take sl os fun d => G6_23 N R d k) (none)))
def x6 (N : Nat) : Ctx := { fuel := N, tt := getL ttL, mt := getL mtL, ntmps := 143, env := fun f => (getL [(12, [c12 N]), (13, [c13 N]), (14, [c14 N]), (15, [c15 N]), (25, [c25 N]), (26, [c26 N]), (27, [c27 N])] f).getD [], cut := getL [(11, ⟨[56, 8, 7, 1, 2, 54, 55], []⟩), (23, ⟨[107, 14, 13, 105, 106], []⟩), (29, ⟨[18, 17, 105, 106, 107, 14, 13], []⟩)], exits := fun r => getL ((getL [(11, [(0, ⟨[7, 8], []⟩)]), (23, [(2, ⟨[14, 13], []⟩)]), (29, [(4, ⟨[105, 106, 107, 17, 14, 13], []⟩)])] r).getD []), res := ⟨[4], []⟩, own := fun _ => none, lp := lp6 N, eqs := fun T => memN T eqL }
noncomputable def b6 : Code := ((Go.Proofs.Try.f6).body).getD .skip
theorem s6_11 (N : Nat) {R : Type} (k : AExit → St → Option R) (t1 : List (Int × (List Int × Unit))) (t55 : Int) (o1 : (Int × (List (List Int) × Unit))) (o2 : List Int) (kb : List (Nat × AVal) → List Obj → Option R) (x : Int × Int × List Int) : codeK (x6 N) (loopAt 11 (loopsOf b6)) (St.of [(56, (.data (.int .i64) x.1)), (8, (.data (.int .i64) x.2.1)), (7, (.ref 0 [] 0)), (1, (.data (.sl false (.pair (.int .i64) (.pair (.sl false (.int .i64)) .unit))) t1)), (2, (.bptr 1 [])), (54, (.ref 2 [] 0)), (55, (.data (.int .i64) t55))] [.row (.int .i64) x.2.2 0, .cell (.data (.pair (.int .i64) (.pair (.sl false (.sl false (.int .i64))) .unit)) o1), .row (.int .i64) o2 0]) (kLoop (x6 N) 11 ⟨[56, 8, 7, 1, 2, 54, 55], []⟩ kb k) = f6_L11 N t1 t55 o1 o2 (fun y => kb [(56, (.data (.int .i64) y.1)), (8, (.data (.int .i64) y.2.1)), (7, (.ref 0 [] 0)), (1, (.data (.sl false (.pair (.int .i64) (.pair (.sl false (.int .i64)) .unit))) t1)), (2, (.bptr 1 [])), (54, (.ref 2 [] 0)), (55, (.data (.int .i64) t55))] [.row (.int .i64) y.2.2 0, .cell (.data (.pair (.int .i64) (.pair (.sl false (.sl false (.int .i64))) .unit)) o1), .row (.int .i64) o2 0])
    (fun y0 => k .ret (St.of [(4, (.data .bool y0))] []))
    (fun y0 y1 => k (.exit 0) (St.of [(7, (.ref 0 [] 0)), (8, (.data (.int .i64) y0))] [.row (.int .i64) y1 0])) x := by kernel_rfl
theorem l6_11 (N : Nat) : LoopOK (x6 N) (loopAt 11 (loopsOf b6)) :=
  loop_mk (G6_11 N) (by kernel_rfl) (by kernel_rfl) (by kernel_rfl) fun R k d =>
    loop_eq (st := fun (x : Int × Int × List Int) => ([(56, (.data (.int .i64) x.1)), (8, (.data (.int .i64) x.2.1)), (7, (.ref 0 [] 0)), (1, (.data (.sl false (.pair (.int .i64) (.pair (.sl false (.int .i64)) .unit))) d.1.2.2.2.1)), (2, (.bptr 1 [])), (54, (.ref 2 [] 0)), (55, (.data (.int .i64) d.1.2.2.2.2.2.2.1))], [.row (.int .i64) x.2.2 0, .cell (.data (.pair (.int .i64) (.pair (.sl false (.sl false (.int .i64))) .unit)) d.2.2.1), .row (.int .i64) d.2.2.2.1 0])) (s6_11 N k d.1.2.2.2.1 d.1.2.2.2.2.2.2.1 d.2.2.1 d.2.2.2.1) N (d.1.1, d.1.2.1, d.2.1)
theorem s6_29 (N : Nat) {R : Type} (k : AExit → St → Option R) (t106_1 : Int) (t107_1 : Int) (t14_1 : Int) (t13_1 : Int) (o0_3 : List Int) (kb : List (Nat × AVal) → List Obj → Option R) (x : Int × Int) : codeK (x6 N) (loopAt 29 (loopsOf b6)) (St.of [(18, (.data (.int .i64) x.1)), (17, (.data (.int .i64) x.2)), (105, (.ref 0 [] 0)), (106, (.data (.int .i64) t106_1)), (107, (.data (.int .i64) t107_1)), (14, (.data (.int .i64) t14_1)), (13, (.data (.int .i64) t13_1))] [.row (.int .i64) o0_3 0]) (kLoop (x6 N) 29 ⟨[18, 17, 105, 106, 107, 14, 13], []⟩ kb k) = f6_L29 N t106_1 t107_1 t14_1 t13_1 o0_3 (fun y => kb [(18, (.data (.int .i64) y.1)), (17, (.data (.int .i64) y.2)), (105, (.ref 0 [] 0)), (106, (.data (.int .i64) t106_1)), (107, (.data (.int .i64) t107_1)), (14, (.data (.int .i64) t14_1)), (13, (.data (.int .i64) t13_1))] [.row (.int .i64) o0_3 0])
    (fun y2 => k (.exit 4) (St.of [(105, (.ref 0 [] 0)), (106, (.data (.int .i64) t106_1)), (107, (.data (.int .i64) t107_1)), (17, (.data (.int .i64) y2)), (14, (.data (.int .i64) t14_1)), (13, (.data (.int .i64) t13_1))] [.row (.int .i64) o0_3 0])) x := by kernel_rfl
theorem l6_29 (N : Nat) : LoopOK (x6 N) (loopAt 29 (loopsOf b6)) :=
  loop_mk (G6_29 N) (by kernel_rfl) (by kernel_rfl) (by kernel_rfl) fun R k d =>
    loop_eq (st := fun (x : Int × Int) => ([(18, (.data (.int .i64) x.1)), (17, (.data (.int .i64) x.2)), (105, (.ref 0 [] 0)), (106, (.data (.int .i64) d.1.2.2.2.1)), (107, (.data (.int .i64) d.1.2.2.2.2.1)), (14, (.data (.int .i64) d.1.2.2.2.2.2.1)), (13, (.data (.int .i64) d.1.2.2.2.2.2.2.1))], [.row (.int .i64) d.2.1 0])) (s6_29 N k d.1.2.2.2.1 d.1.2.2.2.2.1 d.1.2.2.2.2.2.1 d.1.2.2.2.2.2.2.1 d.2.1) N (d.1.1, d.1.2.1)
theorem s6_23 (N : Nat) {R : Type} (k : AExit → St → Option R) (t106 : Int) (o0_2 : List Int) (kb : List (Nat × AVal) → List Obj → Option R) (x : Int × Int × Int) : codeK (x6 N) (loopAt 23 (loopsOf b6)) (St.of [(107, (.data (.int .i64) x.1)), (14, (.data (.int .i64) x.2.1)), (13, (.data (.int .i64) x.2.2)), (105, (.ref 0 [] 0)), (106, (.data (.int .i64) t106))] [.row (.int .i64) o0_2 0]) (kLoop (x6 N) 23 ⟨[107, 14, 13, 105, 106], []⟩ kb k) = f6_L23 N t106 o0_2 (fun y => kb [(107, (.data (.int .i64) y.1)), (14, (.data (.int .i64) y.2.1)), (13, (.data (.int .i64) y.2.2)), (105, (.ref 0 [] 0)), (106, (.data (.int .i64) t106))] [.row (.int .i64) o0_2 0])
    (fun y0 => k .ret (St.of [(4, (.data .bool y0))] []))
    (fun y0 y1 => k (.exit 2) (St.of [(14, (.data (.int .i64) y0)), (13, (.data (.int .i64) y1))] [])) x := by kernel_rfl
theorem l6_23 (N : Nat) : LoopOK (x6 N) (loopAt 23 (loopsOf b6)) :=
  loop_mk (G6_23 N) (by kernel_rfl) (by kernel_rfl) (by kernel_rfl) fun R k d =>
    loop_eq (st := fun (x : Int × Int × Int) => ([(107, (.data (.int .i64) x.1)), (14, (.data (.int .i64) x.2.1)), (13, (.data (.int .i64) x.2.2)), (105, (.ref 0 [] 0)), (106, (.data (.int .i64) d.1.2.2.2.2.1))], [.row (.int .i64) d.2.1 0])) (s6_23 N k d.1.2.2.2.2.1 d.2.1) N (d.1.1, d.1.2.1, d.1.2.2.1)
theorem e6 (N : Nat) (a0 : (Int × (List (List Int) × Unit))) (a1 : List (Int × (List Int × Unit))) : bodyK (x6 N) [.bool] [.tmp 4] b6 (entry (.pr (.val (.pair (.int .i64) (.pair (.sl false (.sl false (.int .i64))) .unit))) (.pr (.val (.sl false (.pair (.int .i64) (.pair (.sl false (.int .i64)) .unit)))) .un)) (a0, (a1, ()))) = f6 N a0 a1 := by kernel_rfl
theorem k6 (N : Nat) : CalleeOK Go.Proofs.Try.prog 6 (c6 N) :=
  fn_ok (fn := Go.Proofs.Try.f6) (body := b6) (c := x6 N) Go.Proofs.Try.func6 (by kernel_rfl) (by kernel_rfl) ⟨ttL_ok, mtL_ok, eqL_ok, env_cons (forall_mem1 (k12 N)) (env_cons (forall_mem1 (k13 N)) (env_cons (forall_mem1 (k14 N)) (env_cons (forall_mem1 (k15 N)) (env_cons (forall_mem1 (k25 N)) (env_cons (forall_mem1 (k26 N)) (env_cons (forall_mem1 (k27 N)) (env_nil)))))))⟩ mixed (by kernel_rfl) (Nat.le_of_ble_eq_true (by kernel_rfl)) (by kernel_rfl) (by decide)
    (loops_ok (by kernel_rfl : loopsOf b6 = [loopAt 11 (loopsOf b6), loopAt 23 (loopsOf b6), loopAt 29 (loopsOf b6)]) (.cons (l6_11 N) (.cons (l6_23 N) (.cons (l6_29 N) .nil)))) fun d => e6 N d.1 d.2.1

end Go.Kz
