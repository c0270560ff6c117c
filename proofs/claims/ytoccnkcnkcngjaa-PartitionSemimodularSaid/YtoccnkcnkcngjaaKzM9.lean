/-
  The laws of the lattice and of the order.
-/
import Derived.Test.YtoccnkcnkcngjaaKzM8
set_option linter.unusedVariables false
set_option linter.unusedSimpArgs false
namespace Go.Kz

theorem sub_zero {l : List Int} {n : Nat} : sub l 0 (n : Int) = l.take n := by simp [sub]
theorem f16_eq (N : Nat) (a b c : List Int) (hN : 100 ≤ N) : ∃ n x y z, n ≤ 24 ∧ f16 N a b c = some (x, y, z) ∧ okP x = true ∧ okP y = true ∧ okP z = true ∧ x.length = n ∧ y.length = n ∧ z.length = n := by
  have hm : minI (minI (minI (len a) (len b)) (len c)) 24 = ((min (min (min a.length b.length) c.length) 24 : Nat) : Int) := by
    have : (24 : Int) = ((24 : Nat) : Int) := rfl
    rw [this]
    simp only [len, min_nat]
  obtain ⟨k, hk⟩ : ∃ k, k = min (min (min a.length b.length) c.length) 24 := ⟨_, rfl⟩
  rw [← hk] at hm
  have h1 : k ≤ a.length := by omega
  have h2 : k ≤ b.length := by omega
  have h3 : k ≤ c.length := by omega
  refine ⟨k, ofL (a.take k), ofL (b.take k), ofL (c.take k), by omega, ?_, okP_ofL _, okP_ofL _, okP_ofL _, ?_, ?_, ?_⟩
  · unfold f16
    rw [hm]
    rw [chk_true (by simp [len]; omega), chk_true (by simp [len]; omega), chk_true (by simp [len]; omega), sub_zero, sub_zero, sub_zero,
      f13_eq N _ (by simp; omega) (by simp; omega), f13_eq N _ (by simp; omega) (by simp; omega), f13_eq N _ (by simp; omega) (by simp; omega)]
    rfl
  · rw [ofL_len]; simp; omega
  · rw [ofL_len]; simp; omega
  · rw [ofL_len]; simp; omega

/-- A partition of n things. -/
def Pn (n : Nat) (p : List Int) : Prop := okP p = true ∧ p.length = n
theorem IsMeet.pn {n : Nat} {a b m : List Int} (h : IsMeet n a b m) : Pn n m := ⟨h.ok, h.len⟩
theorem IsJoin.pn {n : Nat} {a b m : List Int} (h : IsJoin n a b m) : Pn n m := ⟨h.ok, h.len⟩
theorem IsMeet.l {n : Nat} {a b m : List Int} (h : IsMeet n a b m) : le n m a := fun i j h1 h2 h3 => ((h.pat i j h1 h2).1 h3).1
theorem IsMeet.r {n : Nat} {a b m : List Int} (h : IsMeet n a b m) : le n m b := fun i j h1 h2 h3 => ((h.pat i j h1 h2).1 h3).2
theorem IsMeet.great {n : Nat} {a b m : List Int} (h : IsMeet n a b m) {c : List Int} (h1 : le n c a) (h2 : le n c b) : le n c m := fun i j k1 k2 k3 => (h.pat i j k1 k2).2 ⟨h1 i j k1 k2 k3, h2 i j k1 k2 k3⟩
theorem Pn.eq {n : Nat} {p q : List Int} (hp : Pn n p) (hq : Pn n q) (h1 : le n p q) (h2 : le n q p) : p = q := by
  obtain ⟨a1, rfl⟩ := hp
  exact le_antisymm a1 hq.1 hq.2 h1 h2

theorem f17_eq (N : Nat) {n : Nat} {a b : List Int} (hN : 100 ≤ N) (hn : n ≤ 24) (ha : Pn n a) (hb : Pn n b) : ∃ m, f17 N a b = some (m, true) ∧ IsMeet n a b m := by
  obtain ⟨a1, rfl⟩ := ha
  obtain ⟨b1, b2⟩ := hb
  obtain ⟨m, h1, h2⟩ := f19_ex N a b hN (by omega) b2 a1 b1
  refine ⟨m, ?_, h2⟩
  unfold f17
  rw [h1]
  simp [len, h2.len]
theorem f18_eq (N : Nat) {n : Nat} {a b : List Int} (hN : 100 ≤ N) (hn : n ≤ 24) (ha : Pn n a) (hb : Pn n b) : ∃ m, f18 N a b = some (m, true) ∧ IsJoin n a b m := by
  obtain ⟨a1, rfl⟩ := ha
  obtain ⟨b1, b2⟩ := hb
  obtain ⟨m, h1, h2⟩ := f21_eq N a b hN (by omega) b2 a1 b1
  refine ⟨m, ?_, h2⟩
  unfold f18
  rw [h1]
  simp [len, h2.len]
theorem f25_eq (N : Nat) {n : Nat} {a b : List Int} (hN : 100 ≤ N) (hn : n ≤ 24) (ha : Pn n a) (hb : Pn n b) : f25 N a b = some (leB n a b) := by
  obtain ⟨a1, rfl⟩ := ha
  obtain ⟨b1, b2⟩ := hb
  unfold f25
  rw [f23_eq N a b hN (by omega) b2 a1 b1]
  cases leB a.length a b <;> rfl
theorem f12_pn (N : Nat) {n : Nat} {a b : List Int} (hN : 100 ≤ N) (hn : n ≤ 24) (ha : Pn n a) : f12 N a b = some (decide (a = b)) := f12_eq N a b (by have := ha.2; omega) (by have := ha.2; omega)
theorem f14_pn (N : Nat) {n : Nat} {a : List Int} (hN : 100 ≤ N) (hn : n ≤ 24) (ha : Pn n a) : f14 N a = some true := by
  rw [f14_eq N a (by have := ha.2; omega) (by have := ha.2; omega), ha.1]

theorem law4 (a b c : List Int) : f4 5000 a b c = some true := by
  unfold f4
  rw [f10_5000]
  obtain ⟨n, x, y, z, hn, e16, x1, y1, z1, x2, y2, z2⟩ := f16_eq 5000 a b c (by omega)
  have hx : Pn n x := ⟨x1, x2⟩
  have hy : Pn n y := ⟨y1, y2⟩
  have hz : Pn n z := ⟨z1, z2⟩
  obtain ⟨mxy, e1, mxy'⟩ := f17_eq 5000 (by omega) hn hx hy
  obtain ⟨myx, e2, myx'⟩ := f17_eq 5000 (by omega) hn hy hx
  obtain ⟨jxy, e3, jxy'⟩ := f18_eq 5000 (by omega) hn hx hy
  obtain ⟨jyx, e4, jyx'⟩ := f18_eq 5000 (by omega) hn hy hx
  obtain ⟨myz, e5, myz'⟩ := f17_eq 5000 (by omega) hn hy hz
  obtain ⟨jyz, e6, jyz'⟩ := f18_eq 5000 (by omega) hn hy hz
  obtain ⟨m1, e7, m1'⟩ := f17_eq 5000 (by omega) hn mxy'.pn hz
  obtain ⟨m2, e8, m2'⟩ := f17_eq 5000 (by omega) hn hx myz'.pn
  obtain ⟨j1, e9, j1'⟩ := f18_eq 5000 (by omega) hn jxy'.pn hz
  obtain ⟨j2, e10, j2'⟩ := f18_eq 5000 (by omega) hn hx jyz'.pn
  obtain ⟨mxx, e11, mxx'⟩ := f17_eq 5000 (by omega) hn hx hx
  obtain ⟨jxx, e12, jxx'⟩ := f18_eq 5000 (by omega) hn hx hx
  obtain ⟨mj, e13, mj'⟩ := f17_eq 5000 (by omega) hn hx jxy'.pn
  obtain ⟨jm, e14, jm'⟩ := f18_eq 5000 (by omega) hn hx mxy'.pn
  have q1 : mxy = myx := mxy'.pn.eq myx'.pn (myx'.great mxy'.r mxy'.l) (mxy'.great myx'.r myx'.l)
  have q2 : jxy = jyx := jxy'.pn.eq jyx'.pn (jxy'.least _ jyx'.r jyx'.l) (jyx'.least _ jxy'.r jxy'.l)
  have q3 : m1 = m2 := m1'.pn.eq m2'.pn (m2'.great (le_trans m1'.l mxy'.l) (myz'.great (le_trans m1'.l mxy'.r) m1'.r)) (m1'.great (mxy'.great m2'.l (le_trans m2'.r myz'.l)) (le_trans m2'.r myz'.r))
  have q4 : j1 = j2 := j1'.pn.eq j2'.pn (j1'.least _ (jxy'.least _ j2'.l (le_trans jyz'.l j2'.r)) (le_trans jyz'.r j2'.r)) (j2'.least _ (le_trans jxy'.l j1'.l) (jyz'.least _ (le_trans jxy'.r j1'.l) j1'.r))
  have q5 : mxx = x := mxx'.pn.eq hx mxx'.l (mxx'.great (le_refl _ _) (le_refl _ _))
  have q6 : jxx = x := jxx'.pn.eq hx (jxx'.least _ (le_refl _ _) (le_refl _ _)) jxx'.l
  have q7 : mj = x := mj'.pn.eq hx mj'.l (mj'.great (le_refl _ _) jxy'.l)
  have q8 : jm = x := jm'.pn.eq hx (jm'.least _ (le_refl _ _) mxy'.l) jm'.l
  simp only [Option.bind_some, Bool.not_true, cond_false, e16, e1, e2, e3, e4, f12_pn 5000 (by omega) hn mxy'.pn, q1, decide_true, f12_pn 5000 (by omega) hn jxy'.pn, q2, e5, e6,
    f14_pn 5000 (by omega) hn myx'.pn, f14_pn 5000 (by omega) hn jyx'.pn, f14_pn 5000 (by omega) hn myz'.pn, f14_pn 5000 (by omega) hn jyz'.pn]
  rw [q1] at e7 e14
  rw [q2] at e9 e13
  simp only [Option.bind_some, Bool.not_true, cond_false, e7, e8, e9, e10, f12_pn 5000 (by omega) hn m1'.pn, f12_pn 5000 (by omega) hn j1'.pn, q3, q4, decide_true, e11, e12, e13, e14, cond_true,
    f12_pn 5000 (by omega) hn mxx'.pn, f12_pn 5000 (by omega) hn jxx'.pn, f12_pn 5000 (by omega) hn mj'.pn, f12_pn 5000 (by omega) hn jm'.pn, q5, q6, q7, q8]
  simp [q1, q2, q3, q4, q5, q6, q7, q8, f12_pn 5000 (by omega) hn hx, f12_pn 5000 (by omega) hn myx'.pn, f12_pn 5000 (by omega) hn jyx'.pn, f12_pn 5000 (by omega) hn m2'.pn, f12_pn 5000 (by omega) hn j2'.pn]

theorem law6 (a b c : List Int) : f6 5000 a b c = some true := by
  unfold f6
  rw [f10_5000]
  obtain ⟨n, x, y, z, hn, e16, x1, y1, z1, x2, y2, z2⟩ := f16_eq 5000 a b c (by omega)
  have hx : Pn n x := ⟨x1, x2⟩
  have hy : Pn n y := ⟨y1, y2⟩
  have hz : Pn n z := ⟨z1, z2⟩
  obtain ⟨mxy, e1, mxy'⟩ := f17_eq 5000 (by omega) hn hx hy
  obtain ⟨jxy, e3, jxy'⟩ := f18_eq 5000 (by omega) hn hx hy
  obtain ⟨m1, e7, m1'⟩ := f17_eq 5000 (by omega) hn mxy'.pn hz
  have t1 : leB n x x = true := leB_iff.2 (le_refl _ _)
  have t2 : decide (mxy = x) = leB n x y := leB_eq (by rw [decide_eq_true_iff]; exact meet_iff hx.1 hx.2 mxy')
  have t3 : decide (jxy = y) = leB n x y := leB_eq (by
    rw [decide_eq_true_iff]
    constructor
    · intro h; have := jxy'.l; rw [h] at this; exact this
    · intro h; exact jxy'.pn.eq hy (jxy'.least _ h (le_refl _ _)) jxy'.r)
  have t4 : leB n m1 mxy = true := leB_iff.2 m1'.l
  have t5 : leB n mxy x = true := leB_iff.2 mxy'.l
  have t6 : leB n mxy y = true := leB_iff.2 mxy'.r
  have t7 : leB n x jxy = true := leB_iff.2 jxy'.l
  have t8 : leB n y jxy = true := leB_iff.2 jxy'.r
  have t9 : leB n m1 jxy = true := leB_iff.2 (le_trans m1'.l (le_trans mxy'.l jxy'.l))
  simp only [Option.bind_some, Bool.not_true, cond_false, e16, e1, e3, f12_pn 5000 (by omega) hn mxy'.pn, f12_pn 5000 (by omega) hn jxy'.pn, f12_pn 5000 (by omega) hn hx,
    f25_eq 5000 (by omega) hn hx hx, f25_eq 5000 (by omega) hn hx hy, f25_eq 5000 (by omega) hn hy hx, t1, t2, t3, decide_true]
  have key : (cond (cond (leB n x y) (leB n y x) false) (!decide (x = y)) false) = false := by
    cases h1 : leB n x y with
    | false => rfl
    | true =>
      cases h2 : leB n y x with
      | false => rfl
      | true =>
        have := hx.eq hy (leB_iff.1 h1) (leB_iff.1 h2)
        simp [this]
  have key2 : (cond (leB n x y) (some (leB n y x)) (some false)) = some (cond (leB n x y) (leB n y x) false) := by cases leB n x y <;> rfl
  have key3 : ∀ u v : Bool, (cond u (some v) (some false)) = some (cond u v false) := by intro u v; cases u <;> rfl
  rw [key2]
  simp only [Option.bind_some, key3, key, cond_false, e7, f25_eq 5000 (by omega) hn m1'.pn mxy'.pn, f25_eq 5000 (by omega) hn mxy'.pn hx, f25_eq 5000 (by omega) hn mxy'.pn hy,
    f25_eq 5000 (by omega) hn hx jxy'.pn, f25_eq 5000 (by omega) hn hy jxy'.pn, f25_eq 5000 (by omega) hn m1'.pn jxy'.pn, t4, t5, t6, t7, t8, t9, Bool.not_true,
    f25_eq 5000 (by omega) hn hy hz, f25_eq 5000 (by omega) hn hx hz]
  cases h1 : leB n x y with
  | false => simp
  | true =>
    cases h2 : leB n y z with
    | false => simp
    | true =>
      have : leB n x z = true := leB_iff.2 (le_trans (leB_iff.1 h1) (leB_iff.1 h2))
      simp [this]

end Go.Kz
