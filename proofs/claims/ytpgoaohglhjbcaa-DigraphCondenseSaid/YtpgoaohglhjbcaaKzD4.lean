/-
  Layer 06, plain: levels; the first search by distance.
-/
import Derived.Test.YtpgoaohglhjbcaaKzD3
set_option linter.unusedVariables false
set_option linter.unusedSimpArgs false
namespace Go.Kz

theorem cnt_le {p q : Nat → Bool} : {n : Nat} → (∀ x, x < n → q x = true → p x = true) → (List.range n).countP q ≤ (List.range n).countP p
  | 0, _ => Nat.le_refl _
  | n + 1, h => by
    rw [List.range_succ, List.countP_append, List.countP_append, List.countP_singleton, List.countP_singleton]
    have := cnt_le (n := n) fun x hx => h x (by omega)
    have h2 := h n (by omega)
    by_cases hq : q n = true
    · rw [if_pos hq, if_pos (h2 hq)]; omega
    · rw [if_neg hq]; split <;> omega
theorem cnt_lt {p q : Nat → Bool} : {n : Nat} → (∀ x, x < n → q x = true → p x = true) → ∀ v, v < n → p v = true → q v = false → (List.range n).countP q + 1 ≤ (List.range n).countP p
  | 0, _, v, hv, _, _ => by omega
  | n + 1, h, v, hv, hp, hq => by
    rw [List.range_succ, List.countP_append, List.countP_append, List.countP_singleton, List.countP_singleton]
    by_cases e : v = n
    · subst e
      have := cnt_le (p := p) (q := q) (n := v) fun x hx => h x (by omega)
      rw [if_pos hp, hq, if_neg (by simp)]; omega
    · have := cnt_lt (p := p) (q := q) (n := n) (fun x hx => h x (by omega)) v (by omega) hp hq
      have h2 := h n (by omega)
      by_cases hq : q n = true
      · rw [if_pos hq, if_pos (h2 hq)]; omega
      · rw [if_neg hq]; split <;> omega
theorem cnt_n (n : Nat) (p : Nat → Bool) : (List.range n).countP p ≤ n := by
  have := List.countP_le_length (p := p) (l := List.range n)
  rwa [List.length_range] at this

/-- Reached from S in at most k steps. -/
def Lv (E : List (Nat × Nat)) (S : List Nat) : Nat → Nat → Prop
  | 0, x => x ∈ S
  | k + 1, x => Lv E S k x ∨ ∃ u, Lv E S k u ∧ (u, x) ∈ E
theorem Lv.mono {E : List (Nat × Nat)} {S : List Nat} {x k : Nat} : ∀ {m}, k ≤ m → Lv E S k x → Lv E S m x
  | 0, h, hx => by obtain rfl : k = 0 := by omega
                   exact hx
  | m + 1, h, hx => by
    by_cases e : k = m + 1
    · subst e; exact hx
    · exact .inl (Lv.mono (m := m) (by omega) hx)
def Sub (n : Nat) (S : List Nat) : Prop := ∀ x ∈ S, x < n
theorem Lv.lt {n : Nat} {E : List (Nat × Nat)} {S : List Nat} (h : Nod n E) (hS : Sub n S) : ∀ {k x}, Lv E S k x → x < n
  | 0, x, hx => hS x hx
  | k + 1, x, hx => hx.elim (fun h' => Lv.lt h hS h') fun ⟨u, _, h'⟩ => (h _ h').2
/-- D is the distance from S; -1 where there is none. -/
structure Dist (n : Nat) (E : List (Nat × Nat)) (S : List Nat) (D : Nat → Int) : Prop where
  low : ∀ x, x < n → D x = -1 ∨ 0 ≤ D x
  sound : ∀ x, x < n → 0 ≤ D x → Lv E S (D x).toNat x
  full : ∀ k x, x < n → Lv E S k x → 0 ≤ D x ∧ D x ≤ k
theorem Dist.gap {n : Nat} {E : List (Nat × Nat)} {S : List Nat} {D : Nat → Int} (hN : Nod n E) (hS : Sub n S) (h : Dist n E S D) : ∀ (j : Nat) (x : Nat), x < n → D x = j → j + 1 ≤ (List.range n).countP fun y => decide (0 ≤ D y ∧ D y ≤ j)
  | 0, x, hx, hd => by
    have := cnt_lt (p := fun y => decide (0 ≤ D y ∧ D y ≤ (0 : Nat))) (q := fun _ => false) (n := n) (fun _ _ h => by cases h) x hx (by simp [hd]) rfl
    omega
  | j + 1, x, hx, hd => by
    have hs := h.sound x hx (by omega)
    rw [hd, show ((j + 1 : Nat) : Int).toNat = j + 1 from by omega] at hs
    have hu : ∃ u, u < n ∧ D u = (j : Int) := by
      rcases hs with hs | ⟨u, hu, he⟩
      · have := h.full _ x hx hs; omega
      · refine ⟨u, (hN _ he).1, ?_⟩
        have a := h.full _ u (hN _ he).1 hu
        have b := h.sound u (hN _ he).1 a.1
        have c := h.full ((D u).toNat + 1) x hx (.inr ⟨u, b, he⟩)
        omega
    obtain ⟨u, hun, hu⟩ := hu
    have ih := Dist.gap hN hS h j u hun hu
    have := cnt_lt (p := fun y => decide (0 ≤ D y ∧ D y ≤ ((j + 1 : Nat) : Int))) (q := fun y => decide (0 ≤ D y ∧ D y ≤ (j : Int))) (n := n) (fun y _ hy => by simp only [decide_eq_true_eq] at hy ⊢; omega) x hx (by simp only [decide_eq_true_eq]; omega) (by simp only [decide_eq_false_iff_not]; omega)
    omega
theorem Dist.lt {n : Nat} {E : List (Nat × Nat)} {S : List Nat} {D : Nat → Int} (hN : Nod n E) (hS : Sub n S) (h : Dist n E S D) {x : Nat} (hx : x < n) : D x < n := by
  rcases h.low x hx with h1 | h1
  · omega
  · have := h.gap hN hS (D x).toNat x hx (by omega)
    have := cnt_n n fun y => decide (0 ≤ D y ∧ D y ≤ ((D x).toNat : Int))
    omega

def dl (n : Nat) (D : Nat → Int) : List Int := (List.range n).map D
def upF {α : Type} (D : Nat → α) (v : Nat) (c : α) : Nat → α := fun x => if x = v then c else D x
theorem upF_self {α : Type} (D : Nat → α) (v : Nat) (c : α) : upF D v c v = c := by simp [upF]
theorem upF_ne {α : Type} (D : Nat → α) {v x : Nat} (c : α) (h : x ≠ v) : upF D v c x = D x := by simp [upF, h]
theorem map_set_range {α : Type} {n v : Nat} (D : Nat → α) (c : α) : ((List.range n).map D).set v c = (List.range n).map (upF D v c) := by
  apply List.ext_getElem?
  intro i
  by_cases hi : i < n
  · by_cases e : v = i
    · subst e
      rw [List.getElem?_set_self (by simpa using hi), List.getElem?_map, List.getElem?_range hi]
      simp [upF_self]
    · rw [List.getElem?_set_ne e, List.getElem?_map, List.getElem?_map, List.getElem?_range hi]
      simp [upF_ne D c (Ne.symm e)]
  · rw [List.getElem?_eq_none (by simp; omega), List.getElem?_eq_none (by simp; omega)]
theorem dl_len (n : Nat) (D : Nat → Int) : (dl n D).length = n := by simp [dl]
theorem map_range_get {α : Type} {n x : Nat} (D : Nat → α) (h : x < n) : ((List.range n).map D)[x]? = some (D x) := by
  rw [List.getElem?_map, List.getElem?_range h]; rfl
theorem dl_get {n x : Nat} (D : Nat → Int) (h : x < n) : (dl n D)[x]? = some (D x) := map_range_get D h
theorem dl_set {n v : Nat} (D : Nat → Int) (c : Int) : setI (dl n D) (v : Int) c = dl n (upF D v c) := map_set_range D c
theorem dl_eq {n : Nat} {D D' : Nat → Int} (h : ∀ x, x < n → D x = D' x) : dl n D = dl n D' := List.map_congr_left fun x hx => h x (List.mem_range.1 hx)
theorem rep_dl (n : Nat) (c : Int) : List.replicate n c = dl n fun _ => c := by
  apply List.ext_getElem?
  intro i
  by_cases hi : i < n
  · rw [dl_get _ hi, List.getElem?_replicate_of_lt hi]
  · rw [List.getElem?_eq_none (by simp; omega), List.getElem?_eq_none (by simp [dl_len]; omega)]

def inN (n : Nat) (E : List (Nat × Nat)) (a : Int) : Bool := decide (0 ≤ a) && decide (a < (grOf n E).1)
theorem nodes_cases {n : Nat} {E : List (Nat × Nat)} (h : Nod n E) (hn : n ≤ 10) (hl : E.length ≤ 100) (A : List Int) (hA : A.length ≤ 10) :
    (f39 5000 (grOf n E) A = some 3 ∧ f53 5000 (grOf n E) A = some false ∧ ∃ a ∈ A, inN n E a = false) ∨ (∃ S, A = il S ∧ Sub n S ∧ f39 5000 (grOf n E) A = some 0 ∧ f53 5000 (grOf n E) A = some true) := by
  have e39 : f39 5000 (grOf n E) A = if A.all (inN n E) then some 0 else some 3 := by
    unfold f39
    rw [f34_0 h hn hl, Option.bind_some, d_true rfl]
    rw [Bool.not_true, cond_false]
    refine iter_allL A (inN n E) (some 0) (some 3) (fun k w hk => ?_) (fun w => ?_) 5000 (by omega)
    · simp only [f39_L5]
      rw [dlt_len hk, idx_lt hk, wi64_nat (by omega)]
      simp only [cond_true, Option.bind_some]
      rw [f52_eq]
      rw [Option.bind_some]
      show cond (!(inN n E A[k])) _ _ = _
      cases inN n E A[k] <;> rfl
    · simp only [f39_L5]
      rw [dnlt_len]; rfl
  have e53 : f53 5000 (grOf n E) A = if A.all (inN n E) then some true else some false := by
    unfold f53
    refine iter_allL A (inN n E) (some true) (some false) (fun k w hk => ?_) (fun w => ?_) 5000 (by omega)
    · simp only [f53_L2]
      rw [dlt_len hk, idx_lt hk, wi64_nat (by omega)]
      simp only [cond_true, Option.bind_some]
      rw [f43_eq]
      rw [Option.bind_some]
      show cond (!(inN n E A[k])) _ _ = _
      cases inN n E A[k] <;> rfl
    · simp only [f53_L2]
      rw [dnlt_len]; rfl
  cases ha : A.all (inN n E) with
  | false => left; rw [e39, e53, ha]; exact ⟨rfl, rfl, by simpa using List.all_eq_false.1 ha⟩
  | true =>
    right
    have hall := List.all_eq_true.1 ha
    refine ⟨A.map Int.toNat, ?_, ?_, by rw [e39, ha]; rfl, by rw [e53, ha]; rfl⟩
    · unfold il
      rw [List.map_map]
      conv => lhs; rw [← List.map_id A]
      refine List.map_congr_left fun a h1 => ?_
      have h2 := hall a h1
      simp only [inN, Bool.and_eq_true, decide_eq_true_eq] at h2
      show a = (a.toNat : Int)
      omega
    · intro x hx
      obtain ⟨a, h1, rfl⟩ := List.mem_map.1 hx
      have h2 := hall a h1
      simp only [inN, Bool.and_eq_true, decide_eq_true_eq] at h2
      have : (grOf n E).1 = (n : Int) := rfl
      omega

def unl (n : Nat) (D : Nat → Int) : Nat := (List.range n).countP fun x => decide (D x < 0)
theorem unl_push {n : Nat} {D : Nat → Int} {v : Nat} {c : Int} (hv : v < n) (h : D v < 0) (hc : 0 ≤ c) : unl n (upF D v c) + 1 ≤ unl n D := by
  refine cnt_lt (fun x hx h' => ?_) v hv (by simpa using h) (by rw [upF_self]; simpa using hc)
  by_cases e : x = v
  · subst e; simpa using h
  · rwa [upF_ne D _ e] at h'


/-- What holds while the queue is worked off; V are the nodes whose turn is over. -/
structure Srch (n : Nat) (E : List (Nat × Nat)) (S : List Nat) (D : Nat → Int) (q : List Nat) : Prop where
  low : ∀ x, x < n → D x = -1 ∨ 0 ≤ D x
  sound : ∀ x, x < n → 0 ≤ D x → Lv E S (D x).toNat x
  cap : ∀ x, x < n → D x + unl n D ≤ n
  seeds : ∀ x ∈ S, D x = 0
  qlt : ∀ y ∈ q, y < n ∧ 0 ≤ D y
  asc : q.Pairwise fun x y => D x ≤ D y
  near : ∀ y ∈ q, ∀ x, x < n → D x ≤ D y + 1
  done : ∀ x, x < n → 0 ≤ D x → x ∉ q → ∀ v, (x, v) ∈ E → 0 ≤ D v ∧ D v ≤ D x + 1
theorem Srch.dist {n : Nat} {E : List (Nat × Nat)} {S : List Nat} {D : Nat → Int} (hN : Nod n E) (hS : Sub n S) (h : Srch n E S D []) : Dist n E S D := by
  refine ⟨h.low, h.sound, fun k => ?_⟩
  induction k with
  | zero => intro x hx hl; have := h.seeds x hl; omega
  | succ k ih =>
    intro x hx hl
    rcases hl with hl | ⟨u, hu, he⟩
    · have := ih x hx hl; omega
    · have a := ih u (hN _ he).1 hu
      have b := h.done u (hN _ he).1 a.1 (by simp) x he
      omega
/-- Within a turn: u is the node, M the successors already looked at. -/
structure Turn (n : Nat) (E : List (Nat × Nat)) (S : List Nat) (u : Nat) (M : List Nat) (D : Nat → Int) (q : List Nat) : Prop where
  low : ∀ x, x < n → D x = -1 ∨ 0 ≤ D x
  sound : ∀ x, x < n → 0 ≤ D x → Lv E S (D x).toNat x
  cap : ∀ x, x < n → D x + unl n D ≤ n
  seeds : ∀ x ∈ S, D x = 0
  ulab : 0 ≤ D u
  qlt : ∀ y ∈ q, y < n ∧ D u ≤ D y
  asc : q.Pairwise fun x y => D x ≤ D y
  near : ∀ x, x < n → D x ≤ D u + 1
  seen : ∀ v ∈ M, 0 ≤ D v
  done : ∀ x, x < n → 0 ≤ D x → x ∉ q → x ≠ u → ∀ v, (x, v) ∈ E → 0 ≤ D v ∧ D v ≤ D x + 1
theorem Srch.turn {n : Nat} {E : List (Nat × Nat)} {S : List Nat} {D : Nat → Int} {u : Nat} {q : List Nat} (h : Srch n E S D (u :: q)) : Turn n E S u [] D q where
  low := h.low
  sound := h.sound
  cap := h.cap
  seeds := h.seeds
  ulab := (h.qlt u (by simp)).2
  qlt := fun y hy => ⟨(h.qlt y (by simp [hy])).1, (List.pairwise_cons.1 h.asc).1 y hy⟩
  asc := (List.pairwise_cons.1 h.asc).2
  near := fun x hx => h.near u (by simp) x hx
  seen := fun v hv => by cases hv
  done := fun x hx h0 hq hu => h.done x hx h0 (by simp [hq, hu])
theorem Turn.srch {n : Nat} {E : List (Nat × Nat)} {S : List Nat} {D : Nat → Int} {u : Nat} {M : List Nat} {q : List Nat} (hN : Nod n E) (hM : ∀ v, (u, v) ∈ E → v ∈ M) (h : Turn n E S u M D q) : Srch n E S D q where
  low := h.low
  sound := h.sound
  cap := h.cap
  seeds := h.seeds
  qlt := fun y hy => ⟨(h.qlt y hy).1, by have := (h.qlt y hy).2; have := h.ulab; omega⟩
  asc := h.asc
  near := fun y hy x hx => by have := (h.qlt y hy).2; have := h.near x hx; omega
  done := fun x hx h0 hq v he => by
    by_cases e : x = u
    · subst e
      exact ⟨h.seen v (hM v he), h.near v (hN _ he).2⟩
    · exact h.done x hx h0 hq e v he
theorem Turn.skip {n : Nat} {E : List (Nat × Nat)} {S : List Nat} {D : Nat → Int} {u v : Nat} {M : List Nat} {q : List Nat} (h : Turn n E S u M D q) (hv : 0 ≤ D v) : Turn n E S u (M ++ [v]) D q :=
  ⟨h.low, h.sound, h.cap, h.seeds, h.ulab, h.qlt, h.asc, h.near, fun x hx => by
    rcases List.mem_append.1 hx with hx | hx
    · exact h.seen x hx
    · rw [List.mem_singleton] at hx; subst hx; exact hv, h.done⟩
theorem Turn.push {n : Nat} {E : List (Nat × Nat)} {S : List Nat} {D : Nat → Int} {u v : Nat} {M : List Nat} {q : List Nat} (hu : u < n) (he : (u, v) ∈ E) (hvn : v < n) (h : Turn n E S u M D q) (hv : D v < 0) : Turn n E S u (M ++ [v]) (upF D v (D u + 1)) (q ++ [v]) := by
  have huv : u ≠ v := fun e => by have := h.ulab; rw [e] at this; omega
  have hul := h.ulab
  have key : ∀ x, 0 ≤ D x → upF D v (D u + 1) x = D x := fun x hx => upF_ne D _ fun e => by subst e; omega
  have hqv : ∀ y ∈ q, upF D v (D u + 1) y = D y := fun y hy => key y (by have := (h.qlt y hy).2; omega)
  have hcap := unl_push (c := D u + 1) hvn hv (by omega)
  refine ⟨fun x hx => ?_, fun x hx h0 => ?_, fun x hx => ?_, fun x hx => ?_, ?_, fun y hy => ?_, ?_, fun x hx => ?_, fun x hx => ?_, fun x hx h0 hq hxu w hw => ?_⟩
  · by_cases e : x = v
    · subst e; rw [upF_self]; right; omega
    · rw [upF_ne D _ e]; exact h.low x hx
  · by_cases e : x = v
    · subst e
      rw [upF_self, show (D u + 1).toNat = (D u).toNat + 1 from by omega]
      exact .inr ⟨u, h.sound u hu hul, he⟩
    · rw [upF_ne D _ e] at h0 ⊢
      exact h.sound x hx h0
  · by_cases e : x = v
    · subst e
      rw [upF_self]
      have := h.cap u hu
      omega
    · rw [upF_ne D _ e]
      have := h.cap x hx
      omega
  · rw [key x (by rw [h.seeds x hx]; omega)]; exact h.seeds x hx
  · rw [key u hul]; exact hul
  · rw [key u hul]
    rcases List.mem_append.1 hy with hy | hy
    · rw [hqv y hy]; exact h.qlt y hy
    · rw [List.mem_singleton] at hy; subst hy; rw [upF_self]; exact ⟨hvn, by omega⟩
  · refine List.pairwise_append.2 ⟨List.Pairwise.imp_of_mem (fun {a b} ha hb hab => by rw [hqv a ha, hqv b hb]; exact hab) h.asc, List.pairwise_singleton _ _, fun a ha b hb => ?_⟩
    rw [List.mem_singleton] at hb
    subst hb
    rw [upF_self, hqv a ha]
    exact h.near a (h.qlt a ha).1
  · rw [key u hul]
    by_cases e : x = v
    · subst e; rw [upF_self]; omega
    · rw [upF_ne D _ e]; exact h.near x hx
  · rcases List.mem_append.1 hx with hx | hx
    · rw [key x (h.seen x hx)]; exact h.seen x hx
    · rw [List.mem_singleton] at hx; subst hx; rw [upF_self]; omega
  · have hxv : x ≠ v := fun e => hq (by simp [e])
    rw [upF_ne D _ hxv] at h0 ⊢
    have := h.done x hx h0 (fun h' => hq (by simp [h'])) hxu w hw
    rw [key w this.1]
    exact this
theorem il_app (q : List Nat) (v : Nat) : il q ++ [(v : Int)] = il (q ++ [v]) := by simp [il]

theorem f40_fill (n : Nat) (hn : n ≤ 10) {R : Type} {Q : R → Prop} (X : List (List Int)) (Y : List Int) {kx : List Int → Option R} (hkx : Yld (kx (dl n fun _ => -1)) Q) (D : Nat → Int) :
    Yld (iter (fun w => f40_L3 5000 X Y (n : Int) w kx) 5000 (0, dl n D)) Q := by
  refine Yld.up (fun k (o : List Int) => ∃ D, o = dl n D ∧ ∀ x, x < k → D x = -1) n ?_ ?_ 5000 0 (Nat.zero_le _) (by omega) _ ⟨D, rfl, fun x hx => by omega⟩
  · rintro k o w hk ⟨D, rfl, hD⟩ hw
    simp only [f40_L3]
    rw [d_true (show (k : Int) < (n : Int) by omega), wi64_nat (by omega), chk_true (inb_some (dl_get D hk)), idx_some' (dl_get D hk), dl_set]
    refine hw _ ⟨_, rfl, fun x hx => ?_⟩
    by_cases e : x = k
    · subst e; exact upF_self _ _ _
    · rw [upF_ne D _ e]; exact hD x (by omega)
  · rintro o w ⟨D, rfl, hD⟩
    simp only [f40_L3]
    rw [d_false (show ¬ (n : Int) < (n : Int) by omega)]
    rw [dl_eq (D := D) (D' := fun _ => -1) fun x hx => hD x hx]
    exact hkx
theorem f40_seed {n : Nat} (E : List (Nat × Nat)) (hn : n ≤ 10) {S : List Nat} (hS : Sub n S) (hSl : S.length ≤ 10) {R : Type} {Q : R → Prop} (X : List (List Int)) {kx : List Int → List Int → Option R}
    (hkx : ∀ D q, Srch n E S D q → q.length ≤ n → unl n D + q.length ≤ 20 → Yld (kx (dl n D) (il q)) Q) :
    Yld (iter (fun w => f40_L9 5000 (il S) X (len (il S)) w kx) 5000 (0, ([] : List Int), dl n fun _ => -1)) Q := by
  refine Yld.up (fun k (s : List Int × List Int) => ∃ D q, s = (il q, dl n D) ∧ (∀ x, x < n → D x = -1 ∨ (D x = 0 ∧ x ∈ S)) ∧ (∀ x ∈ S.take k, D x = 0) ∧ (∀ x, x ∈ q ↔ x < n ∧ D x = 0) ∧ unl n D + q.length ≤ n) S.length ?_ ?_ 5000 0 (Nat.zero_le _) (by omega) _ ⟨fun _ => -1, [], rfl, fun x hx => .inl rfl, fun x hx => by simp at hx, fun x => ⟨fun hx => by simp at hx, fun hx => by simp at hx⟩, cnt_n n _⟩
  · rintro k s w hk ⟨D, q, rfl, h1, h2, h3, h4⟩ hw
    simp only [f40_L9]
    have hkn := hS _ (List.getElem_mem hk)
    have hkl : k < (il S).length := by rw [il_len]; exact hk
    rw [d_true (show (k : Int) < len (il S) by rw [len_eq]; omega), wi64_nat (by omega), idx_some' (il_get hk)]
    simp only [cond_true, Option.bind_some]
    generalize hv : S[k] = v at hkn
    have hvS : v ∈ S := by rw [← hv]; exact List.getElem_mem hk
    rw [chk_true (inb_some (dl_get D hkn)), idx_some' (dl_get D hkn)]
    simp only [Option.bind_some]
    rw [chk_true (inb_some (dl_get D hkn)), dl_set, ck0 (by rw [il_len]; omega), il_app]
    refine Yld.cond (fun hc => ?_) fun hc => ?_
    · rw [decide_eq_true_eq] at hc
      refine hw (_, _) ⟨_, _, rfl, fun x hx => ?_, fun x hx => ?_, fun x => ?_, ?_⟩
      · by_cases e : x = v
        · subst e; rw [upF_self]; exact .inr ⟨rfl, hvS⟩
        · rw [upF_ne D _ e]; exact h1 x hx
      · rw [take_succ hk, hv] at hx
        by_cases e : x = v
        · subst e; exact upF_self _ _ _
        · rw [upF_ne D _ e]
          exact h2 x ((List.mem_append.1 hx).elim id fun h => absurd (List.mem_singleton.1 h) e)
      · rw [List.mem_append, List.mem_singleton, h3]
        by_cases e : x = v
        · subst e; rw [upF_self]; exact ⟨fun _ => ⟨hkn, rfl⟩, fun _ => .inr rfl⟩
        · rw [upF_ne D _ e]; simp [e]
      · have := unl_push (c := 0) hkn hc (by omega)
        rw [List.length_append, List.length_singleton]; omega
    · rw [decide_eq_false_iff_not] at hc
      refine hw (_, _) ⟨_, _, rfl, h1, fun x hx => ?_, h3, h4⟩
      rw [take_succ hk, hv] at hx
      rcases List.mem_append.1 hx with hx | hx
      · exact h2 x hx
      · rw [List.mem_singleton] at hx
        subst hx
        rcases h1 x hkn with h | h
        · omega
        · exact h.1
  · rintro s w ⟨D, q, rfl, h1, h2, h3, h4⟩
    simp only [f40_L9]
    rw [d_false (show ¬ ((S.length : Nat) : Int) < len (il S) by rw [len_eq, il_len]; omega)]
    rw [List.take_length] at h2
    refine hkx D q ⟨fun x hx => ?_, fun x hx h0 => ?_, fun x hx => ?_, h2, fun y hy => ?_, ?_, fun y hy x hx => ?_, fun x hx h0 hq => ?_⟩ (by omega) (by omega)
    · rcases h1 x hx with h | h <;> omega
    · rcases h1 x hx with h | h
      · omega
      · rw [h.1]; exact h.2
    · rcases h1 x hx with h | h <;> omega
    · have := (h3 y).1 hy; omega
    · exact List.Pairwise.imp_of_mem (fun {a b} ha hb _ => by have := (h3 a).1 ha; have := (h3 b).1 hb; omega) (List.pairwise_of_forall (R := fun _ _ => True) fun _ _ => trivial)
    · have := (h3 y).1 hy
      rcases h1 x hx with h | h <;> omega
    · refine absurd ((h3 x).2 ⟨hx, ?_⟩) hq
      rcases h1 x hx with h | h
      · omega
      · exact h.1
theorem f40_ok {n : Nat} {E : List (Nat × Nat)} (hN : Nod n E) (hn : n ≤ 10) {S : List Nat} (hS : Sub n S) (hSl : S.length ≤ 10) : Yld (f40 5000 (nx n E) (il S)) fun r => ∃ D, r = dl n D ∧ Dist n E S D := by
  unfold f40
  have e0 : len (nx n E) = (n : Int) := by rw [len_eq, nx_len]
  rw [e0, ckn (by omega), Int.toNat_natCast, show len (List.replicate n (0 : Int)) = (n : Int) from by rw [len_eq, List.length_replicate], rep_dl]
  refine f40_fill n hn _ _ ?_ _
  refine f40_seed E hn hS hSl _ fun D q h hq hu => ?_
  refine Yld.iter (fun s => ∃ D q, s = (dl n D, il q) ∧ Srch n E S D q ∧ unl n D + q.length ≤ 20) (fun s => ((s.1.countP fun x => decide (x < 0)) + s.2.length)) ?_ 5000 _ ⟨D, q, rfl, h, hu⟩ ?_
  · rintro s w ⟨D, q, rfl, h, hu⟩ hw
    simp only [f40_L15]
    cases q with
    | nil =>
      rw [d_false (show ¬ 0 < len (il []) by simp [len_eq, il])]
      exact Yld.ret ⟨D, rfl, h.dist hN hS⟩
    | cons u q =>
      have hun := (h.qlt u (by simp)).1
      rw [d_true (show 0 < len (il (u :: q)) by rw [len_eq, il_len, List.length_cons]; omega), chk_true (show inb (il (u :: q)) 0 = true from inb_lt (k := 0) (by rw [il_len, List.length_cons]; omega)), show idx (il (u :: q)) 0 = some (u : Int) from rfl]
      simp only [cond_true, Option.bind_some]
      rw [chk_true (by simp only [Bool.and_eq_true, decide_eq_true_eq, len_eq, il_len, List.length_cons]; omega), idx_some' (nx_get hun), show sub (il (u :: q)) 1 (len (il (u :: q))) = il q from by
        unfold sub
        rw [len_eq, il_len, show (1 : Int).toNat = 1 from rfl, Int.toNat_natCast, List.length_cons]
        rw [show (il (u :: q)).drop 1 = il q from rfl, List.take_of_length_le (by rw [il_len]; omega)]]
      simp only [Option.bind_some]
      refine Yld.up (fun k (s : List Int × List Int) => ∃ D' q', s = (il q', dl n D') ∧ Turn n E S u ((suc n E u).take k) D' q' ∧ unl n D' + q'.length ≤ unl n D + q.length) (suc n E u).length ?_ ?_ 5000 0 (Nat.zero_le _) (by have := suc_len n E u; omega) _ ⟨D, q, rfl, h.turn, Nat.le_refl _⟩
      · rintro k s w2 hk ⟨D', q', rfl, ht, hu'⟩ hw2
        simp only [f40_L19]
        rw [d_true (show (k : Int) < len (il (suc n E u)) by rw [len_eq, il_len]; omega), wi64_nat (by have := suc_len n E u; omega), idx_some' (il_get hk)]
        simp only [cond_true, Option.bind_some]
        have hmem := mem_suc.1 (List.getElem_mem hk)
        have htk := take_succ hk
        generalize hv : (suc n E u)[k] = v at hmem htk
        rw [chk_true (inb_some (dl_get D' hmem.1)), idx_some' (dl_get D' hmem.1)]
        simp only [Option.bind_some]
        rw [chk_true (inb_some (dl_get D' hun)), idx_some' (dl_get D' hun)]
        simp only [Option.bind_some]
        rw [chk_true (inb_some (dl_get D' hmem.1))]
        simp only [List.length_cons] at hu
        rw [ck0 (by rw [il_len]; omega), il_app]
        refine Yld.cond (fun hc => ?_) fun hc => ?_
        · rw [decide_eq_true_eq] at hc
          have hnear := ht.near u hun
          have hq0 := ht.cap u hun
          rw [wi64_of (n := D' u + 1) (by have := ht.ulab; omega) (by omega), dl_set]
          refine hw2 (_, _) ⟨_, _, rfl, ?_, ?_⟩
          · rw [htk]; exact ht.push hun hmem.2 hmem.1 hc
          · have := unl_push (c := D' u + 1) hmem.1 hc (by have := ht.ulab; omega)
            rw [List.length_append, List.length_singleton]; omega
        · rw [decide_eq_false_iff_not] at hc
          refine hw2 (_, _) ⟨_, _, rfl, ?_, hu'⟩
          rw [htk]; exact ht.skip (by omega)
      · rintro s w2 ⟨D', q', rfl, ht, hu'⟩
        simp only [f40_L19]
        rw [d_false (show ¬ ((suc n E u).length : Int) < len (il (suc n E u)) by rw [len_eq, il_len]; omega)]
        rw [List.take_length] at ht
        simp only [List.length_cons] at hu
        refine hw (_, _) ⟨D', q', rfl, ht.srch hN fun v he => mem_suc.2 ⟨(hN _ he).2, he⟩, by omega⟩ ?_
        have ec : ∀ D : Nat → Int, ((dl n D).countP fun x => decide (x < 0)) = unl n D := fun D => by unfold dl unl; rw [List.countP_map]; rfl
        simp only [ec, il_len, List.length_cons]
        omega
  · have ec : ∀ D : Nat → Int, ((dl n D).countP fun x => decide (x < 0)) = unl n D := fun D => by unfold dl unl; rw [List.countP_map]; rfl
    simp only [ec, il_len]
    omega
end Go.Kz
