/-
  Layer 06, plain: levels; the first search by distance.
-/
import Derived.Test.YtpgoaohglhjbcaaKzD3
set_option linter.unusedVariables false
set_option linter.unusedSimpArgs false
namespace Go.Kz

theorem cnt_le {p q : Nat → Bool} : {n : Nat} → (∀ x, x < n → q x = true → p x = true) → (List.range n).countP q ≤ (List.range n).countP p
  | 0, _ => Nat.le_refl _
  | n + 1, h => by
    rw [List.range_succ, List.countP_append, List.countP_append, List.countP_singleton, List.countP_singleton]
    have := cnt_le (n := n) fun x hx => h x (by omega)
    have h2 := h n (by omega)
    by_cases hq : q n = true
    · rw [if_pos hq, if_pos (h2 hq)]; omega
    · rw [if_neg hq]; split <;> omega
theorem cnt_lt {p q : Nat → Bool} : {n : Nat} → (∀ x, x < n → q x = true → p x = true) → ∀ v, v < n → p v = true → q v = false → (List.range n).countP q + 1 ≤ (List.range n).countP p
  | 0, _, v, hv, _, _ => by omega
  | n + 1, h, v, hv, hp, hq => by
    rw [List.range_succ, List.countP_append, List.countP_append, List.countP_singleton, List.countP_singleton]
    by_cases e : v = n
    · subst e
      have := cnt_le (p := p) (q := q) (n := v) fun x hx => h x (by omega)
      rw [if_pos hp, hq, if_neg (by simp)]; omega
    · have := cnt_lt (p := p) (q := q) (n := n) (fun x hx => h x (by omega)) v (by omega) hp hq
      have h2 := h n (by omega)
      by_cases hq : q n = true
      · rw [if_pos hq, if_pos (h2 hq)]; omega
      · rw [if_neg hq]; split <;> omega
theorem cnt_n (n : Nat) (p : Nat → Bool) : (List.range n).countP p ≤ n := by
  have := List.countP_le_length (p := p) (l := List.range n)
  rwa [List.length_range] at this

/-- Reached from S in at most k steps. -/
def Lv (E : List (Nat × Nat)) (S : List Nat) : Nat → Nat → Prop
  | 0, x => x ∈ S
  | k + 1, x => Lv E S k x ∨ ∃ u, Lv E S k u ∧ (u, x) ∈ E
theorem Lv.mono {E : List (Nat × Nat)} {S : List Nat} {x k : Nat} : ∀ {m}, k ≤ m → Lv E S k x → Lv E S m x
  | 0, h, hx => by obtain rfl : k = 0 := by omega
                   exact hx
  | m + 1, h, hx => by
    by_cases e : k = m + 1
    · subst e; exact hx
    · exact .inl (Lv.mono (m := m) (by omega) hx)
def Sub (n : Nat) (S : List Nat) : Prop := ∀ x ∈ S, x < n
theorem Lv.lt {n : Nat} {E : List (Nat × Nat)} {S : List Nat} (h : Nod n E) (hS : Sub n S) : ∀ {k x}, Lv E S k x → x < n
  | 0, x, hx => hS x hx
  | k + 1, x, hx => hx.elim (fun h' => Lv.lt h hS h') fun ⟨u, _, h'⟩ => (h _ h').2
/-- D is the distance from S; -1 where there is none. -/
structure Dist (n : Nat) (E : List (Nat × Nat)) (S : List Nat) (D : Nat → Int) : Prop where
  low : ∀ x, x < n → D x = -1 ∨ 0 ≤ D x
  sound : ∀ x, x < n → 0 ≤ D x → Lv E S (D x).toNat x
  full : ∀ k x, x < n → Lv E S k x → 0 ≤ D x ∧ D x ≤ k
theorem Dist.uniq {n : Nat} {E : List (Nat × Nat)} {S : List Nat} {D D' : Nat → Int} (h : Dist n E S D) (h' : Dist n E S D') {x : Nat} (hx : x < n) : D x = D' x := by
  rcases h.low x hx with h1 | h1
  · rcases h'.low x hx with h2 | h2
    · rw [h1, h2]
    · have := h.full _ x hx (h'.sound x hx h2)
      omega
  · have a := h'.full _ x hx (h.sound x hx h1)
    have b := h.full _ x hx (h'.sound x hx a.1)
    omega
theorem Dist.gap {n : Nat} {E : List (Nat × Nat)} {S : List Nat} {D : Nat → Int} (hN : Nod n E) (hS : Sub n S) (h : Dist n E S D) : ∀ (j : Nat) (x : Nat), x < n → D x = j → j + 1 ≤ (List.range n).countP fun y => decide (0 ≤ D y ∧ D y ≤ j)
  | 0, x, hx, hd => by
    have := cnt_lt (p := fun y => decide (0 ≤ D y ∧ D y ≤ (0 : Nat))) (q := fun _ => false) (n := n) (fun _ _ h => by cases h) x hx (by simp [hd]) rfl
    omega
  | j + 1, x, hx, hd => by
    have hs := h.sound x hx (by omega)
    rw [hd, show ((j + 1 : Nat) : Int).toNat = j + 1 from by omega] at hs
    have hu : ∃ u, u < n ∧ D u = (j : Int) := by
      rcases hs with hs | ⟨u, hu, he⟩
      · have := h.full _ x hx hs; omega
      · refine ⟨u, (hN _ he).1, ?_⟩
        have a := h.full _ u (hN _ he).1 hu
        have b := h.sound u (hN _ he).1 a.1
        have c := h.full ((D u).toNat + 1) x hx (.inr ⟨u, b, he⟩)
        omega
    obtain ⟨u, hun, hu⟩ := hu
    have ih := Dist.gap hN hS h j u hun hu
    have := cnt_lt (p := fun y => decide (0 ≤ D y ∧ D y ≤ ((j + 1 : Nat) : Int))) (q := fun y => decide (0 ≤ D y ∧ D y ≤ (j : Int))) (n := n) (fun y _ hy => by simp only [decide_eq_true_eq] at hy ⊢; omega) x hx (by simp only [decide_eq_true_eq]; omega) (by simp only [decide_eq_false_iff_not]; omega)
    omega
theorem Dist.lt {n : Nat} {E : List (Nat × Nat)} {S : List Nat} {D : Nat → Int} (hN : Nod n E) (hS : Sub n S) (h : Dist n E S D) {x : Nat} (hx : x < n) : D x < n := by
  rcases h.low x hx with h1 | h1
  · omega
  · have := h.gap hN hS (D x).toNat x hx (by omega)
    have := cnt_n n fun y => decide (0 ≤ D y ∧ D y ≤ ((D x).toNat : Int))
    omega

def dl (n : Nat) (D : Nat → Int) : List Int := (List.range n).map D
def upF {α : Type} (D : Nat → α) (v : Nat) (c : α) : Nat → α := fun x => if x = v then c else D x
theorem upF_self {α : Type} (D : Nat → α) (v : Nat) (c : α) : upF D v c v = c := by simp [upF]
theorem upF_ne {α : Type} (D : Nat → α) {v x : Nat} (c : α) (h : x ≠ v) : upF D v c x = D x := by simp [upF, h]
theorem map_set_range {α : Type} {n v : Nat} (D : Nat → α) (c : α) : ((List.range n).map D).set v c = (List.range n).map (upF D v c) := by
  apply List.ext_getElem?
  intro i
  by_cases hi : i < n
  · by_cases e : v = i
    · subst e
      rw [List.getElem?_set_self (by simpa using hi), List.getElem?_map, List.getElem?_range hi]
      simp [upF_self]
    · rw [List.getElem?_set_ne e, List.getElem?_map, List.getElem?_map, List.getElem?_range hi]
      simp [upF_ne D c (Ne.symm e)]
  · rw [List.getElem?_eq_none (by simp; omega), List.getElem?_eq_none (by simp; omega)]
theorem dl_len (n : Nat) (D : Nat → Int) : (dl n D).length = n := by simp [dl]
theorem map_range_get {α : Type} {n x : Nat} (D : Nat → α) (h : x < n) : ((List.range n).map D)[x]? = some (D x) := by
  rw [List.getElem?_map, List.getElem?_range h]; rfl
theorem dl_get {n x : Nat} (D : Nat → Int) (h : x < n) : (dl n D)[x]? = some (D x) := map_range_get D h
theorem dl_set {n v : Nat} (D : Nat → Int) (c : Int) : setI (dl n D) (v : Int) c = dl n (upF D v c) := map_set_range D c
theorem dl_eq {n : Nat} {D D' : Nat → Int} (h : ∀ x, x < n → D x = D' x) : dl n D = dl n D' := List.map_congr_left fun x hx => h x (List.mem_range.1 hx)
theorem rep_dl (n : Nat) (c : Int) : List.replicate n c = dl n fun _ => c := by
  apply List.ext_getElem?
  intro i
  by_cases hi : i < n
  · rw [dl_get _ hi, List.getElem?_replicate_of_lt hi]
  · rw [List.getElem?_eq_none (by simp; omega), List.getElem?_eq_none (by simp [dl_len]; omega)]

def unl (n : Nat) (D : Nat → Int) : Nat := (List.range n).countP fun x => decide (D x < 0)
theorem unl_push {n : Nat} {D : Nat → Int} {v : Nat} {c : Int} (hv : v < n) (h : D v < 0) (hc : 0 ≤ c) : unl n (upF D v c) + 1 ≤ unl n D := by
  refine cnt_lt (fun x hx h' => ?_) v hv (by simpa using h) (by rw [upF_self]; simpa using hc)
  by_cases e : x = v
  · subst e; simpa using h
  · rwa [upF_ne D _ e] at h'


/-- What holds while the queue is worked off; V are the nodes whose turn is over. -/
structure Srch (n : Nat) (E : List (Nat × Nat)) (S : List Nat) (D : Nat → Int) (q : List Nat) : Prop where
  low : ∀ x, x < n → D x = -1 ∨ 0 ≤ D x
  sound : ∀ x, x < n → 0 ≤ D x → Lv E S (D x).toNat x
  cap : ∀ x, x < n → D x + unl n D ≤ n
  seeds : ∀ x ∈ S, D x = 0
  qlt : ∀ y ∈ q, y < n ∧ 0 ≤ D y
  asc : q.Pairwise fun x y => D x ≤ D y
  near : ∀ y ∈ q, ∀ x, x < n → D x ≤ D y + 1
  done : ∀ x, x < n → 0 ≤ D x → x ∉ q → ∀ v, (x, v) ∈ E → 0 ≤ D v ∧ D v ≤ D x + 1
/-- Within a turn: u is the node, M the successors already looked at. -/
structure Turn (n : Nat) (E : List (Nat × Nat)) (S : List Nat) (u : Nat) (M : List Nat) (D : Nat → Int) (q : List Nat) : Prop where
  low : ∀ x, x < n → D x = -1 ∨ 0 ≤ D x
  sound : ∀ x, x < n → 0 ≤ D x → Lv E S (D x).toNat x
  cap : ∀ x, x < n → D x + unl n D ≤ n
  seeds : ∀ x ∈ S, D x = 0
  ulab : 0 ≤ D u
  qlt : ∀ y ∈ q, y < n ∧ D u ≤ D y
  asc : q.Pairwise fun x y => D x ≤ D y
  near : ∀ x, x < n → D x ≤ D u + 1
  seen : ∀ v ∈ M, 0 ≤ D v
  done : ∀ x, x < n → 0 ≤ D x → x ∉ q → x ≠ u → ∀ v, (x, v) ∈ E → 0 ≤ D v ∧ D v ≤ D x + 1
theorem Srch.turn {n : Nat} {E : List (Nat × Nat)} {S : List Nat} {D : Nat → Int} {u : Nat} {q : List Nat} (h : Srch n E S D (u :: q)) : Turn n E S u [] D q where
  low := h.low
  sound := h.sound
  cap := h.cap
  seeds := h.seeds
  ulab := (h.qlt u (by simp)).2
  qlt := fun y hy => ⟨(h.qlt y (by simp [hy])).1, (List.pairwise_cons.1 h.asc).1 y hy⟩
  asc := (List.pairwise_cons.1 h.asc).2
  near := fun x hx => h.near u (by simp) x hx
  seen := fun v hv => by cases hv
  done := fun x hx h0 hq hu => h.done x hx h0 (by simp [hq, hu])
theorem Turn.skip {n : Nat} {E : List (Nat × Nat)} {S : List Nat} {D : Nat → Int} {u v : Nat} {M : List Nat} {q : List Nat} (h : Turn n E S u M D q) (hv : 0 ≤ D v) : Turn n E S u (M ++ [v]) D q :=
  ⟨h.low, h.sound, h.cap, h.seeds, h.ulab, h.qlt, h.asc, h.near, fun x hx => by
    rcases List.mem_append.1 hx with hx | hx
    · exact h.seen x hx
    · rw [List.mem_singleton] at hx; subst hx; exact hv, h.done⟩
theorem Turn.push {n : Nat} {E : List (Nat × Nat)} {S : List Nat} {D : Nat → Int} {u v : Nat} {M : List Nat} {q : List Nat} (hu : u < n) (he : (u, v) ∈ E) (hvn : v < n) (h : Turn n E S u M D q) (hv : D v < 0) : Turn n E S u (M ++ [v]) (upF D v (D u + 1)) (q ++ [v]) := by
  have huv : u ≠ v := fun e => by have := h.ulab; rw [e] at this; omega
  have hul := h.ulab
  have key : ∀ x, 0 ≤ D x → upF D v (D u + 1) x = D x := fun x hx => upF_ne D _ fun e => by subst e; omega
  have hqv : ∀ y ∈ q, upF D v (D u + 1) y = D y := fun y hy => key y (by have := (h.qlt y hy).2; omega)
  have hcap := unl_push (c := D u + 1) hvn hv (by omega)
  refine ⟨fun x hx => ?_, fun x hx h0 => ?_, fun x hx => ?_, fun x hx => ?_, ?_, fun y hy => ?_, ?_, fun x hx => ?_, fun x hx => ?_, fun x hx h0 hq hxu w hw => ?_⟩
  · by_cases e : x = v
    · subst e; rw [upF_self]; right; omega
    · rw [upF_ne D _ e]; exact h.low x hx
  · by_cases e : x = v
    · subst e
      rw [upF_self, show (D u + 1).toNat = (D u).toNat + 1 from by omega]
      exact .inr ⟨u, h.sound u hu hul, he⟩
    · rw [upF_ne D _ e] at h0 ⊢
      exact h.sound x hx h0
  · by_cases e : x = v
    · subst e
      rw [upF_self]
      have := h.cap u hu
      omega
    · rw [upF_ne D _ e]
      have := h.cap x hx
      omega
  · rw [key x (by rw [h.seeds x hx]; omega)]; exact h.seeds x hx
  · rw [key u hul]; exact hul
  · rw [key u hul]
    rcases List.mem_append.1 hy with hy | hy
    · rw [hqv y hy]; exact h.qlt y hy
    · rw [List.mem_singleton] at hy; subst hy; rw [upF_self]; exact ⟨hvn, by omega⟩
  · refine List.pairwise_append.2 ⟨List.Pairwise.imp_of_mem (fun {a b} ha hb hab => by rw [hqv a ha, hqv b hb]; exact hab) h.asc, List.pairwise_singleton _ _, fun a ha b hb => ?_⟩
    rw [List.mem_singleton] at hb
    subst hb
    rw [upF_self, hqv a ha]
    exact h.near a (h.qlt a ha).1
  · rw [key u hul]
    by_cases e : x = v
    · subst e; rw [upF_self]; omega
    · rw [upF_ne D _ e]; exact h.near x hx
  · rcases List.mem_append.1 hx with hx | hx
    · rw [key x (h.seen x hx)]; exact h.seen x hx
    · rw [List.mem_singleton] at hx; subst hx; rw [upF_self]; omega
  · have hxv : x ≠ v := fun e => hq (by simp [e])
    rw [upF_ne D _ hxv] at h0 ⊢
    have := h.done x hx h0 (fun h' => hq (by simp [h'])) hxu w hw
    rw [key w this.1]
    exact this
theorem il_app (q : List Nat) (v : Nat) : il q ++ [(v : Int)] = il (q ++ [v]) := by simp [il]

end Go.Kz
