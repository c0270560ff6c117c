/-
  The join of two partitions: what the program computes, and what the reference does.
-/
import Derived.Test.YtoccnkcnkcngjaaKzM6
set_option linter.unusedVariables false
set_option linter.unusedSimpArgs false
namespace Go.Kz

structure IsJoin (n : Nat) (a b m : List Int) : Prop where
  ok : okP m = true
  len : m.length = n
  l : le n a m
  r : le n b m
  least : ∀ c, le n a c → le n b c → le n m c
theorem IsJoin.unique {n : Nat} {a b m k : List Int} (h : IsJoin n a b m) (g : IsJoin n a b k) : m = k := by
  refine le_antisymm h.ok g.ok (by rw [h.len, g.len]) ?_ ?_
  · rw [h.len]; exact h.least k g.l g.r
  · rw [h.len]; exact g.least m h.l h.r
theorem isJoin_ofL {n : Nat} {a b l : List Int} (hl : l.length = n) (h1 : le n a l) (h2 : le n b l) (h3 : ∀ c, le n a c → le n b c → le n l c) : IsJoin n a b (ofL l) := by
  subst hl
  exact ⟨okP_ofL l, ofL_len l, le_trans h1 (le_ofL l), le_trans h2 (le_ofL l), fun c k1 k2 => le_trans (ofL_le l) (h3 c k1 k2)⟩

theorem natI {x y : Nat} (h : some (x : Int) = some (y : Int)) : x = y := by have := Option.some.inj h; omega
/-- The root of x. -/
inductive Rt (r : List Int) : Nat → Nat → Prop
  | base {x : Nat} : r[x]? = some (x : Int) → Rt r x x
  | step {x z y : Nat} : r[x]? = some (z : Int) → z ≠ x → Rt r z y → Rt r x y
def Sh (n : Nat) (r : List Int) : Prop := r.length = n ∧ ∀ i, i < n → ∃ z : Nat, r[i]? = some (z : Int) ∧ z ≤ i
theorem Sh.root {n : Nat} {r : List Int} (h : Sh n r) : ∀ x, x < n → ∃ y, Rt r x y := by
  intro x
  induction x using Nat.strongRecOn with
  | _ x ih =>
    intro hx
    obtain ⟨z, hz, hle⟩ := h.2 x hx
    by_cases he : z = x
    · subst he; exact ⟨z, .base hz⟩
    · obtain ⟨y, hy⟩ := ih z (by omega) (by omega)
      exact ⟨y, .step hz he hy⟩
theorem Rt.fix {n : Nat} {r : List Int} (h : Sh n r) {x y : Nat} (hr : Rt r x y) : x < n → r[y]? = some (y : Int) ∧ y ≤ x := by
  induction hr with
  | base e => intro _; exact ⟨e, Nat.le_refl _⟩
  | @step x z y e hne _ ih =>
    intro hx
    obtain ⟨z', hz, hle⟩ := h.2 x hx
    rw [e] at hz
    have : z = z' := natI hz
    subst this
    have := ih (by omega)
    exact ⟨this.1, by omega⟩
theorem Rt.det {r : List Int} {x y : Nat} (h : Rt r x y) : ∀ {y'}, Rt r x y' → y = y' := by
  induction h with
  | base e =>
    intro y' h'
    cases h' with
    | base _ => rfl
    | step e' hne _ => rw [e] at e'; exact absurd (natI e'.symm) hne
  | @step x z y e hne _ ih =>
    intro y' h'
    cases h' with
    | base e' => rw [e] at e'; exact absurd (natI e') hne
    | @step _ z' _ e' _ h' =>
      rw [e] at e'
      have : z = z' := natI e'
      subst this
      exact ih h'

theorem get_some {α : Type} {l : List α} {i : Nat} {x : α} (h : l[i]? = some x) : ∃ hi : i < l.length, l[i] = x := List.getElem?_eq_some_iff.1 h
theorem idx_at {l : List Int} {i : Nat} {x : Int} (h : l[i]? = some x) : idx l (i : Int) = some x := h

theorem f40_eq {N n : Nat} {r : List Int} (hn : n < N) (h : Sh n r) {x y : Nat} (hx : x < n) (hr : Rt r x y) : f40 N (x : Int) r = some (y : Int) := by
  unfold f40
  refine iter_rule (fun t : Int => ∃ z : Nat, t = (z : Int) ∧ z < n ∧ Rt r z y) (fun t => t.toNat) ?_ N _ ⟨x, rfl, hx, hr⟩ (by simp; omega)
  rintro t w ⟨z, rfl, hz, hr⟩ hw
  simp only [f40_L1]
  obtain ⟨u, hu, hle⟩ := h.2 z hz
  rw [idx_at hu]
  simp only [Option.bind_some]
  cases hr with
  | base e =>
    rw [hu] at e
    have : (u : Int) = y := by rw [natI e]
    simp [this]
  | @step _ v _ e hne hr' =>
    rw [hu] at e
    have : u = v := natI e
    subst this
    have : decide ((u : Int) = (z : Int)) = false := by simp; omega
    rw [this, Bool.not_false, cond_true]
    exact hw _ ⟨u, rfl, by omega, hr'⟩ (by simp; omega)

/-- Only what must be is held together. -/
def Snd (n : Nat) (a b r : List Int) : Prop := ∀ c : List Int, le n a c → le n b c → ∀ i, i < n → ∀ z : Nat, r[i]? = some (z : Int) → c[z]? = c[i]?
theorem Rt.snd {n : Nat} {a b r : List Int} (h : Sh n r) (hs : Snd n a b r) {c : List Int} (ha : le n a c) (hb : le n b c) {x y : Nat} (hr : Rt r x y) : x < n → c[y]? = c[x]? := by
  induction hr with
  | base _ => intro _; rfl
  | @step x z y e hne _ ih =>
    intro hx
    obtain ⟨z', hz, hle⟩ := h.2 x hx
    have e0 := e
    rw [e] at hz
    have : z = z' := natI hz
    subst this
    rw [ih (by omega), hs c ha hb x hx z e0]

theorem link_sh {n u v : Nat} {r : List Int} (h : Sh n r) (huv : u ≤ v) (hv : v < n) : Sh n (r.set v (u : Int)) := by
  refine ⟨by simp [h.1], fun i hi => ?_⟩
  by_cases he : v = i
  · subst he; exact ⟨u, by rw [List.getElem?_set_self (by rw [h.1]; omega)], huv⟩
  · rw [List.getElem?_set_ne he]; exact h.2 i hi
theorem link_rt {n u v : Nat} {r : List Int} (h : Sh n r) (hv : v < n) (eu : r[u]? = some (u : Int)) (ev : r[v]? = some (v : Int)) {x y : Nat} (hr : Rt r x y) :
    Rt (r.set v (u : Int)) x (if y = v then u else y) := by
  have hvl : v < r.length := by rw [h.1]; exact hv
  have hu' : Rt (r.set v (u : Int)) u u := by
    apply Rt.base
    by_cases he : v = u
    · subst he; rw [List.getElem?_set_self hvl]
    · rw [List.getElem?_set_ne he]; exact eu
  induction hr with
  | @base x e =>
    by_cases he : x = v
    · subst he
      rw [if_pos rfl]
      by_cases huv : u = x
      · subst huv; exact hu'
      · exact .step (List.getElem?_set_self hvl) huv hu'
    · rw [if_neg he]; exact .base (by rw [List.getElem?_set_ne (fun h => he h.symm)]; exact e)
  | @step x z y e hne _ ih =>
    have he : x ≠ v := by
      intro he; subst he
      rw [ev] at e
      exact hne (natI e).symm
    exact .step (by rw [List.getElem?_set_ne (fun h => he h.symm)]; exact e) hne ih
theorem link_snd {n u v : Nat} {a b r : List Int} (h : Sh n r) (hs : Snd n a b r) (hv : v < n) (hc : ∀ c, le n a c → le n b c → c[u]? = c[v]?) : Snd n a b (r.set v (u : Int)) := by
  intro c h1 h2 i hi z hz
  by_cases he : v = i
  · subst he
    rw [List.getElem?_set_self (by rw [h.1]; omega)] at hz
    have : u = z := natI hz
    subst this
    exact hc c h1 h2
  · rw [List.getElem?_set_ne he] at hz
    exact hs c h1 h2 i hi z hz

/-- Held together by r. -/
def Tog (r : List Int) (i j : Nat) : Prop := ∃ y, Rt r i y ∧ Rt r j y
/-- r holds together what p does. -/
def Jn (n : Nat) (p r : List Int) : Prop := ∀ i j, i < n → j < n → p[i]? = p[j]? → Tog r i j

theorem max_nat (x y : Nat) : maxI (x : Int) (y : Int) = ((max x y : Nat) : Int) := by simp only [maxI]; split <;> omega
theorem min_nat (x y : Nat) : minI (x : Int) (y : Int) = ((min x y : Nat) : Int) := by simp only [minI]; split <;> omega

theorem f21_layer {N n : Nat} (hN : 100 ≤ N) (hn : n ≤ 64) {a b p r t0 : List Int} {t43 t44 : Int} {o2 : List (List Int)} (hp : okP p = true) (hpl : p.length = n)
    (hpc : ∀ c, le n a c → le n b c → le n p c) (hr : Sh n r) (hs : Snd n a b r) {R : Type} {K : List Int → Option R} {res : Option R}
    (hK : ∀ r', Sh n r' → Snd n a b r' → (∀ i j, Tog r i j → Tog r' i j) → Jn n p r' → K r' = res) :
    iter (fun w => f21_L16 N t0 t43 t44 p (n : Int) r o2 w (fun o0_1 => iter (fun w => f21_L21 N p t0 t43 t44 (len p) o2 w K) N (0, o0_1, r))) N (0, List.replicate n 0) = res := by
  refine iter_for (fun k s => s.length = n ∧ ∀ i, i < k → s[i]? = (List.replicate n (-1 : Int))[i]?) n ?_ ?_ N (by omega) _ ⟨by simp, by intro i hi; omega⟩
  · rintro k s w hk ⟨hs, hi⟩ hw
    simp only [f21_L16]
    rw [dlt hk, cond_true, chk_true (inb_lt (by omega)), idx_lt (l := s) (by omega)]
    simp only [Option.bind_some]
    rw [wi64_of (by omega) (by omega), setI_nat]
    exact hw _ (set_inv hs hi hk (by simp [hk]))
  rintro s w ⟨hsl, hsi⟩
  simp only [f21_L16]
  rw [dnlt, cond_false]
  have he : s = List.replicate n (-1 : Int) := set_end hsl (by simp) hsi
  subst he
  clear hsl hsi
  refine iter_for (fun k (x : List Int × List Int) => x.1.length = n ∧ Sh n x.2 ∧ Snd n a b x.2 ∧ (∀ i j, Tog r i j → Tog x.2 i j) ∧
      (∀ c, c < n → (x.1[c]? = some (-1) ∧ ∀ i, i < k → p[i]? ≠ some (c : Int)) ∨ ∃ i, i < k ∧ x.1[c]? = some (i : Int) ∧ p[i]? = some (c : Int)) ∧
      ∀ i, i < k → ∀ c j : Nat, p[i]? = some (c : Int) → x.1[c]? = some (j : Int) → Tog x.2 i j) n ?_ ?_ N (by omega) _
    ⟨by simp, hr, hs, fun _ _ h => h, fun c hc => .inl ⟨by simp [hc], by intro i hi; omega⟩, by intro i hi; omega⟩
  · rintro k ⟨f, q⟩ w hk ⟨h1, h2, h3, h4, h5, h6⟩ hw
    simp only at h1 h2 h3 h4 h5 h6
    simp only [f21_L21]
    have hkp : k < p.length := by omega
    have hgp := get_le hp hpl hkp
    obtain ⟨c, hc⟩ := Int.eq_ofNat_of_zero_le hgp.1
    have hcn : c < n := by omega
    have hpk : p[k]? = some (c : Int) := by rw [List.getElem?_eq_getElem hkp, hc]
    rw [dlt_len hkp, cond_true, idx_at hpk]
    simp only [Option.bind_some]
    rw [chk_true (inb_lt (by omega))]
    rcases h5 c hcn with ⟨g1, g2⟩ | ⟨j, g1, g2, g3⟩
    · rw [idx_at g1]
      simp only [Option.bind_some]
      have : decide ((-1 : Int) < 0) = true := rfl
      rw [this, cond_true, chk_true (inb_lt (by omega)), wi64_of (by omega) (by omega), setI_nat]
      refine hw _ ⟨by simp [h1], h2, h3, h4, fun d hd => ?_, fun i hi d j hd hj => ?_⟩
      · by_cases hdc : c = d
        · subst hdc
          exact .inr ⟨k, by omega, by rw [List.getElem?_set_self (by omega)], hpk⟩
        · rw [List.getElem?_set_ne hdc]
          rcases h5 d hd with ⟨k1, k2⟩ | ⟨i, k1, k2, k3⟩
          · refine .inl ⟨k1, fun i hi => ?_⟩
            by_cases hik : i = k
            · subst hik; rw [hpk]; simp; omega
            · exact k2 i (by omega)
          · exact .inr ⟨i, by omega, k2, k3⟩
      · simp only at hj ⊢
        by_cases hdc : c = d
        · subst hdc
          rw [List.getElem?_set_self (by omega)] at hj
          have : k = j := natI hj
          subst this
          by_cases hik : i = k
          · subst hik
            obtain ⟨y, hy⟩ := h2.root i (by omega)
            exact ⟨y, hy, hy⟩
          · exact absurd hd (g2 i (by omega))
        · rw [List.getElem?_set_ne hdc] at hj
          have hik : i ≠ k := by
            intro hik; subst hik
            rw [hpk] at hd
            exact hdc (natI hd)
          exact h6 i (by omega) d j hd hj
    · rw [idx_at g2]
      simp only [Option.bind_some]
      have : decide ((j : Int) < 0) = false := by simp
      obtain ⟨y1, hy1⟩ := h2.root j (by omega)
      obtain ⟨y2, hy2⟩ := h2.root k hk
      obtain ⟨e1, l1⟩ := hy1.fix h2 (by omega)
      obtain ⟨e2, l2⟩ := hy2.fix h2 hk
      rw [this, cond_false, chk_true (inb_lt (by omega)), f40_eq (by omega) h2 (by omega) hy1]
      simp only [Option.bind_some]
      rw [f40_eq (by omega) h2 hk hy2]
      simp only [Option.bind_some]
      have hvn : max y1 y2 < n := by omega
      rw [max_nat, min_nat, chk_true (inb_lt (by rw [h2.1]; exact hvn)), idx_lt (l := q) (k := max y1 y2) (by rw [h2.1]; exact hvn)]
      simp only [Option.bind_some]
      rw [wi64_of (by omega) (by omega), setI_nat]
      have eu : q[min y1 y2]? = some ((min y1 y2 : Nat) : Int) := by
        rcases Nat.le_total y1 y2 with h | h
        · rw [Nat.min_eq_left h]; exact e1
        · rw [Nat.min_eq_right h]; exact e2
      have ev : q[max y1 y2]? = some ((max y1 y2 : Nat) : Int) := by
        rcases Nat.le_total y1 y2 with h | h
        · rw [Nat.max_eq_right h]; exact e2
        · rw [Nat.max_eq_left h]; exact e1
      have hsame : ∀ c0, le n a c0 → le n b c0 → c0[min y1 y2]? = c0[max y1 y2]? := by
        intro c0 k1 k2
        have s1 := hy1.snd h2 h3 k1 k2 (by omega)
        have s2 := hy2.snd h2 h3 k1 k2 hk
        have s3 := hpc c0 k1 k2 j k (by omega) hk (by rw [g3, hpk])
        rcases Nat.le_total y1 y2 with h | h
        · rw [Nat.max_eq_right h, Nat.min_eq_left h, s1, s2, s3]
        · rw [Nat.max_eq_left h, Nat.min_eq_right h, s1, s2, s3]
      have keep : ∀ i i', Tog q i i' → Tog (q.set (max y1 y2) ((min y1 y2 : Nat) : Int)) i i' := by
        rintro i i' ⟨y, ha, hb⟩
        exact ⟨_, link_rt h2 hvn eu ev ha, link_rt h2 hvn eu ev hb⟩
      refine hw _ ⟨h1, link_sh h2 (by omega) hvn, link_snd h2 h3 hvn hsame, fun i i' h => keep i i' (h4 i i' h), fun d hd => ?_, fun i hi d j' hd hj => ?_⟩
      · rcases h5 d hd with ⟨k1, k2⟩ | ⟨i, k1, k2, k3⟩
        · refine .inl ⟨k1, fun i hi => ?_⟩
          by_cases hik : i = k
          · subst hik; rw [hpk]; intro h
            have hcd : c = d := natI h
            subst hcd
            exact absurd g3 (k2 j g1)
          · exact k2 i (by omega)
        · exact .inr ⟨i, by omega, k2, k3⟩
      · simp only at hj ⊢
        by_cases hik : i = k
        · subst hik
          rw [hpk] at hd
          have : c = d := natI hd
          subst this
          rw [g2] at hj
          have : j = j' := natI hj
          subst this
          have t1 := link_rt h2 hvn eu ev hy1
          have t2 := link_rt h2 hvn eu ev hy2
          refine ⟨min y1 y2, ?_, ?_⟩
          · have : (if y2 = max y1 y2 then min y1 y2 else y2) = min y1 y2 := by split <;> omega
            rw [this] at t2; exact t2
          · have : (if y1 = max y1 y2 then min y1 y2 else y1) = min y1 y2 := by split <;> omega
            rw [this] at t1; exact t1
        · exact keep _ _ (h6 i (by omega) d j' hd hj)
  · rintro ⟨f, q⟩ w ⟨h1, h2, h3, h4, h5, h6⟩
    simp only at h1 h2 h3 h4 h5 h6
    simp only [f21_L21]
    have e0 : decide ((n : Int) < len p) = false := by simp [len]; omega
    rw [e0, cond_false]
    refine hK q h2 h3 h4 fun i j hi hj hij => ?_
    have hgp := get_le hp hpl (k := i) (by omega)
    obtain ⟨c, hc⟩ := Int.eq_ofNat_of_zero_le hgp.1
    have hpi : p[i]? = some (c : Int) := by rw [List.getElem?_eq_getElem (by omega), hc]
    rcases h5 c (by omega) with ⟨k1, k2⟩ | ⟨m, k1, k2, k3⟩
    · exact absurd hpi (k2 i hi)
    · obtain ⟨y, ya, yb⟩ := h6 i hi c m hpi k2
      obtain ⟨z, za, zb⟩ := h6 j hj c m (by rw [← hij]; exact hpi) k2
      have := yb.det zb
      subst this
      exact ⟨y, ya, za⟩

theorem f21_eq (N : Nat) (a b : List Int) (hN : 100 ≤ N) (hl : a.length ≤ 64) (hab : b.length = a.length) (ha : okP a = true) (hb : okP b = true) :
    ∃ m, f21 N a b = some (m, 0) ∧ IsJoin a.length a b m := by
  suffices h : ∀ res : Option (List Int × Int), (∀ m, IsJoin a.length a b m → some (m, 0) = res) → f21 N a b = res by
    by_cases hex : ∃ m, IsJoin a.length a b m
    · obtain ⟨m, hm⟩ := hex
      exact ⟨m, h _ fun k hk => by rw [hk.unique hm], hm⟩
    · have h1 := h none (fun m hm => absurd ⟨m, hm⟩ hex)
      have h2 := h (some ([], 0)) (fun m hm => absurd ⟨m, hm⟩ hex)
      rw [h1] at h2; simp at h2
  intro res hres
  unfold f21
  rw [f38_eq N a b hN hl (by omega), ha, hb]
  simp only [Bool.and_self, if_true, hab, Option.bind_some, decide_true, Bool.not_true, cond_false, len, List.length_replicate, Int.toNat_natCast]
  rw [chk_make hl]
  refine iter_for (fun k s => s.length = a.length ∧ ∀ i, i < k → s[i]? = some (i : Int)) a.length ?_ ?_ N (by omega) _ ⟨by simp, by intro i hi; omega⟩
  · rintro k s w hk ⟨hs, hi⟩ hw
    simp only [f21_L6]
    rw [dlt hk, cond_true, chk_true (inb_lt (by omega)), idx_lt (l := s) (by omega)]
    simp only [Option.bind_some]
    rw [wi64_of (by omega) (by omega), setI_nat]
    refine hw _ ⟨by simp [hs], fun i hi' => ?_⟩
    by_cases he : k = i
    · subst he; rw [List.getElem?_set_self (by omega)]
    · rw [List.getElem?_set_ne he]; exact hi i (by omega)
  rintro s w ⟨hsl, hsi⟩
  simp only [f21_L6]
  rw [dnlt, cond_false]
  have h0 : Sh a.length s := ⟨hsl, fun i hi => ⟨i, hsi i hi, Nat.le_refl _⟩⟩
  have h1 : Snd a.length a b s := by
    intro c _ _ i hi z hz
    rw [hsi i hi] at hz
    have : i = z := natI hz
    rw [this]
  refine iter_for (fun k q => Sh a.length q ∧ Snd a.length a b q ∧ (0 < k → Jn a.length a q) ∧ (1 < k → Jn a.length b q)) 2 ?_ ?_ N (by omega) _ ⟨h0, h1, by omega, by omega⟩
  · rintro k q v hk ⟨g1, g2, g3, g4⟩ hv
    simp only [f21_L12]
    have e1 : decide ((k : Int) < (((Nat.succ 1) : Nat) : Int)) = true := by simp; omega
    rw [e1, cond_true]
    simp only [len, List.length_replicate, Int.toNat_natCast]
    match k, hk, g3, g4, hv with
    | 0, hk, g3, g4, hv =>
      have e2 : inb [a, b] ((0 : Nat) : Int) = true := rfl
      have e3 : idx [a, b] ((0 : Nat) : Int) = some a := rfl
      rw [chk_true e2, e3]
      simp only [Option.bind_some]
      rw [chk_make hl]
      refine f21_layer hN hl (a := a) (b := b) ha rfl (fun c h _ => h) g1 g2 fun r' k1 k2 k3 k4 => ?_
      rw [wi64_of (by omega) (by omega)]
      exact hv _ ⟨k1, k2, fun _ => k4, by omega⟩
    | 1, hk, g3, g4, hv =>
      have e2 : inb [a, b] ((1 : Nat) : Int) = true := rfl
      have e3 : idx [a, b] ((1 : Nat) : Int) = some b := rfl
      rw [chk_true e2, e3]
      simp only [Option.bind_some]
      rw [chk_make hl]
      refine f21_layer hN hl (a := a) (b := b) hb hab (fun c _ h => h) g1 g2 fun r' k1 k2 k3 k4 => ?_
      rw [wi64_of (by omega) (by omega)]
      exact hv _ ⟨k1, k2, fun _ i j hi hj h => k3 i j (g3 (by omega) i j hi hj h), fun _ => k4⟩
  rintro q v ⟨g1, g2, g3, g4⟩
  simp only [f21_L12]
  have e1 : decide (((2 : Nat) : Int) < (((Nat.succ 1) : Nat) : Int)) = false := rfl
  rw [e1, cond_false, chk_make hl]
  refine iter_for (fun k s => s.length = a.length ∧ ∀ i, i < k → ∃ y : Nat, s[i]? = some (y : Int) ∧ Rt q i y) a.length ?_ ?_ N (by omega) _ ⟨by simp, by intro i hi; omega⟩
  · rintro k u v hk ⟨hs, hi⟩ hw
    simp only [f21_L31]
    obtain ⟨y, hy⟩ := g1.root k hk
    rw [dlt hk, cond_true, f40_eq (by omega) g1 hk hy]
    simp only [Option.bind_some]
    rw [chk_true (inb_lt (by omega)), idx_lt (l := u) (by omega)]
    simp only [Option.bind_some]
    rw [wi64_of (by omega) (by omega), setI_nat]
    refine hw _ ⟨by simp [hs], fun i hi' => ?_⟩
    by_cases he : k = i
    · subst he; exact ⟨y, by rw [List.getElem?_set_self (by omega)], hy⟩
    · rw [List.getElem?_set_ne he]; exact hi i (by omega)
  · rintro u v ⟨hs, hi⟩
    simp only [f21_L31]
    rw [dnlt, cond_false, f11_eq N u (by omega) (by omega)]
    simp only [Option.bind_some]
    have hj : ∀ p, Jn a.length p q → le a.length p u := by
      intro p hp i j h1 h2 h3
      obtain ⟨y, ya, yb⟩ := hp i j h1 h2 h3
      obtain ⟨y1, e1, r1⟩ := hi i h1
      obtain ⟨y2, e2, r2⟩ := hi j h2
      have := ya.det r1
      have := yb.det r2
      rw [e1, e2]; congr 2; omega
    refine hres _ (isJoin_ofL hs (hj a (g3 (by omega))) (hj b (g4 (by omega))) fun c k1 k2 i j h1 h2 h3 => ?_)
    obtain ⟨y1, e1, r1⟩ := hi i h1
    obtain ⟨y2, e2, r2⟩ := hi j h2
    rw [e1, e2] at h3
    have : y1 = y2 := natI h3
    subst this
    rw [← r1.snd g1 g2 k1 k2 h1, ← r2.snd g1 g2 k1 k2 h2]

end Go.Kz
