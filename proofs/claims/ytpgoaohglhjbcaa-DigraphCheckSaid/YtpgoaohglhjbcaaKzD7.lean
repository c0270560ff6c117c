/-
  Layer 06, plain: paths; law 3.
-/
import Derived.Test.YtpgoaohglhjbcaaKzD6
set_option linter.unusedVariables false
set_option linter.unusedSimpArgs false
namespace Go.Kz

theorem Lv.congr {E F : List (Nat × Nat)} (h : ∀ e, e ∈ E ↔ e ∈ F) {S : List Nat} : ∀ {k x}, Lv E S k x ↔ Lv F S k x
  | 0, _ => Iff.rfl
  | k + 1, x => by
    simp only [Lv]
    constructor
    · rintro (h1 | ⟨u, h1, h2⟩)
      · exact .inl ((Lv.congr h).1 h1)
      · exact .inr ⟨u, (Lv.congr h).1 h1, (h _).1 h2⟩
    · rintro (h1 | ⟨u, h1, h2⟩)
      · exact .inl ((Lv.congr h).2 h1)
      · exact .inr ⟨u, (Lv.congr h).2 h1, (h _).2 h2⟩
theorem Dist.congr {n : Nat} {E F : List (Nat × Nat)} (h : ∀ e, e ∈ E ↔ e ∈ F) {S : List Nat} {D : Nat → Int} (hd : Dist n E S D) : Dist n F S D :=
  ⟨hd.low, fun x hx h0 => (Lv.congr h).1 (hd.sound x hx h0), fun k x hx hl => hd.full k x hx ((Lv.congr h).2 hl)⟩

theorem find_hit {α : Type} {l : List α} {p : α → Bool} {k : Nat} (hk : k < l.length) (h : (l.take k).find? p = none) (hp : p l[k] = true) : l.find? p = some l[k] := by
  have e : l = l.take k ++ l[k] :: l.drop (k + 1) := by
    rw [← List.drop_eq_getElem_cons hk, List.take_append_drop]
  have : (l.take k ++ l[k] :: l.drop (k + 1)).find? p = some l[k] := by
    rw [List.find?_append, h, Option.none_or, List.find?_cons_of_pos hp]
  rw [← e] at this
  exact this
/-- The next node of the path. -/
def nxtP (D : Nat → Int) (cur v : Nat) : Bool := decide (D v = D cur - 1)
def stpP (n : Nat) (E : List (Nat × Nat)) (D : Nat → Int) (cur : Nat) : Nat := ((suc n E cur).find? (nxtP D cur)).getD cur
def wlk (n : Nat) (E : List (Nat × Nat)) (D : Nat → Int) : Nat → Nat → List Nat → List Nat
  | 0, _, acc => acc
  | m + 1, cur, acc => wlk n E D m (stpP n E D cur) (acc ++ [stpP n E D cur])
theorem stp_ok {n : Nat} {E : List (Nat × Nat)} (hN : Nod n E) {t : Nat} {D : Nat → Int} (h : Dist n (tr E) [t] D) {cur m : Nat} (hc : cur < n) (hd : D cur = ((m + 1 : Nat) : Int)) :
    ∃ v, (suc n E cur).find? (nxtP D cur) = some v ∧ v < n ∧ D v = m ∧ stpP n E D cur = v := by
  have hs := h.sound cur hc (by omega)
  rw [hd, Int.toNat_natCast] at hs
  have hu : ∃ u, u ∈ suc n E cur ∧ D u = (m : Int) := by
    rcases hs with hs | ⟨u, hu, he⟩
    · have := h.full _ cur hc hs; omega
    · have he' := mem_tr.1 he
      have hun := (hN _ he').2
      refine ⟨u, mem_suc.2 ⟨hun, he'⟩, ?_⟩
      have a := h.full _ u hun hu
      have b := h.sound u hun a.1
      have c := h.full ((D u).toNat + 1) cur hc (.inr ⟨u, b, he⟩)
      omega
  obtain ⟨u, hu, hdu⟩ := hu
  cases hf : (suc n E cur).find? (nxtP D cur) with
  | none =>
    have := List.find?_eq_none.1 hf u hu
    simp only [nxtP, decide_eq_true_eq] at this
    omega
  | some v =>
    have h1 := List.mem_of_find?_eq_some hf
    have h2 := List.find?_some hf
    simp only [nxtP, decide_eq_true_eq] at h2
    exact ⟨v, rfl, (mem_suc.1 h1).1, by omega, by unfold stpP; rw [hf]; rfl⟩
theorem d0_iff {n : Nat} {E : List (Nat × Nat)} {t : Nat} {D : Nat → Int} (h : Dist n E [t] D) {x : Nat} (hx : x < n) : D x = 0 ↔ x = t := by
  constructor
  · intro h0
    have := h.sound x hx (by omega)
    rw [h0] at this
    exact List.mem_singleton.1 this
  · rintro rfl
    have := h.full 0 x hx (List.mem_singleton.2 rfl)
    omega

theorem f15_walk {n : Nat} {E : List (Nat × Nat)} (hN : Nod n E) (hn : n ≤ 10) {t s : Nat} (hs : s < n) {D : Nat → Int} (h : Dist n (tr E) [t] D) (hd : 0 ≤ D s) {R : Type} {Q : R → Prop} {kx : List Int → Option R} (hkx : Yld (kx (il (wlk n E D (D s).toNat s [s]))) Q) :
    Yld (iter (fun w => f15_L10 5000 (nx n E) (t : Int) (dl n D) w kx) 5000 ((s : Int), il [s])) Q := by
  have hT := tr_nod hN
  have hlt : ∀ x, x < n → D x + 1 ≤ n := fun x hx => by
    by_cases ht : t < n
    · have := h.lt hT (sub1 ht) hx; omega
    · rcases h.low x hx with h1 | h1
      · omega
      · have := (Lv.lt (n := n) (k := (D x).toNat) (x := x) (S := [t]) hT · )
        exact absurd (h.sound x hx h1) fun hl => by
          have key : ∀ k y, Lv (tr E) [t] k y → y < n → False := by
            intro k
            induction k with
            | zero => intro y hy hyn; have := List.mem_singleton.1 hy; omega
            | succ k ih =>
              intro y hy hyn
              rcases hy with hy | ⟨u, hu, he⟩
              · exact ih y hy hyn
              · exact ih u hu (hT _ he).1
          exact key _ x hl hx
  refine Yld.iter (fun st => ∃ (cur : Nat) (acc : List Nat), st = ((cur : Int), il acc) ∧ cur < n ∧ 0 ≤ D cur ∧ wlk n E D (D cur).toNat cur acc = wlk n E D (D s).toNat s [s] ∧ acc.length + (D cur).toNat ≤ 20) (fun st => (D st.1.toNat).toNat) ?_ 5000 _ ⟨s, [s], rfl, hs, hd, rfl, ?_⟩ ?_
  · rintro st w ⟨cur, acc, rfl, hc, h0, hw1, hlen⟩ hw
    simp only [f15_L10]
    by_cases e : cur = t
    · subst e
      rw [d_true rfl, Bool.not_true, cond_false]
      have := (d0_iff h hc).2 rfl
      rw [this] at hw1
      rw [show wlk n E D (0 : Int).toNat cur acc = acc from rfl] at hw1
      rw [hw1]
      exact hkx
    · rw [d_false (show ¬ (cur : Int) = (t : Int) by omega), Bool.not_false, cond_true, idx_some' (nx_get hc), Option.bind_some]
      have hne : D cur ≠ 0 := fun h' => e ((d0_iff h hc).1 h')
      obtain ⟨m, hm⟩ : ∃ m : Nat, D cur = ((m + 1 : Nat) : Int) := ⟨(D cur).toNat - 1, by omega⟩
      obtain ⟨v, hf, hv, hdv, hst⟩ := stp_ok hN h hc hm
      have hcur := hlt cur hc
      have hsl := suc_len n E cur
      refine Yld.upI (fun k => ((suc n E cur).take k).find? (nxtP D cur) = none) (suc n E cur).length ?_ ?_ 5000 0 (Nat.zero_le _) (by omega) rfl
      · rintro k w2 hk hpre hw2
        simp only [f15_L12]
        have hmem := mem_suc.1 (List.getElem_mem hk)
        rw [d_true (show (k : Int) < len (il (suc n E cur)) by rw [len_eq, il_len]; omega), wi64_nat (by omega), cond_true, idx_some' (il_get hk), Option.bind_some, chk_true (inb_some (dl_get D hmem.1)), idx_some' (dl_get D hmem.1), Option.bind_some, chk_true (inb_some (dl_get D hc)), idx_some' (dl_get D hc), Option.bind_some,
          wi64_of (n := D cur - 1) (by omega) (by omega)]
        refine Yld.cond (fun hcc => ?_) fun hcc => hw2 ?_
        · have hhit := find_hit hk hpre hcc
          rw [hf] at hhit
          have hvk : v = (suc n E cur)[k] := by simpa using hhit
          rw [← hvk]
          rw [ck0 (by rw [il_len]; omega), il_app]
          refine hw (_, _) ⟨v, acc ++ [v], rfl, hv, by omega, ?_, ?_⟩ ?_
          · rw [hdv, Int.toNat_natCast, ← hw1, hm, Int.toNat_natCast]
            simp only [wlk]
            rw [hst]
          · rw [List.length_append, List.length_singleton, hdv]; omega
          · simp only [Int.toNat_natCast]
            omega
        · rw [take_succ hk, List.find?_append, hpre]
          simp only [Option.none_or, List.find?_singleton]
          rw [if_neg]
          intro h'
          rw [show nxtP D cur (suc n E cur)[k] = decide (D (suc n E cur)[k] = D cur - 1) from rfl, hcc] at h'
          cases h'
      · rintro w2 hpre
        rw [List.take_length, hf] at hpre
        cases hpre
  · have := hlt s hs
    simp only [List.length_singleton]
    omega
  · have := hlt s hs
    simp only [Int.toNat_natCast]
    omega

theorem f16_walk {n : Nat} {E : List (Nat × Nat)} (hN : Nod n E) (hn : n ≤ 10) (hl : E.length ≤ 100) {t s : Nat} (hs : s < n) (ht : t < n) {D : Nat → Int} (h : Dist n (tr E) [t] D) (hd : 0 ≤ D s) {R : Type} {Q : R → Prop} {kx : List Int → Option R} (hkx : Yld (kx (il (wlk n E D (D s).toNat s [s]))) Q) :
    Yld (iter (fun w => f16_L12 5000 (t : Int) (dl n D) (grOf n E) w kx) 5000 ((s : Int), il [s])) Q := by
  have hT := tr_nod hN
  have hlt : ∀ x, x < n → D x + 1 ≤ n := fun x hx => by
    have := h.lt hT (sub1 ht) hx; omega
  refine Yld.iter (fun st => ∃ (cur : Nat) (acc : List Nat), st = ((cur : Int), il acc) ∧ cur < n ∧ 0 ≤ D cur ∧ wlk n E D (D cur).toNat cur acc = wlk n E D (D s).toNat s [s] ∧ acc.length + (D cur).toNat ≤ 20) (fun st => (D st.1.toNat).toNat) ?_ 5000 _ ⟨s, [s], rfl, hs, hd, rfl, ?_⟩ ?_
  · rintro st w ⟨cur, acc, rfl, hc, h0, hw1, hlen⟩ hw
    simp only [f16_L12]
    by_cases e : cur = t
    · subst e
      rw [d_true rfl, Bool.not_true, cond_false]
      have := (d0_iff h hc).2 rfl
      rw [this] at hw1
      rw [show wlk n E D (0 : Int).toNat cur acc = acc from rfl] at hw1
      rw [hw1]
      exact hkx
    · rw [d_false (show ¬ (cur : Int) = (t : Int) by omega), Bool.not_false, cond_true]
      have hne : D cur ≠ 0 := fun h' => e ((d0_iff h hc).1 h')
      obtain ⟨m, hm⟩ : ∃ m : Nat, D cur = ((m + 1 : Nat) : Int) := ⟨(D cur).toNat - 1, by omega⟩
      obtain ⟨v, hf, hv, hdv, hst⟩ := stp_ok hN h hc hm
      have hcur := hlt cur hc
      refine Yld.up (fun k (o : Int) => o = ((((List.range k).filter fun b => hasE E cur b).find? (nxtP D cur)).map fun v : Nat => (v : Int)).getD (-1)) n ?_ ?_ 5000 0 (Nat.zero_le _) (by omega) _ rfl
      · rintro k o w2 hk rfl hw2
        simp only [f16_L15]
        rw [d_true (show (k : Int) < (grOf n E).1 from by show (k : Int) < (n : Int); omega), wi64_nat (by omega), cond_true]
        cases hfi : ((List.range k).filter fun b => hasE E cur b).find? (nxtP D cur) with
        | some y =>
          simp only [Option.map_some, Option.getD_some]
          rw [d_false (show ¬ (y : Int) < 0 by omega)]
          refine hw2 _ ?_
          rw [range_succ_filter, List.find?_append, hfi]
          rfl
        | none =>
          simp only [Option.map_none, Option.getD_none]
          rw [d_true (show (-1 : Int) < 0 by omega), cond_true, f45_ok hl, Option.bind_some, Option.bind_some]
          cases hE : hasE E cur k with
          | false =>
            refine hw2 _ ?_
            rw [range_succ_filter, List.find?_append, hfi, hE]
            rfl
          | true =>
            rw [cond_true, chk_true (inb_some (dl_get D hk)), idx_some' (dl_get D hk), Option.bind_some, chk_true (inb_some (dl_get D hc)), idx_some' (dl_get D hc), Option.bind_some, wi64_of (n := D cur - 1) (by omega) (by omega), Option.bind_some]
            refine Yld.cond (fun hcc => hw2 _ ?_) fun hcc => hw2 _ ?_
            · rw [range_succ_filter, List.find?_append, hfi, hE]
              simp only [Option.none_or, if_true, List.find?_singleton]
              rw [if_pos (show nxtP D cur k = true from hcc)]
              rfl
            · rw [range_succ_filter, List.find?_append, hfi, hE]
              simp only [Option.none_or, if_true, List.find?_singleton]
              rw [if_neg (by rw [show nxtP D cur k = false from hcc]; simp)]
              rfl
      · rintro o w2 rfl
        simp only [f16_L15]
        rw [d_false (show ¬ (n : Int) < (grOf n E).1 from by show ¬ (n : Int) < (n : Int); omega), cond_false]
        rw [show ((List.range n).filter fun b => hasE E cur b) = suc n E cur from rfl, hf, Option.map_some, Option.getD_some]
        rw [ck0 (by rw [il_len]; omega), il_app]
        refine hw (_, _) ⟨v, acc ++ [v], rfl, hv, by omega, ?_, ?_⟩ ?_
        · rw [hdv, Int.toNat_natCast, ← hw1, hm, Int.toNat_natCast]
          simp only [wlk]
          rw [hst]
        · rw [List.length_append, List.length_singleton, hdv]; omega
        · simp only [Int.toNat_natCast]
          omega
  · have := hlt s hs
    simp only [List.length_singleton]
    omega
  · have := hlt s hs
    simp only [Int.toNat_natCast]
    omega
theorem wlk_len (n : Nat) (E : List (Nat × Nat)) (D : Nat → Int) : ∀ m cur acc, (wlk n E D m cur acc).length = acc.length + m
  | 0, _, _ => rfl
  | m + 1, cur, acc => by
    simp only [wlk]
    rw [wlk_len, List.length_append, List.length_singleton]; omega

/-- Both paths are the same. -/
theorem path_eq {g : Gr} (hF : Fits g) (h14 : f14 5000 g = some true) (a b : Int) : ∃ l c, f15 5000 g a b = some (l, c) ∧ f16 5000 g a b = some (l, c) ∧ l.length ≤ 4000 := by
  rcases few_cases g hF with h0 | ⟨h0, h1, h2, h3⟩
  · rw [h0] at h14; cases h14
  rcases h3 with hc | ⟨hc, n, E, hs⟩
  · refine ⟨[], chkS g, ?_, ?_, by simp⟩
    · unfold f15
      rw [(bad39 _ h1 h2 hc).1, Option.bind_some, d_false hc]; rfl
    · unfold f16
      rw [h2, Option.bind_some, d_false hc]; rfl
  · obtain ⟨rfl, hN, h10, h40⟩ := hs
    have hl : E.length ≤ 100 := by omega
    have hT := tr_nod hN
    rcases nodes_cases hN h10 hl [a, b] (by simp) with ⟨c1, c2, x, hx, hb⟩ | ⟨S, hS, hSub, c1, c2⟩
    · refine ⟨[], 3, ?_, ?_, by simp⟩
      · unfold f15
        rw [c1, Option.bind_some, d_false (by omega)]; rfl
      · unfold f16
        rw [f22_0 hN h10 hl, Option.bind_some, d_true rfl, Bool.not_true, cond_false, f43_eq, Option.bind_some, f43_eq, Option.bind_some]
        show (cond (!inN n E a) (some true) (some (!inN n E b))).bind _ = _
        rw [bindc]
        have : (!inN n E a || !inN n E b) = true := by
          simp only [List.mem_cons, List.not_mem_nil, or_false] at hx
          rcases hx with rfl | rfl
          · rw [hb]; rfl
          · rw [hb]; simp
        rw [this]; rfl
    · match S, hS, hSub with
      | [s, t], hS, hSub =>
        have e1 : a = (s : Int) := (List.cons.inj hS).1
        have e2 : b = (t : Int) := (List.cons.inj (List.cons.inj hS).2).1
        subst e1 e2
        have hs : s < n := hSub s (by simp)
        have ht : t < n := hSub t (by simp)
        have hFN := smp_nod (n := n) hT
        obtain ⟨_, h40', D, rfl, hD⟩ := f40_ok hT h10 (sub1 ht) (by simp : [t].length ≤ 10)
        obtain ⟨_, h44', D', rfl, hD'⟩ := f44_ok hFN h10 (smp_len h10 _) (sub1 ht) (by simp : [t].length ≤ 10) (one_ok hFN h10 (smp_len h10 _) (sub1 ht) (by simp)).2
        have hDD : dl n D' = dl n D := (hD'.congr fun e => mem_smp hT).list hD
        rw [hDD] at h44'
        have e15 : ∃ l c, f15 5000 (grOf n E) (s : Int) (t : Int) = some (l, c) ∧ (l, c) = (if D s < 0 then (([] : List Int), (11 : Int)) else (il (wlk n E D (D s).toNat s [s]), 0)) := by
          suffices h : f15 5000 (grOf n E) (s : Int) (t : Int) = some (if D s < 0 then (([] : List Int), (11 : Int)) else (il (wlk n E D (D s).toNat s [s]), 0)) from ⟨_, _, h, rfl⟩
          refine Yld.eq ?_
          unfold f15
          rw [c1, Option.bind_some, d_true rfl, Bool.not_true, cond_false, f42_eq hl, Option.bind_some, show (grOf n E).2.1 = toL E from rfl, show (grOf n E).1 = (n : Int) from rfl, f41_eq hT h10 (by rw [tr_len]; exact hl), Option.bind_some]
          rw [show ((t : Int) :: ([] : List Int)) = il [t] from rfl, h40', Option.bind_some, chk_true (inb_some (dl_get D hs)), idx_some' (dl_get D hs), Option.bind_some]
          refine Yld.cond (fun hcc => ?_) fun hcc => ?_
          · rw [decide_eq_true_eq] at hcc
            rw [if_pos hcc]; exact Yld.ret rfl
          · rw [decide_eq_false_iff_not] at hcc
            rw [if_neg hcc, f41_eq hN h10 hl, Option.bind_some]
            exact f15_walk hN h10 hs hD (by omega) (Yld.ret rfl)
        have e16 : f16 5000 (grOf n E) (s : Int) (t : Int) = some (if D s < 0 then (([] : List Int), (11 : Int)) else (il (wlk n E D (D s).toNat s [s]), 0)) := by
          refine Yld.eq ?_
          unfold f16
          rw [f22_0 hN h10 hl, Option.bind_some, d_true rfl, Bool.not_true, cond_false, f43_eq, Option.bind_some, f43_eq, Option.bind_some]
          show Yld ((cond (!inN n E s) (some true) (some (!inN n E t))).bind _) _
          rw [bindc, inN_iff.2 (show 0 ≤ (s : Int) ∧ (s : Int) < n by omega), inN_iff.2 (show 0 ≤ (t : Int) ∧ (t : Int) < n by omega), Bool.not_true, Bool.or_self, cond_false, f27_eq hN h10 hl, Option.bind_some]
          rw [show ((grOf n (smp n (tr E)), (0 : Int)).1.1, (grOf n (smp n (tr E)), (0 : Int)).1.2) = grOf n (smp n (tr E)) from rfl, show ((t : Int) :: ([] : List Int)) = il [t] from rfl, h44', Option.bind_some, chk_true (inb_some (dl_get D hs)), idx_some' (dl_get D hs), Option.bind_some]
          refine Yld.cond (fun hcc => ?_) fun hcc => ?_
          · rw [decide_eq_true_eq] at hcc
            rw [if_pos hcc]; exact Yld.ret rfl
          · rw [decide_eq_false_iff_not] at hcc
            rw [if_neg hcc]
            exact f16_walk hN h10 hl hs ht hD (by omega) (Yld.ret rfl)
        obtain ⟨l, c, h15, hlc⟩ := e15
        refine ⟨l, c, h15, by rw [e16, ← hlc], ?_⟩
        by_cases hneg : D s < 0
        · rw [if_pos hneg] at hlc
          rw [(Prod.mk.inj hlc).1]; simp
        · rw [if_neg hneg] at hlc
          rw [(Prod.mk.inj hlc).1, il_len, wlk_len]
          have := hD.lt hT (sub1 ht) hs
          simp only [List.length_singleton]
          omega
end Go.Kz
