/-
  Layer 06, plain: cycles; law 8.
-/
import Derived.Test.YtpgoaohglhjbcaaKzD9
set_option linter.unusedVariables false
set_option linter.unusedSimpArgs false
namespace Go.Kz

theorem cnt_mem_le {n : Nat} : (m : List Nat) → (List.range n).countP (fun x => decide (x ∈ m)) ≤ m.length
  | [] => by simp
  | a :: m => by
    have ih := cnt_mem_le (n := n) m
    rw [List.length_cons]
    by_cases h : a < n ∧ a ∉ m
    · have := cnt_split (p := fun x => decide (x ∈ a :: m)) (q := fun x => decide (x ∈ m)) (n := n) a h.1 (by simp) (by simpa using h.2) fun u hu hne => by simp [hne]
      omega
    · have : (List.range n).countP (fun x => decide (x ∈ a :: m)) = (List.range n).countP (fun x => decide (x ∈ m)) := List.countP_congr fun u hu => by
        rw [List.mem_range] at hu
        simp only [List.mem_cons, decide_eq_true_eq]
        constructor
        · rintro (rfl | h')
          · exact Classical.byContradiction fun h' => h ⟨hu, h'⟩
          · exact h'
        · exact .inr
      omega
theorem all_in {n : Nat} {l : List Nat} (hd : l.Nodup) (hs : Sub n l) (hl : l.length = n) {x : Nat} (hx : x < n) : x ∈ l := by
  refine Classical.byContradiction fun h => ?_
  have h1 := pigeon hd hs
  have h2 := cnt_lt (p := fun _ => true) (q := fun x => decide (x ∈ l)) (n := n) (fun _ _ _ => rfl) x hx rfl (by simpa using h)
  have h3 := cnt_n n fun _ => true
  omega
theorem some_out {n : Nat} {l : List Nat} (hl : l.length < n) : ∃ x, x < n ∧ x ∉ l := by
  refine Classical.byContradiction fun h => ?_
  have h1 := cnt_mem_le (n := n) l
  have h2 := cnt_le (p := fun x => decide (x ∈ l)) (q := fun _ => true) (n := n) fun x hx _ => by
    simp only [decide_eq_true_eq]
    exact Classical.byContradiction fun h' => h ⟨x, hx, h'⟩
  have h3 : (List.range n).countP (fun _ => true) = n := by simp
  omega
theorem Got.take {n : Nat} {E : List (Nat × Nat)} {acc : List Nat} (h : Got n E acc) (j : Nat) : Got n E (acc.take j) := by
  intro k hk
  rw [List.length_take] at hk
  rw [List.take_take, show min k j = k from by omega, List.getElem_take]
  exact h k (by omega)
theorem Got.back {n : Nat} {E : List (Nat × Nat)} (hN : Nod n E) {acc : List Nat} (h : Got n E acc) {b : Nat} : ∀ {k x}, Lv E [b] k x → x ∈ acc → b ∈ acc
  | 0, x, hl, hx => by rw [List.mem_singleton.1 hl] at hx; exact hx
  | k + 1, x, hl, hx => by
    rcases hl with hl | ⟨u, hu, he⟩
    · exact Got.back hN h hl hx
    · exact Got.back hN h hu (h.closed hN hx he)
/-- Is there a cycle? -/
noncomputable def cyc (E : List (Nat × Nat)) : Bool := E.any fun e => rB E [e.2] e.1
theorem cyc_no {n : Nat} {E : List (Nat × Nat)} (hN : Nod n E) {fin : List Nat} (h : Got n E fin) (hl : fin.length = n) : cyc E = false := by
  unfold cyc
  rw [List.any_eq_false]
  intro e he hr
  obtain ⟨k, hk⟩ := rB_iff.1 hr
  obtain ⟨j, hj, hb⟩ := List.mem_iff_getElem.1 (all_in (h.nodup hN) (h.sub hN) hl (hN e he).2)
  have ha := h.at hN hj
  rw [hb] at ha
  exact ha.2.1 ((h.take j).back hN hk (ha.2.2 e.1 he))
theorem cyc_yes {n : Nat} {E : List (Nat × Nat)} (hN : Nod n E) {fin : List Nat} (hnone : nxtO n E fin = none) (hl : fin.length < n) : cyc E = true := by
  cases hc : cyc E with
  | true => rfl
  | false =>
    exfalso
    unfold cyc at hc
    rw [List.any_eq_false] at hc
    have key : ∀ c x, x < n → x ∉ fin → (List.range n).countP (fun y => rB E [y] x) = c → False := by
      intro c
      induction c using Nat.strongRecOn with
      | _ c ih =>
        intro x hx hxf hcx
        have hr := List.find?_eq_none.1 hnone x (List.mem_range.2 hx)
        have : ∃ u, (u, x) ∈ E ∧ u ∉ fin := by
          refine Classical.byContradiction fun h => hr ((rdy_iff hN).2 ⟨hxf, fun u hu => Classical.byContradiction fun h' => h ⟨u, hu, h'⟩⟩)
        obtain ⟨u, he, huf⟩ := this
        have hlt := cnt_lt (p := fun y => rB E [y] x) (q := fun y => rB E [y] u) (n := n) (fun y _ hy => by
          obtain ⟨k, hk⟩ := rB_iff.1 hy
          exact rB_iff.2 ⟨k + 1, .inr ⟨u, hk, he⟩⟩) x hx (rB_iff.2 ⟨0, List.mem_singleton.2 rfl⟩) (by
            have := hc (u, x) he
            simpa using this)
        exact ih _ (by omega) u (hN _ he).1 huf rfl
    obtain ⟨x, hx, hxf⟩ := some_out hl
    exact key _ x hx hxf rfl

theorem law8 (g : Gr) (hf : Ty.fits (.pair (.int .i64) (.pair (.sl false (.arr 2 (.int .i64))) .unit)) g) : f8 5000 g = some true := by
  have hF : Fits g := fun e he => (hf.2.1 e he).1
  refine Yld.eq ?_
  unfold f8
  rw [known06, Option.bind_some, Bool.not_true, cond_false]
  rcases few_cases g hF with h0 | ⟨h0, h1, h2, h3⟩
  · rw [h0]; exact Yld.ret rfl
  rw [h0, Option.bind_some, Bool.not_true, cond_false, h2, Option.bind_some]
  rcases h3 with hc | ⟨hc, n, E, hs⟩
  · rw [d_false hc]; exact Yld.ret rfl
  obtain ⟨rfl, hN, h10, h40⟩ := hs
  have hl : E.length ≤ 100 := by omega
  rw [d_true hc, Bool.not_true, Option.bind_some, cond_false]
  refine Yld.then (f18_ok hN h10 hl) ?_
  rintro r ⟨fin, hg, hnone, rfl⟩
  rw [f31_eq hN h10 hl, Option.bind_some, d_true rfl, Bool.not_true, cond_false, d_true (show len (clo n E) = (grOf n E).1 by rw [len_eq, clo_len]; rfl), Bool.not_true, Option.bind_some, cond_false]
  refine Yld.up (fun k (b : Bool) => b = (E.take k).any fun e => rB E [e.2] e.1) E.length ?_ ?_ 5000 0 (Nat.zero_le _) (by omega) _ (by simp)
  · rintro k b w hk rfl hw
    simp only [f8_L11]
    rw [d_true (show (k : Int) < len (grOf n E).2.1 by rw [len_eq]; simp only [grOf, toL_len]; omega), wi64_nat (by omega), cond_true]
    have hmem := List.getElem_mem hk
    have htk := take_succ hk
    rw [show idx (grOf n E).2.1 (k : Int) = some [(E[k].1 : Int), (E[k].2 : Int)] from toL_get hk]
    generalize he : E[k] = e at hmem htk
    have hen := hN e hmem
    rw [Option.bind_some, chk_true (show inb [(e.1 : Int), (e.2 : Int)] 1 = true from rfl), show idx [(e.1 : Int), (e.2 : Int)] 1 = some (e.2 : Int) from rfl, Option.bind_some, idx_some' (clo_get hen.2), Option.bind_some,
      d_true (show len (rch n E [e.2]) = (grOf n E).1 by rw [len_eq, rch_len]; rfl), Bool.not_true, cond_false, chk_true (show inb [(e.1 : Int), (e.2 : Int)] 1 = true from rfl), Option.bind_some, idx_some' (clo_get hen.2), Option.bind_some, chk_true (show inb [(e.1 : Int), (e.2 : Int)] 0 = true from rfl), show idx [(e.1 : Int), (e.2 : Int)] 0 = some (e.1 : Int) from rfl, Option.bind_some,
      show idx (rch n E [e.2]) (e.1 : Int) = some (rB E [e.2] e.1) from map_range_get _ hen.1, Option.bind_some, bindc]
    refine hw _ ?_
    rw [htk, List.any_append, List.any_cons]
    simp
  rintro b w rfl
  simp only [f8_L11]
  rw [d_false (show ¬ (E.length : Int) < len (grOf n E).2.1 by rw [len_eq]; simp only [grOf, toL_len]; omega), cond_false, List.take_length]
  rw [show (E.any fun e => rB E [e.2] e.1) = cyc E from rfl]
  have hlen := hg.len hN
  by_cases hlt : fin.length < n
  · rw [cyc_yes hN hnone hlt, cond_true]
    refine Yld.ret ?_
    unfold ordS
    rw [if_pos hlt]; rfl
  have hfn : fin.length = n := by omega
  rw [cyc_no hN hg hfn, cond_false]
  unfold ordS
  rw [if_neg hlt]
  dsimp only
  rw [d_true (show len (il fin) = (grOf n E).1 by rw [len_eq, il_len, hfn]; rfl)]
  try rw [d_true rfl]
  rw [Bool.not_true]
  try rw [cond_false]
  rw [Option.bind_some, cond_false, show (grOf n E).1 = (n : Int) from rfl, ckn (by omega), Int.toNat_natCast, rep_dl]
  have hnd := hg.nodup hN
  have hsub := hg.sub hN
  refine Yld.up (fun j (o : List Int) => ∃ P, o = dl n P ∧ (∀ x, x < n → x ∉ fin.take j → P x = 0) ∧ ∀ i, (h : i < fin.length) → i < j → P fin[i] = ((i + 1 : Nat) : Int)) fin.length ?_ ?_ 5000 0 (Nat.zero_le _) (by omega) _ ⟨_, rfl, fun x hx _ => rfl, fun i h hi => by omega⟩
  · rintro j o w2 hj ⟨P, rfl, hP0, hP⟩ hw2
    simp only [f8_L23]
    rw [d_true (show (j : Int) < len (il fin) by rw [len_eq, il_len]; omega), wi64_nat (by omega), cond_true, chk_true (inb_some (il_get hj)), idx_some' (il_get hj), Option.bind_some]
    have hx := hg.at hN hj
    rw [d_false (show ¬ ((fin[j] : Nat) : Int) < 0 by omega), d_false (show ¬ (grOf n E).1 ≤ ((fin[j] : Nat) : Int) by show ¬ (n : Int) ≤ ((fin[j] : Nat) : Int); omega), cond_false, Option.bind_some, cond_false, chk_true (inb_some (dl_get P hx.1)), idx_some' (dl_get P hx.1), Option.bind_some, d_true (hP0 _ hx.1 hx.2.1), Bool.not_true, Option.bind_some, cond_false,
      chk_true (inb_some (dl_get P hx.1)), Option.bind_some, Option.bind_some, dl_set]
    refine hw2 _ ⟨_, rfl, fun x hxn hxt => ?_, fun i hi hij => ?_⟩
    · rw [take_succ hj, List.mem_append, List.mem_singleton, not_or] at hxt
      rw [upF_ne P _ hxt.2]; exact hP0 x hxn hxt.1
    · by_cases e : i = j
      · subst e; rw [upF_self]; omega
      · rw [upF_ne P _ (fun e2 => ?_)]
        · exact hP i hi (by omega)
        · exact hx.2.1 (e2 ▸ mem_take hi (by omega))
  · rintro o w2 ⟨P, rfl, hP0, hP⟩
    simp only [f8_L23]
    rw [d_false (show ¬ ((fin.length : Nat) : Int) < len (il fin) by rw [len_eq, il_len]; omega), cond_false]
    refine Yld.upI (fun _ => True) E.length ?_ ?_ 5000 0 (Nat.zero_le _) (by omega) trivial
    · rintro k w3 hk _ hw3
      simp only [f8_L30]
      rw [d_true (show (k : Int) < len (grOf n E).2.1 by rw [len_eq]; simp only [grOf, toL_len]; omega), wi64_nat (by omega), cond_true]
      have hmem := List.getElem_mem hk
      rw [show idx (grOf n E).2.1 (k : Int) = some [(E[k].1 : Int), (E[k].2 : Int)] from toL_get hk]
      generalize he : E[k] = e at hmem
      have hen := hN e hmem
      rw [Option.bind_some, chk_true (show inb [(e.1 : Int), (e.2 : Int)] 0 = true from rfl), show idx [(e.1 : Int), (e.2 : Int)] 0 = some (e.1 : Int) from rfl, Option.bind_some, chk_true (inb_some (dl_get P hen.1)), idx_some' (dl_get P hen.1), Option.bind_some, chk_true (show inb [(e.1 : Int), (e.2 : Int)] 1 = true from rfl), show idx [(e.1 : Int), (e.2 : Int)] 1 = some (e.2 : Int) from rfl, Option.bind_some, chk_true (inb_some (dl_get P hen.2)), idx_some' (dl_get P hen.2), Option.bind_some]
      obtain ⟨j, hj, hb⟩ := List.mem_iff_getElem.1 (all_in hnd hsub hfn hen.2)
      have ha := hg.at hN hj
      obtain ⟨i, hi, hbi⟩ := List.mem_iff_getElem.1 (ha.2.2 e.1 (by rw [hb]; exact hmem))
      rw [List.getElem_take] at hbi
      have hi' : i < j := by simp at hi; omega
      have p1 := hP i (by omega) (by omega)
      have p2 := hP j hj hj
      rw [hbi] at p1
      rw [hb] at p2
      rw [d_false (show ¬ P e.2 ≤ P e.1 by omega)]
      exact hw3 trivial
    · rintro w3 _
      simp only [f8_L30]
      rw [d_false (show ¬ (E.length : Int) < len (grOf n E).2.1 by rw [len_eq]; simp only [grOf, toL_len]; omega)]
      exact Yld.ret rfl
end Go.Kz
