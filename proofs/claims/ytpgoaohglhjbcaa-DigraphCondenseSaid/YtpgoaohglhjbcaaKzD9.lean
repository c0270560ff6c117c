/-
  Layer 06, plain: the order; law 4.
-/
import Derived.Test.YtpgoaohglhjbcaaKzD6
import Derived.Test.YtpgoaohglhjbcaaKzD8
set_option linter.unusedVariables false
set_option linter.unusedSimpArgs false
namespace Go.Kz

theorem cnt_split {p q : Nat → Bool} : {n : Nat} → ∀ v, v < n → p v = true → q v = false → (∀ u, u < n → u ≠ v → q u = p u) → (List.range n).countP p = (List.range n).countP q + 1
  | 0, v, hv, _, _, _ => by omega
  | n + 1, v, hv, hp, hq, h => by
    rw [List.range_succ, List.countP_append, List.countP_append, List.countP_singleton, List.countP_singleton]
    by_cases e : v = n
    · subst e
      have : (List.range v).countP p = (List.range v).countP q := List.countP_congr fun x hx => by
        rw [h x (by have := List.mem_range.1 hx; omega) (by have := List.mem_range.1 hx; omega)]
      rw [if_pos hp, hq, this]; rfl
    · have := cnt_split (p := p) (q := q) (n := n) v (by omega) hp hq fun u hu hne => h u (by omega) hne
      rw [this, h n (by omega) (Ne.symm e)]; omega
theorem pigeon {n : Nat} : {l : List Nat} → l.Nodup → Sub n l → l.length ≤ (List.range n).countP fun x => decide (x ∈ l)
  | [], _, _ => Nat.zero_le _
  | a :: l, hd, hs => by
    have hd' := List.nodup_cons.1 hd
    have ih := pigeon (n := n) hd'.2 fun x hx => hs x (List.mem_cons_of_mem _ hx)
    have := cnt_lt (p := fun x => decide (x ∈ a :: l)) (q := fun x => decide (x ∈ l)) (n := n) (fun x _ hx => by
      simp only [decide_eq_true_eq] at hx ⊢
      exact List.mem_cons_of_mem _ hx) a (hs a (by simp)) (by simp) (by simpa using hd'.1)
    rw [List.length_cons]
    omega
theorem pigeon' {n : Nat} {l : List Nat} (h : l.Nodup) (hs : Sub n l) : l.length ≤ n := Nat.le_trans (pigeon h hs) (cnt_n n _)
theorem Bag.le {m n : Nat} {D : Nat → Int} {P : Int → Prop} (h : Bag m D P) (hp : ∀ v, P v → 0 ≤ v ∧ v < n) : m ≤ n := by
  have hr : ∀ k, k < m → 0 ≤ D k ∧ D k < n := fun k hk => hp _ ((h.mem _).1 ⟨k, hk, rfl⟩)
  have := pigeon' (n := n) (l := (List.range m).map fun k => (D k).toNat) ?_ ?_
  · rwa [List.length_map, List.length_range] at this
  · rw [List.Nodup, List.pairwise_map]
    refine List.Pairwise.imp_of_mem (fun {a b} ha hb hab e => ?_) (range_asc m)
    rw [List.mem_range] at ha hb
    have := hr a ha
    have := hr b hb
    have := h.inj a b ha hb (by omega)
    omega
  · intro x hx
    obtain ⟨k, hk, rfl⟩ := List.mem_map.1 hx
    have := hr k (List.mem_range.1 hk)
    omega

theorem find_hitR {α : Type} {l : List α} {p : α → Bool} {k : Nat} (hk : k < l.length) (h : (l.take k).find? p = none) (hp : p l[k] = true) : l.find? p = some l[k] := by
  have e : l = l.take k ++ l[k] :: l.drop (k + 1) := by
    rw [← List.drop_eq_getElem_cons hk, List.take_append_drop]
  have : (l.take k ++ l[k] :: l.drop (k + 1)).find? p = some l[k] := by
    rw [List.find?_append, h, Option.none_or, List.find?_cons_of_pos hp]
  rw [← e] at this
  exact this
def rdy (n : Nat) (E : List (Nat × Nat)) (acc : List Nat) (v : Nat) : Bool := !(decide (v ∈ acc)) && (List.range n).all fun u => !(hasE E u v && !(decide (u ∈ acc)))
def ind (n : Nat) (E : List (Nat × Nat)) (acc : List Nat) (v : Nat) : Nat := (List.range n).countP fun u => hasE E u v && !(decide (u ∈ acc))
theorem rdy_ind {n : Nat} {E : List (Nat × Nat)} {acc : List Nat} {v : Nat} : rdy n E acc v = true ↔ v ∉ acc ∧ ind n E acc v = 0 := by
  unfold rdy ind
  rw [Bool.and_eq_true, List.countP_eq_zero, List.all_eq_true]
  constructor
  · rintro ⟨h1, h2⟩
    exact ⟨by simpa using h1, fun u hu h => by have := h2 u hu; rw [h] at this; cases this⟩
  · rintro ⟨h1, h2⟩
    refine ⟨by simpa using h1, fun u hu => ?_⟩
    have := h2 u hu
    rw [Bool.not_eq_true] at this
    rw [this]; rfl
theorem rdy_iff {n : Nat} {E : List (Nat × Nat)} (hN : Nod n E) {acc : List Nat} {v : Nat} : rdy n E acc v = true ↔ v ∉ acc ∧ ∀ u, (u, v) ∈ E → u ∈ acc := by
  unfold rdy
  rw [Bool.and_eq_true, List.all_eq_true]
  refine and_congr (by simp) ⟨fun h u he => ?_, fun h u hu => ?_⟩
  · have := h u (List.mem_range.2 (hN _ he).1)
    rw [hasE_iff.2 he] at this
    simpa using this
  · cases hh : hasE E u v with
    | false => rfl
    | true => simp [h u (hasE_iff.1 hh)]
def nxtO (n : Nat) (E : List (Nat × Nat)) (acc : List Nat) : Option Nat := (List.range n).find? (rdy n E acc)
theorem nxtO_least {n : Nat} {E : List (Nat × Nat)} {acc : List Nat} {v : Nat} (hv : v < n) (hr : rdy n E acc v = true) (hl : ∀ x, x < v → rdy n E acc x = false) : nxtO n E acc = some v := by
  have hk : v < (List.range n).length := by simpa using hv
  have := find_hitR (l := List.range n) (p := rdy n E acc) (k := v) hk ?_ (by simpa using hr)
  · unfold nxtO
    rw [this]; simp
  · rw [List.find?_eq_none]
    intro x hx
    rw [List.take_range, List.mem_range] at hx
    rw [hl x (by omega)]; simp
/-- The nodes are taken in the right order so far. -/
def Got (n : Nat) (E : List (Nat × Nat)) (acc : List Nat) : Prop := ∀ k, (h : k < acc.length) → nxtO n E (acc.take k) = some acc[k]
theorem Got.nil (n : Nat) (E : List (Nat × Nat)) : Got n E [] := fun k h => by simp at h
theorem Got.snoc {n : Nat} {E : List (Nat × Nat)} {acc : List Nat} {v : Nat} (h : Got n E acc) (hv : nxtO n E acc = some v) : Got n E (acc ++ [v]) := by
  intro k hk
  rw [List.length_append, List.length_singleton] at hk
  by_cases e : k = acc.length
  · subst e
    rw [List.take_left', List.getElem_append_right (Nat.le_refl _)]
    · simpa using hv
    · rfl
  · rw [List.take_append_of_le_length (by omega), List.getElem_append_left (by omega)]
    exact h k (by omega)
theorem Got.at {n : Nat} {E : List (Nat × Nat)} (hN : Nod n E) {acc : List Nat} (h : Got n E acc) {k : Nat} (hk : k < acc.length) : acc[k] < n ∧ acc[k] ∉ acc.take k ∧ ∀ u, (u, acc[k]) ∈ E → u ∈ acc.take k := by
  have h1 := h k hk
  have h2 := List.find?_some h1
  have h3 := List.mem_of_find?_eq_some h1
  exact ⟨List.mem_range.1 h3, (rdy_iff hN).1 h2⟩
theorem Got.sub {n : Nat} {E : List (Nat × Nat)} (hN : Nod n E) {acc : List Nat} (h : Got n E acc) : Sub n acc := fun x hx => by
  obtain ⟨k, hk, rfl⟩ := List.mem_iff_getElem.1 hx
  exact (h.at hN hk).1
theorem mem_take {α : Type} {l : List α} {i k : Nat} (hi : i < l.length) (hik : i < k) : l[i] ∈ l.take k := by
  rw [List.mem_iff_getElem]
  exact ⟨i, by simp; omega, by rw [List.getElem_take]⟩
theorem Got.nodup {n : Nat} {E : List (Nat × Nat)} (hN : Nod n E) {acc : List Nat} (h : Got n E acc) : acc.Nodup := by
  rw [List.Nodup, List.pairwise_iff_getElem]
  intro i j hi hj hij e
  exact (h.at hN hj).2.1 (e ▸ mem_take hi hij)
theorem Got.closed {n : Nat} {E : List (Nat × Nat)} (hN : Nod n E) {acc : List Nat} (h : Got n E acc) {u x : Nat} (hx : x ∈ acc) (he : (u, x) ∈ E) : u ∈ acc := by
  obtain ⟨k, hk, rfl⟩ := List.mem_iff_getElem.1 hx
  exact List.mem_of_mem_take ((h.at hN hk).2.2 u he)
theorem Got.len {n : Nat} {E : List (Nat × Nat)} (hN : Nod n E) {acc : List Nat} (h : Got n E acc) : acc.length ≤ n := pigeon' (h.nodup hN) (h.sub hN)
/-- What the order answers. -/
def ordS (n : Nat) (fin : List Nat) : List Int × Int := if fin.length < n then ([], 10) else (il fin, 0)

theorem f18_ind {n : Nat} {E : List (Nat × Nat)} (hN : Nod n E) (hn : n ≤ 10) {R : Type} {Q : R → Prop} (X : List (List Int)) (Y : Gr) {kx : List Int → Option R} (hkx : Yld (kx (dl n fun y => (ind n E [] y : Int))) Q) :
    Yld (iter (fun w => f18_L7 5000 (nx n E) X (len (nx n E)) Y w kx) 5000 (0, List.replicate n 0)) Q := by
  rw [rep_dl]
  refine Yld.up (fun a (o : List Int) => o = dl n fun y => (((List.range a).countP fun u => hasE E u y : Nat) : Int)) n ?_ ?_ 5000 0 (Nat.zero_le _) (by omega) _ (dl_eq fun x hx => by simp)
  · rintro a o w ha rfl hw
    simp only [f18_L7]
    rw [d_true (show (a : Int) < len (nx n E) by rw [len_eq, nx_len]; omega), wi64_nat (by omega), cond_true, idx_some' (nx_get ha), Option.bind_some]
    have hsl := suc_len n E a
    refine Yld.up (fun j (o : List Int) => ∃ G : Nat → Int, o = dl n G ∧ ∀ y, y < n → G y = (((List.range a).countP fun u => hasE E u y : Nat) : Int) + (if y ∈ (suc n E a).take j then 1 else 0)) (suc n E a).length ?_ ?_ 5000 0 (Nat.zero_le _) (by omega) _ ⟨_, rfl, fun y hy => by simp⟩
    · rintro j o w2 hj ⟨G, rfl, hG⟩ hw2
      simp only [f18_L10]
      rw [d_true (show (j : Int) < len (il (suc n E a)) by rw [len_eq, il_len]; omega), wi64_nat (by omega), cond_true, idx_some' (il_get hj), Option.bind_some]
      have hmem := mem_suc.1 (List.getElem_mem hj)
      have htk := take_succ hj
      have hnd : (suc n E a)[j] ∉ (suc n E a).take j := fun hm => by
        obtain ⟨i, hi, e⟩ := List.mem_iff_getElem.1 hm
        rw [List.getElem_take] at e
        have hi' : i < j := by simp at hi; omega
        have := List.pairwise_iff_getElem.1 (suc_asc n E a) i j (by omega) hj hi'
        omega
      generalize (suc n E a)[j] = v at hmem htk hnd
      rw [chk_true (inb_some (dl_get G hmem.1)), idx_some' (dl_get G hmem.1), Option.bind_some, chk_true (inb_some (dl_get G hmem.1)), Option.bind_some, Option.bind_some]
      have hGv := hG v hmem.1
      rw [if_neg hnd] at hGv
      have hcn := cnt_n a fun u => hasE E u v
      rw [wi64_of (n := G v + 1) (by omega) (by omega), dl_set]
      refine hw2 _ ⟨_, rfl, fun y hy => ?_⟩
      by_cases e : y = v
      · subst e
        rw [upF_self, hGv, htk, if_pos (by simp)]; omega
      · rw [upF_ne G _ e, hG y hy, htk]
        congr 1
        simp [e]
    · rintro o w2 ⟨G, rfl, hG⟩
      simp only [f18_L10]
      rw [d_false (show ¬ ((suc n E a).length : Int) < len (il (suc n E a)) by rw [len_eq, il_len]; omega), cond_false]
      refine hw _ (dl_eq fun y hy => ?_)
      rw [hG y hy, List.take_length, List.range_succ, List.countP_append, List.countP_singleton]
      by_cases he : hasE E a y = true
      · rw [if_pos (mem_suc.2 ⟨hy, hasE_iff.1 he⟩), if_pos he]; omega
      · rw [if_neg (fun h => he (hasE_iff.2 (mem_suc.1 h).2)), if_neg he]; omega
  · rintro o w rfl
    simp only [f18_L7]
    rw [d_false (show ¬ (n : Int) < len (nx n E) by rw [len_eq, nx_len]; omega), cond_false]
    have : (dl n fun y => (((List.range n).countP fun u => hasE E u y : Nat) : Int)) = dl n fun y => (ind n E [] y : Int) := dl_eq fun y hy => by unfold ind; simp
    rw [this]
    exact hkx
/-- What lies in the heap. -/
def Fre (n : Nat) (E : List (Nat × Nat)) (acc : List Nat) (w : Int) : Prop := ∃ x : Nat, x < n ∧ w = (x : Int) ∧ x ∉ acc ∧ ind n E acc x = 0
theorem ind_snoc {n : Nat} {E : List (Nat × Nat)} {acc : List Nat} {v y : Nat} (hv : v < n) (hva : v ∉ acc) : ind n E acc y = ind n E (acc ++ [v]) y + (if hasE E v y = true then 1 else 0) := by
  unfold ind
  by_cases he : hasE E v y = true
  · rw [if_pos he]
    refine cnt_split v hv (by simp [he, hva]) (by simp) fun u hu hne => ?_
    simp [hne]
  · rw [if_neg he, Nat.add_zero]
    refine List.countP_congr fun u hu => ?_
    by_cases e : u = v
    · subst e; simp [he]
    · simp [e]
theorem ind_le (n : Nat) (E : List (Nat × Nat)) (acc : List Nat) (v : Nat) : ind n E acc v ≤ n := cnt_n n _
theorem f18_free {n : Nat} {E : List (Nat × Nat)} (hn : n ≤ 10) {R : Type} {Q : R → Prop} (X : List (List Int)) (Y : Gr) {kx : List Int → Option R} (hkx : ∀ m H, Heap m H → Bag m H (Fre n E []) → Yld (kx (dl m H)) Q) :
    Yld (iter (fun w => f18_L17 5000 X (len (dl n fun y => (ind n E [] y : Int))) (dl n fun y => (ind n E [] y : Int)) Y w kx) 5000 (0, ([] : List Int))) Q := by
  refine Yld.up (fun k (o : List Int) => ∃ m H, o = dl m H ∧ Heap m H ∧ Bag m H (fun w => ∃ x : Nat, x < k ∧ w = (x : Int) ∧ ind n E [] x = 0)) n ?_ ?_ 5000 0 (Nat.zero_le _) (by omega) _ ⟨0, fun _ => 0, rfl, fun k _ hk => by omega, ⟨fun v => ⟨fun ⟨k, hk, _⟩ => by omega, fun ⟨x, hx, _⟩ => by omega⟩, fun k l hk => by omega⟩⟩
  · rintro k o w hk ⟨m, H, rfl, h1, h2⟩ hw
    simp only [f18_L17]
    rw [d_true (show (k : Int) < len (dl n fun y => (ind n E [] y : Int)) by rw [len_eq, dl_len]; omega), wi64_nat (by omega), cond_true, chk_true (inb_some (dl_get _ hk)), idx_some' (dl_get _ hk), Option.bind_some]
    refine Yld.cond (fun hc => ?_) fun hc => ?_
    · rw [decide_eq_true_eq] at hc
      have hm := h2.le (n := k) fun v ⟨x, hx, e, _⟩ => by omega
      refine Yld.then (f46_ok (by omega) h1 h2 (c := (k : Int)) fun ⟨x, hx, e, _⟩ => by omega) ?_
      rintro r ⟨D', rfl, h3, h4⟩
      refine hw _ ⟨m + 1, D', rfl, h3, h4.iff fun v => ⟨?_, ?_⟩⟩
      · rintro (⟨x, hx, e, h⟩ | rfl)
        · exact ⟨x, by omega, e, h⟩
        · exact ⟨k, by omega, rfl, by omega⟩
      · rintro ⟨x, hx, e, h⟩
        by_cases e2 : x = k
        · right; rw [e, e2]
        · left; exact ⟨x, by omega, e, h⟩
    · rw [decide_eq_false_iff_not] at hc
      refine hw _ ⟨m, H, rfl, h1, h2.iff fun v => ⟨fun ⟨x, hx, e, h⟩ => ⟨x, by omega, e, h⟩, fun ⟨x, hx, e, h⟩ => ⟨x, ?_, e, h⟩⟩⟩
      have : x ≠ k := fun e => by subst e; omega
      omega
  · rintro o w ⟨m, H, rfl, h1, h2⟩
    simp only [f18_L17]
    rw [d_false (show ¬ (n : Int) < len (dl n fun y => (ind n E [] y : Int)) by rw [len_eq, dl_len]; omega), cond_false]
    exact hkx m H h1 (h2.iff fun v => ⟨fun ⟨x, hx, e, h⟩ => ⟨x, hx, e, by simp, h⟩, fun ⟨x, hx, e, _, h⟩ => ⟨x, hx, e, h⟩⟩)
theorem f18_kids {n : Nat} {E : List (Nat × Nat)} (hN : Nod n E) (hn : n ≤ 10) {acc : List Nat} (hg : Got n E acc) {v : Nat} (hv : v < n) (hva : v ∉ acc) (hv0 : ind n E acc v = 0) {m : Nat} {H : Nat → Int} (hh : Heap m H) (hb : Bag m H (fun w => Fre n E acc w ∧ w ≠ (v : Int)))
    {R : Type} {Q : R → Prop} (X : List (List Int)) (Z : List Int) (Y : Gr) {kx : List Int → List Int → Option R} (hkx : ∀ m H, Heap m H → Bag m H (Fre n E (acc ++ [v])) → Yld (kx (dl m H) (dl n fun y => (ind n E (acc ++ [v]) y : Int))) Q) :
    Yld (iter (fun w => f18_L27 5000 (il (suc n E v)) X (len (il (suc n E v))) Z Y w kx) 5000 (0, dl m H, dl n fun y => (ind n E acc y : Int))) Q := by
  have hsl := suc_len n E v
  refine Yld.up (fun k (s : List Int × List Int) => ∃ m H G, s = (dl m H, dl n G) ∧ Heap m H ∧ Bag m H (fun w => ∃ x : Nat, x < n ∧ w = (x : Int) ∧ ((x ∉ acc ∧ x ≠ v ∧ ind n E acc x = 0) ∨ (x ∈ (suc n E v).take k ∧ ind n E acc x = 1))) ∧ ∀ y, y < n → G y = (ind n E acc y : Int) - (if y ∈ (suc n E v).take k then 1 else 0)) (suc n E v).length ?_ ?_ 5000 0 (Nat.zero_le _) (by omega) _ ⟨m, H, _, rfl, hh, hb.iff fun w => ?_, fun y hy => by simp⟩
  · rintro k s w hk ⟨m, H, G, rfl, h1, h2, h3⟩ hw
    simp only [f18_L27]
    rw [d_true (show (k : Int) < len (il (suc n E v)) by rw [len_eq, il_len]; omega), wi64_nat (by omega), cond_true, idx_some' (il_get hk), Option.bind_some]
    have hmem := mem_suc.1 (List.getElem_mem hk)
    have htk := take_succ hk
    have hnd : (suc n E v)[k] ∉ (suc n E v).take k := fun hm => by
      obtain ⟨i, hi, e⟩ := List.mem_iff_getElem.1 hm
      rw [List.getElem_take] at e
      have hi' : i < k := by simp at hi; omega
      have := List.pairwise_iff_getElem.1 (suc_asc n E v) i k (by omega) hk hi'
      omega
    generalize (suc n E v)[k] = y at hmem htk hnd
    have hGy := h3 y hmem.1
    rw [if_neg hnd] at hGy
    have hil := ind_le n E acc y
    rw [chk_true (inb_some (dl_get G hmem.1)), idx_some' (dl_get G hmem.1), Option.bind_some, chk_true (inb_some (dl_get G hmem.1)), Option.bind_some, Option.bind_some, wi64_of (n := G y - 1) (by omega) (by omega), dl_set, chk_true (inb_some (dl_get _ hmem.1)), idx_some' (dl_get _ hmem.1), Option.bind_some, upF_self]
    have hG' : ∀ z, z < n → upF G y (G y - 1) z = (ind n E acc z : Int) - (if z ∈ (suc n E v).take (k + 1) then 1 else 0) := fun z hz => by
      by_cases e : z = y
      · subst e
        rw [upF_self, hGy, htk, if_pos (by simp)]; omega
      · rw [upF_ne G _ e, h3 z hz, htk]
        congr 1
        simp [e]
    refine Yld.cond (fun hc => ?_) fun hc => ?_
    · rw [decide_eq_true_eq] at hc
      have hm := h2.le (n := n) fun w ⟨x, hx, e, _⟩ => by omega
      refine Yld.then (f46_ok (by omega) h1 h2 (c := (y : Int)) ?_) ?_
      · rintro ⟨x, hx, e, h⟩
        obtain rfl : x = y := by omega
        rcases h with h | h
        · omega
        · exact hnd h.1
      · rintro r ⟨D', rfl, h4, h5⟩
        refine hw (_, _) ⟨m + 1, D', _, rfl, h4, h5.iff fun w => ⟨?_, ?_⟩, hG'⟩
        · rintro (⟨x, hx, e, h⟩ | rfl)
          · refine ⟨x, hx, e, h.imp id fun h => ⟨?_, h.2⟩⟩
            rw [htk]; exact List.mem_append_left _ h.1
          · exact ⟨y, hmem.1, rfl, .inr ⟨by rw [htk]; simp, by omega⟩⟩
        · rintro ⟨x, hx, e, h⟩
          by_cases e2 : x = y
          · right; rw [e, e2]
          · left
            refine ⟨x, hx, e, h.imp id fun h => ⟨?_, h.2⟩⟩
            have := h.1
            rw [htk] at this
            rcases List.mem_append.1 this with h | h
            · exact h
            · rw [List.mem_singleton] at h; exact absurd h e2
    · rw [decide_eq_false_iff_not] at hc
      refine hw (_, _) ⟨m, H, _, rfl, h1, h2.iff fun w => ⟨?_, ?_⟩, hG'⟩
      · rintro ⟨x, hx, e, h⟩
        refine ⟨x, hx, e, h.imp id fun h => ⟨?_, h.2⟩⟩
        rw [htk]; exact List.mem_append_left _ h.1
      · rintro ⟨x, hx, e, h⟩
        refine ⟨x, hx, e, h.imp id fun h => ⟨?_, h.2⟩⟩
        have h5 := h.1
        rw [htk] at h5
        rcases List.mem_append.1 h5 with h5 | h5
        · exact h5
        · rw [List.mem_singleton] at h5
          subst h5
          omega
  · rintro s w ⟨m, H, G, rfl, h1, h2, h3⟩
    simp only [f18_L27]
    rw [d_false (show ¬ ((suc n E v).length : Int) < len (il (suc n E v)) by rw [len_eq, il_len]; omega), cond_false]
    rw [List.take_length] at h2 h3
    have hG : dl n G = dl n fun y => (ind n E (acc ++ [v]) y : Int) := dl_eq fun y hy => by
      rw [h3 y hy, ind_snoc (E := E) (y := y) hv hva]
      by_cases he : hasE E v y = true
      · rw [if_pos he, if_pos (mem_suc.2 ⟨hy, hasE_iff.1 he⟩)]; omega
      · rw [if_neg he, if_neg (fun h => he (hasE_iff.2 (mem_suc.1 h).2))]; omega
    rw [hG]
    refine hkx m H h1 (h2.iff fun w => ⟨?_, ?_⟩)
    · rintro ⟨x, hx, e, h⟩
      have hi := ind_snoc (E := E) (y := x) hv hva
      rcases h with ⟨a, b, c⟩ | ⟨a, b⟩
      · exact ⟨x, hx, e, by simp [a, b], by omega⟩
      · have he := (mem_suc.1 a).2
        rw [if_pos (hasE_iff.2 he)] at hi
        refine ⟨x, hx, e, ?_, by omega⟩
        simp only [List.mem_append, List.mem_singleton, not_or]
        refine ⟨fun hm => hva (hg.closed hN hm he), fun e => by subst e; omega⟩
    · rintro ⟨x, hx, e, hm, h0⟩
      simp only [List.mem_append, List.mem_singleton, not_or] at hm
      have hi := ind_snoc (E := E) (y := x) hv hva
      refine ⟨x, hx, e, ?_⟩
      by_cases he : hasE E v x = true
      · rw [if_pos he] at hi
        exact .inr ⟨mem_suc.2 ⟨hx, hasE_iff.1 he⟩, by omega⟩
      · rw [if_neg he] at hi
        exact .inl ⟨hm.1, hm.2, by omega⟩
  · constructor
    · rintro ⟨⟨x, hx, rfl, h1, h2⟩, h3⟩
      exact ⟨x, hx, rfl, .inl ⟨h1, fun e => h3 (by rw [e]), h2⟩⟩
    · rintro ⟨x, hx, rfl, h | h⟩
      · exact ⟨⟨x, hx, rfl, h.1, h.2.2⟩, by have := h.2.1; omega⟩
      · simp at h
theorem f18_ok {n : Nat} {E : List (Nat × Nat)} (hN : Nod n E) (hn : n ≤ 10) (hl : E.length ≤ 100) : Yld (f18 5000 (grOf n E)) fun r => ∃ fin, Got n E fin ∧ nxtO n E fin = none ∧ r = ordS n fin := by
  unfold f18
  rw [f34_0 hN hn hl, Option.bind_some, d_true rfl, Bool.not_true, cond_false, show (grOf n E).2.1 = toL E from rfl, show (grOf n E).1 = (n : Int) from rfl, f41_eq hN hn hl, Option.bind_some, ckn (by omega), Int.toNat_natCast]
  refine f18_ind hN hn _ _ (f18_free hn _ _ fun m H h1 h2 => ?_)
  refine Yld.iter (fun s => ∃ m H acc, s = (dl m H, (dl n fun y => (ind n E acc y : Int)), il acc) ∧ Got n E acc ∧ Heap m H ∧ Bag m H (Fre n E acc)) (fun s => n - s.2.2.length) ?_ 5000 _ ⟨m, H, [], rfl, Got.nil n E, h1, h2⟩ (by simp only [List.length_nil]; omega)
  rintro s w ⟨m, H, acc, rfl, hg, hh, hb⟩ hw
  simp only [f18_L23]
  have hm := hb.le (n := n) fun w ⟨x, hx, e, _⟩ => by omega
  have hal := hg.len hN
  rw [show f47 5000 (dl m H) = some (m : Int) from by unfold f47; rw [len_eq, dl_len], Option.bind_some]
  cases m with
  | zero =>
    rw [d_false (show ¬ (0 : Int) < ((0 : Nat) : Int) by omega), cond_false]
    have hnone : nxtO n E acc = none := by
      cases hx : nxtO n E acc with
      | none => rfl
      | some v =>
        have h3 := rdy_ind.1 (List.find?_some hx)
        have h4 := List.mem_range.1 (List.mem_of_find?_eq_some hx)
        obtain ⟨k, hk, _⟩ := (hb.mem (v : Int)).2 ⟨v, h4, rfl, h3⟩
        omega
    refine Yld.cond (fun hc => ?_) fun hc => ?_
    · rw [decide_eq_true_eq, len_eq, il_len] at hc
      have hc' : acc.length < n := by have : (grOf n E).1 = (n : Int) := rfl; omega
      exact Yld.ret ⟨acc, hg, hnone, by unfold ordS; rw [if_pos hc']⟩
    · rw [decide_eq_false_iff_not, len_eq, il_len] at hc
      have hc' : ¬ acc.length < n := by have : (grOf n E).1 = (n : Int) := rfl; omega
      exact Yld.ret ⟨acc, hg, hnone, by unfold ordS; rw [if_neg hc']⟩
  | succ m =>
    rw [d_true (show (0 : Int) < ((m + 1 : Nat) : Int) by omega), cond_true]
    refine Yld.then (f48_ok (by omega) hh hb) ?_
    rintro r ⟨r1, D', r2, h3, h4⟩
    obtain ⟨v, hv, hHv, hva, hv0⟩ := (hb.mem _).1 ⟨0, by omega, rfl⟩
    rw [r1, r2, hHv, ck0 (by rw [il_len]; omega), idx_some' (nx_get hv), Option.bind_some, il_app]
    rw [hHv] at h4
    refine f18_kids hN hn hg hv hva hv0 h3 h4 _ _ _ fun m2 H2 h5 h6 => ?_
    have hnx : nxtO n E acc = some v := nxtO_least hv (rdy_ind.2 ⟨hva, hv0⟩) fun x hx => by
      cases hr : rdy n E acc x with
      | false => rfl
      | true =>
        obtain ⟨k, hk, e⟩ := (hb.mem (x : Int)).2 ⟨x, by omega, rfl, rdy_ind.1 hr⟩
        have := hh.min k hk
        omega
    have hl2 := (hg.snoc hnx).len hN
    rw [List.length_append, List.length_singleton] at hl2
    exact hw (_, _, _) ⟨m2, H2, acc ++ [v], rfl, hg.snoc hnx, h5, h6⟩ (by simp only [il_len, List.length_append, List.length_singleton]; omega)
end Go.Kz
