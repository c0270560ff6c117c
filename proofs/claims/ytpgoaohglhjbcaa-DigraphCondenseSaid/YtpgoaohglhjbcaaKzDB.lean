/-
  Layer 06, plain: who reaches whom; the finished order.
-/
import Derived.Test.YtpgoaohglhjbcaaKzD9
set_option linter.unusedVariables false
set_option linter.unusedSimpArgs false
namespace Go.Kz

/-- a reaches b. -/
def Re (E : List (Nat × Nat)) (a b : Nat) : Prop := ∃ k, Lv E [a] k b
theorem Re.refl (E : List (Nat × Nat)) (a : Nat) : Re E a a := ⟨0, List.mem_singleton.2 rfl⟩
theorem Re.step {E : List (Nat × Nat)} {a u v : Nat} (h : Re E a u) (he : (u, v) ∈ E) : Re E a v := let ⟨k, hk⟩ := h; ⟨k + 1, .inr ⟨u, hk, he⟩⟩
theorem Re.trans {E : List (Nat × Nat)} {a b c : Nat} (h1 : Re E a b) (h2 : Re E b c) : Re E a c := by
  obtain ⟨k, hk⟩ := h2
  have key : ∀ k c, Lv E [b] k c → Re E a c := by
    intro k
    induction k with
    | zero => intro c hc; rw [List.mem_singleton.1 hc]; exact h1
    | succ k ih =>
      rintro c (hc | ⟨u, hu, he⟩)
      · exact ih c hc
      · exact (ih u hu).step he
  exact key k c hk
theorem Re.head {E : List (Nat × Nat)} {a u b : Nat} (he : (a, u) ∈ E) (h : Re E u b) : Re E a b := ((Re.refl E a).step he).trans h
theorem Re.turn {E F : List (Nat × Nat)} (hEF : ∀ a b, (a, b) ∈ E → (b, a) ∈ F) {a b : Nat} (h : Re E a b) : Re F b a := by
  obtain ⟨k, hk⟩ := h
  have key : ∀ k b, Lv E [a] k b → Re F b a := by
    intro k
    induction k with
    | zero => intro b hb; rw [List.mem_singleton.1 hb]; exact Re.refl F a
    | succ k ih =>
      rintro b (hb | ⟨u, hu, he⟩)
      · exact ih b hb
      · exact Re.head (hEF u b he) (ih u hu)
  exact key k b hk
theorem Re.lt {n : Nat} {E : List (Nat × Nat)} (hN : Nod n E) {a b : Nat} (ha : a < n) (h : Re E a b) : b < n := let ⟨k, hk⟩ := h; Lv.lt hN (sub1 ha) hk
theorem rB_re {E : List (Nat × Nat)} {a b : Nat} : rB E [a] b = true ↔ Re E a b := rB_iff
/-- On a way from inside to outside there is a first step out. -/
theorem Re.cross {E : List (Nat × Nat)} {p : Nat → Prop} {a b : Nat} (h : Re E a b) (ha : p a) (hb : ¬ p b) : ∃ u v, Re E a u ∧ (u, v) ∈ E ∧ Re E v b ∧ p u ∧ ¬ p v := by
  obtain ⟨k, hk⟩ := h
  have key : ∀ k b, Lv E [a] k b → ¬ p b → ∃ u v, Re E a u ∧ (u, v) ∈ E ∧ Re E v b ∧ p u ∧ ¬ p v := by
    intro k
    induction k with
    | zero => intro b h hb; rw [List.mem_singleton.1 h] at hb; exact absurd ha hb
    | succ k ih =>
      rintro b (h | ⟨u, hu, he⟩) hb
      · exact ih b h hb
      · by_cases hpu : p u
        · exact ⟨u, b, ⟨k, hu⟩, he, Re.refl E b, hpu, hb⟩
        · obtain ⟨u', v', a1, a2, a3, a4, a5⟩ := ih u hu hpu
          exact ⟨u', v', a1, a2, a3.step he, a4, a5⟩
  exact key k b hk hb

theorem pigeonB {n : Nat} {l : List Nat} (h : l.Nodup) (hs : ∀ x ∈ l, x < n) : l.length ≤ n := pigeon' h hs
def fr (st : List (Nat × Nat)) : List (Int × (Int × Unit)) := st.map fun f => ((f.1 : Int), ((f.2 : Int), ()))
theorem fr_len (st : List (Nat × Nat)) : (fr st).length = st.length := by simp [fr]
theorem fr_snoc (S : List (Nat × Nat)) (f : Nat × Nat) : fr (S ++ [f]) = fr S ++ [((f.1 : Int), ((f.2 : Int), ()))] := by simp [fr]
theorem fr_app (A B : List (Nat × Nat)) : fr (A ++ B) = fr A ++ fr B := by simp [fr]
theorem snoc_get {α : Type} (S : List α) (x : α) : (S ++ [x])[S.length]? = some x := by simp
theorem snoc_set {α : Type} (S : List α) (x y : α) : (S ++ [x]).set S.length y = S ++ [y] := by simp
theorem snoc_sub {α : Type} (S : List α) (x : α) : sub (S ++ [x]) 0 (S.length : Int) = S := by simp [sub]
structure Dfs (n : Nat) (E : List (Nat × Nat)) (fin P : List Nat) (W : Nat → Bool) : Prop where
  nodup : (fin ++ P).Nodup
  low : ∀ x ∈ fin ++ P, x < n
  seen : ∀ x, x < n → (W x = true ↔ x ∈ fin ++ P)
  path : P.Pairwise (Re E)
  rule : ∀ (i u v : Nat), fin[i]? = some u → (u, v) ∈ E → (∃ j : Nat, fin[j]? = some v ∧ (j ≤ i ∨ ∀ (k w : Nat), i ≤ k → k ≤ j → fin[k]? = some w → Re E v w)) ∨ (v ∈ P ∧ ∀ (k w : Nat), i ≤ k → fin[k]? = some w → Re E v w)
theorem Dfs.push {n : Nat} {E : List (Nat × Nat)} {fin P : List Nat} {W : Nat → Bool} (h : Dfs n E fin P W) {y : Nat} (hy : y < n) (hW : W y = false) (hp : ∀ a ∈ P, Re E a y) : Dfs n E fin (P ++ [y]) (upF W y true) := by
  have hyn : y ∉ fin ++ P := fun hm => by rw [(h.seen y hy).2 hm] at hW; cases hW
  refine ⟨?_, fun x hx => ?_, fun x hx => ?_, ?_, fun i u v hi he => ?_⟩
  · rw [← List.append_assoc]
    exact List.nodup_append.2 ⟨h.nodup, (by simp), fun a ha b hb => by rw [List.mem_singleton] at hb; subst hb; exact fun e => hyn (e ▸ ha)⟩
  · rw [← List.append_assoc] at hx
    rcases List.mem_append.1 hx with hx | hx
    · exact h.low x hx
    · rw [List.mem_singleton] at hx; omega
  · rw [← List.append_assoc, List.mem_append, List.mem_singleton]
    by_cases e : x = y
    · subst e; rw [upF_self]; simp
    · rw [upF_ne W _ e, h.seen x hx]; simp [e]
  · refine List.pairwise_append.2 ⟨h.path, List.pairwise_singleton _ _, fun a ha b hb => ?_⟩
    rw [List.mem_singleton] at hb
    subst hb
    exact hp a ha
  · exact (h.rule i u v hi he).imp id fun ⟨a, b⟩ => ⟨List.mem_append_left _ a, b⟩
theorem Dfs.pop {n : Nat} {E : List (Nat × Nat)} {fin P : List Nat} {t : Nat} {W : Nat → Bool} (h : Dfs n E fin (P ++ [t]) W) (hN : Nod n E) (hall : ∀ v, (t, v) ∈ E → W v = true) : Dfs n E (fin ++ [t]) P W := by
  have hperm : (fin ++ (P ++ [t])).Perm ((fin ++ [t]) ++ P) := by
    rw [List.append_assoc]
    exact List.Perm.append_left fin List.perm_append_comm
  have hget : ∀ {k w}, (fin ++ [t])[k]? = some w → fin[k]? = some w ∨ (k = fin.length ∧ w = t) := fun {k w} hk => by
    by_cases e : k < fin.length
    · rw [List.getElem?_append_left e] at hk; exact .inl hk
    · by_cases e2 : k = fin.length
      · subst e2; rw [snoc_get] at hk; exact .inr ⟨rfl, by simpa using hk.symm⟩
      · rw [List.getElem?_eq_none (by simp; omega)] at hk; cases hk
  have hold : ∀ {k w}, fin[k]? = some w → (fin ++ [t])[k]? = some w := fun {k w} hk => by
    rw [List.getElem?_append_left (List.getElem?_eq_some_iff.1 hk).1]; exact hk
  have hpt : ∀ v ∈ P, Re E v t := fun v hv => (List.pairwise_append.1 h.path).2.2 v hv t (by simp)
  refine ⟨(hperm.nodup_iff).1 h.nodup, fun x hx => h.low x (hperm.mem_iff.2 hx), fun x hx => (h.seen x hx).trans hperm.mem_iff, (List.pairwise_append.1 h.path).1, fun i u v hi he => ?_⟩
  rcases hget hi with hi | ⟨rfl, rfl⟩
  · have hil := (List.getElem?_eq_some_iff.1 hi).1
    rcases h.rule i u v hi he with ⟨j, hj, hor⟩ | ⟨hv, hre⟩
    · left
      refine ⟨j, hold hj, hor.imp id fun hh k w h1 h2 h3 => ?_⟩
      have hjl := (List.getElem?_eq_some_iff.1 hj).1
      rcases hget h3 with h3 | ⟨rfl, _⟩
      · exact hh k w h1 h2 h3
      · omega
    · rcases List.mem_append.1 hv with hv' | hv'
      · right
        refine ⟨hv', fun k w h1 h3 => ?_⟩
        rcases hget h3 with h3 | ⟨rfl, rfl⟩
        · exact hre k w h1 h3
        · exact hpt v hv'
      · rw [List.mem_singleton] at hv'
        subst hv'
        left
        refine ⟨fin.length, snoc_get _ _, .inr fun k w h1 h2 h3 => ?_⟩
        rcases hget h3 with h3 | ⟨rfl, rfl⟩
        · exact hre k w h1 h3
        · exact Re.refl E _
  · have hs := (h.seen v (hN _ he).2).1 (hall v he)
    rcases List.mem_append.1 hs with hs | hs
    · obtain ⟨j, hj, rfl⟩ := List.mem_iff_getElem.1 hs
      left
      exact ⟨j, hold (List.getElem?_eq_getElem hj), .inl (by omega)⟩
    · rcases List.mem_append.1 hs with hs' | hs'
      · right
        refine ⟨hs', fun k w h1 h3 => ?_⟩
        rcases hget h3 with h3 | ⟨rfl, rfl⟩
        · have := (List.getElem?_eq_some_iff.1 h3).1; omega
        · exact hpt v hs'
      · rw [List.mem_singleton] at hs'
        subst hs'
        left
        exact ⟨fin.length, snoc_get _ _, .inl (Nat.le_refl _)⟩
def uns (n : Nat) (W : Nat → Bool) : Nat := (List.range n).countP fun x => !W x
theorem uns_push {n : Nat} {W : Nat → Bool} {y : Nat} (hy : y < n) (hW : W y = false) : uns n (upF W y true) + 1 ≤ uns n W := by
  refine cnt_lt (fun x hx h' => ?_) y hy (by simp [hW]) (by rw [upF_self]; rfl)
  by_cases e : x = y
  · subst e; simp [hW]
  · rwa [upF_ne W _ e] at h'
def wgt (st : List (Nat × Nat)) : Nat := (st.map fun f => 11 - f.2).sum
theorem wgt_snoc (S : List (Nat × Nat)) (f : Nat × Nat) : wgt (S ++ [f]) = wgt S + (11 - f.2) := by simp [wgt]

theorem f56_in {n : Nat} {E : List (Nat × Nat)} (hN : Nod n E) (hn : n ≤ 10) {a : Nat} {fin : List Nat} {st : List (Nat × Nat)} {W : Nat → Bool} (h : Dfs n E fin (st.map Prod.fst) W) (hst : ∀ f ∈ st, f.2 ≤ (suc n E f.1).length ∧ ∀ y ∈ (suc n E f.1).take f.2, W y = true) (ha : ∀ x, x ≤ a → W x = true) (hw0 : 12 * uns n W + wgt st ≤ 1000)
    {R : Type} {Q : R → Prop} (X Y : Int) {kx : List Int → List Bool → List (Int × (Int × Unit)) → Option R} (hkx : ∀ fin W, Dfs n E fin [] W → (∀ x, x ≤ a → W x = true) → Yld (kx (il fin) ((List.range n).map W) []) Q) :
    Yld (iter (fun w => f56_L10 5000 (nx n E) X Y w kx) 5000 (fr st, il fin, (List.range n).map W)) Q := by
  have mW : ∀ W : Nat → Bool, ((List.range n).map W).countP (fun b => !b) = uns n W := fun W => by unfold uns; rw [List.countP_map]; rfl
  have mS : ∀ st : List (Nat × Nat), ((fr st).map fun f => 11 - f.2.1.toNat).sum = wgt st := fun st => by unfold fr wgt; rw [List.map_map]; rfl
  refine Yld.iter (fun s => ∃ (st : List (Nat × Nat)) (fin : List Nat) (W : Nat → Bool), s = (fr st, il fin, (List.range n).map W) ∧ Dfs n E fin (st.map Prod.fst) W ∧ (∀ f ∈ st, f.2 ≤ (suc n E f.1).length ∧ ∀ y ∈ (suc n E f.1).take f.2, W y = true) ∧ (∀ x, x ≤ a → W x = true)) (fun s => 12 * s.2.2.countP (fun b => !b) + (s.1.map fun f => 11 - f.2.1.toNat).sum) ?_ 5000 _ ⟨st, fin, W, rfl, h, hst, ha⟩ (by simp only [mW, mS]; omega)
  rintro s w ⟨st, fin, W, rfl, h, hst, ha⟩ hw
  simp only [f56_L10]
  rcases List.eq_nil_or_concat st with rfl | ⟨S, ⟨t, i⟩, rfl⟩
  · rw [d_false (show ¬ 0 < len (fr []) by simp [fr, len_eq]), cond_false]
    exact hkx fin W h ha
  · simp only [List.concat_eq_append] at *
    have hlen : (fr (S ++ [(t, i)])).length = S.length + 1 := by rw [fr_len]; simp
    have hsl : S.length ≤ n := by
      have := pigeonB h.nodup h.low
      simp only [List.length_append, List.length_map, List.length_singleton] at this
      omega
    have hfl : fin.length ≤ n := by
      have := pigeonB h.nodup h.low
      simp only [List.length_append] at this
      omega
    have ht : t < n := h.low t (by simp)
    have hti := hst (t, i) (by simp)
    simp only at hti
    have hwi : wi64 (len (fr (S ++ [(t, i)])) - 1) = ((fr S).length : Int) := by rw [len_eq, hlen, fr_len, wi64_of (by omega) (by omega)]; omega
    have hg : (fr (S ++ [(t, i)]))[(fr S).length]? = some ((t : Int), ((i : Int), ())) := by rw [fr_snoc]; exact snoc_get _ _
    rw [d_true (show 0 < len (fr (S ++ [(t, i)])) by rw [len_eq, hlen]; omega), cond_true, hwi, chk_true (inb_some hg)]
    simp only [idx_some' hg, Option.bind_some]
    rw [idx_some' (nx_get ht)]
    simp only [Option.bind_some]
    have hslen := suc_len n E t
    by_cases hfinish : i = (suc n E t).length
    · rw [d_true (show (i : Int) = len (il (suc n E t)) by rw [len_eq, il_len]; omega), cond_true, ck0 (by rw [il_len]; omega), chk_true (by rw [len_eq, hlen, fr_len]; simp only [Bool.and_eq_true, decide_eq_true_eq]; omega), fr_snoc, snoc_sub, il_app]
      rw [List.map_append, List.map_singleton] at h
      refine hw (_, _, _) ⟨S, fin ++ [t], W, rfl, h.pop hN fun v he => hti.2 v ?_, fun f hf => hst f (List.mem_append_left _ hf), ha⟩ ?_
      · rw [hfinish, List.take_length]
        exact mem_suc.2 ⟨(hN _ he).2, he⟩
      · have e1 := mS (S ++ [(t, i)])
        have e2 := mS S
        simp only [mW]
        rw [e1, e2, wgt_snoc]
        simp only
        omega
    · rw [d_false (show ¬ (i : Int) = len (il (suc n E t)) by rw [len_eq, il_len]; omega), cond_false]
      have hi : i < (suc n E t).length := by omega
      rw [idx_some' (il_get hi)]
      simp only [Option.bind_some]
      have hmem := mem_suc.1 (List.getElem_mem hi)
      have htk := take_succ hi
      generalize (suc n E t)[i] = y at hmem htk
      rw [chk_true (inb_some (map_range_get W hmem.1)), idx_some' (map_range_get W hmem.1), Option.bind_some]
      rw [wi64_nat (show i < 9223372036854775807 by omega), setI_nat, fr_snoc, snoc_set, show fr S ++ [((t : Int), ((i : Int) + 1, ()))] = fr (S ++ [(t, i + 1)]) from by rw [fr_snoc]; rfl]
      have e1 := mS (S ++ [(t, i)])
      have e2 := mS (S ++ [(t, i + 1)])
      have hmap : (S ++ [(t, i + 1)]).map Prod.fst = (S ++ [(t, i)]).map Prod.fst := by simp
      cases hWy : W y with
      | false =>
        rw [Bool.not_false, cond_true, chk_true (inb_some (map_range_get W hmem.1)), Option.bind_some, Option.bind_some, ck0 (by rw [fr_len]; simp only [List.length_append, List.length_singleton]; omega), setI_nat, map_set_range]
        rw [show ((y : Int), ((0 : Int), ())) :: ([] : List (Int × (Int × Unit))) = fr [(y, 0)] from rfl, ← fr_app]
        have hun := uns_push hmem.1 hWy
        have hmono : ∀ x, W x = true → upF W y true x = true := fun x hx => by
          by_cases e : x = y
          · subst e; exact upF_self _ _ _
          · rw [upF_ne W _ e]; exact hx
        refine hw (_, _, _) ⟨S ++ [(t, i + 1)] ++ [(y, 0)], fin, _, rfl, ?_, fun f hf => ?_, fun x hx => hmono x (ha x hx)⟩ ?_
        · rw [List.map_append, hmap, List.map_singleton]
          refine h.push hmem.1 hWy fun b hb => ?_
          rw [List.map_append, List.map_singleton] at hb
          rcases List.mem_append.1 hb with hb | hb
          · have hp := h.path
            rw [List.map_append, List.map_singleton] at hp
            exact ((List.pairwise_append.1 hp).2.2 b hb t (by simp)).step hmem.2
          · rw [List.mem_singleton] at hb; subst hb
            exact (Re.refl E _).step hmem.2
        · rcases List.mem_append.1 hf with hf | hf
          · rcases List.mem_append.1 hf with hf | hf
            · have := hst f (List.mem_append_left _ hf)
              exact ⟨this.1, fun z hz => hmono z (this.2 z hz)⟩
            · rw [List.mem_singleton] at hf; subst hf
              refine ⟨hi, fun z hz => ?_⟩
              simp only at hz
              rw [htk] at hz
              rcases List.mem_append.1 hz with hz | hz
              · exact hmono z (hti.2 z hz)
              · rw [List.mem_singleton] at hz; subst hz; exact upF_self _ _ _
          · rw [List.mem_singleton] at hf; subst hf
            exact ⟨Nat.zero_le _, fun z hz => by simp at hz⟩
        · have e3 := mS (S ++ [(t, i + 1)] ++ [(y, 0)])
          simp only [mW]
          rw [e1, e3, wgt_snoc, wgt_snoc, wgt_snoc]
          simp only
          omega
      | true =>
        rw [Bool.not_true, cond_false]
        refine hw (_, _, _) ⟨S ++ [(t, i + 1)], fin, W, rfl, by rw [hmap]; exact h, fun f hf => ?_, ha⟩ ?_
        · rcases List.mem_append.1 hf with hf | hf
          · exact hst f (List.mem_append_left _ hf)
          · rw [List.mem_singleton] at hf; subst hf
            refine ⟨hi, fun z hz => ?_⟩
            simp only at hz
            rw [htk] at hz
            rcases List.mem_append.1 hz with hz | hz
            · exact hti.2 z hz
            · rw [List.mem_singleton] at hz; subst hz; exact hWy
        · simp only [mW]
          rw [e1, e2, wgt_snoc, wgt_snoc]
          simp only
          omega
/-- The finished order: every node once, and the rule of the nested. -/
structure Fnd (n : Nat) (E : List (Nat × Nat)) (fin : List Nat) : Prop where
  nodup : fin.Nodup
  mem : ∀ x, x ∈ fin ↔ x < n
  rule : ∀ (i u v : Nat), fin[i]? = some u → (u, v) ∈ E → ∃ j : Nat, fin[j]? = some v ∧ (j ≤ i ∨ ∀ (k w : Nat), i ≤ k → k ≤ j → fin[k]? = some w → Re E v w)
theorem f56_ok {n : Nat} {E : List (Nat × Nat)} (hN : Nod n E) (hn : n ≤ 10) : Yld (f56 5000 (nx n E)) fun r => ∃ fin, r = il fin ∧ Fnd n E fin := by
  unfold f56
  have e0 : len (nx n E) = (n : Int) := by rw [len_eq, nx_len]
  rw [e0, ckn (by omega), Int.toNat_natCast, rep_map]
  refine Yld.up (fun k (s : List Int × List Bool × List (Int × (Int × Unit))) => ∃ fin W o, s = (il fin, (List.range n).map W, o) ∧ Dfs n E fin [] W ∧ ∀ x, x < k → W x = true) n ?_ ?_ 5000 0 (Nat.zero_le _) (by omega) _ ⟨[], _, [], rfl, ⟨List.nodup_nil, fun x hx => by simp at hx, fun x hx => by simp, List.Pairwise.nil, fun i u v hi => by simp at hi⟩, fun x hx => by omega⟩
  · rintro k s w hk ⟨fin, W, o, rfl, h, hW⟩ hw
    simp only [f56_L5]
    rw [d_true (show (k : Int) < (n : Int) by omega), wi64_nat (by omega), cond_true, chk_true (inb_some (map_range_get W hk)), idx_some' (map_range_get W hk), Option.bind_some]
    cases hWk : W k with
    | true =>
      rw [cond_true]
      refine hw (_, _, _) ⟨fin, W, o, rfl, h, fun x hx => ?_⟩
      by_cases e : x = k
      · subst e; exact hWk
      · exact hW x (by omega)
    | false =>
      rw [cond_false, chk_true (inb_some (map_range_get W hk)), Option.bind_some, Option.bind_some, chk_true (by simp only [Bool.and_eq_true, decide_eq_true_eq, len_eq]; omega), show sub o 0 0 = [] from by simp [sub], ck0 (by simp), setI_nat, map_set_range]
      rw [show ([] : List (Int × (Int × Unit))) ++ (((k : Int), ((0 : Int), ())) :: []) = fr [(k, 0)] from rfl]
      refine f56_in (a := k) (st := [(k, 0)]) hN hn ?_ (fun f hf => ?_) (fun x hx => ?_) ?_ _ _ fun fin' W' h' ha' => hw (_, _, _) ⟨fin', W', _, rfl, h', fun x hx => ha' x (by omega)⟩
      · exact h.push hk hWk fun a ha => by cases ha
      · rw [List.mem_singleton] at hf; subst hf
        exact ⟨Nat.zero_le _, fun z hz => by simp at hz⟩
      · by_cases e : x = k
        · subst e; exact upF_self _ _ _
        · rw [upF_ne W _ e]; exact hW x (by omega)
      · have := cnt_n n fun x => !(upF W k true x)
        unfold uns wgt
        simp only [List.map_cons, List.map_nil, List.sum_cons, List.sum_nil]
        omega
  · rintro s w ⟨fin, W, o, rfl, h, hW⟩
    simp only [f56_L5]
    rw [d_false (show ¬ (n : Int) < (n : Int) by omega), cond_false]
    refine Yld.ret ⟨fin, rfl, by simpa using h.nodup, fun x => ⟨fun hx => h.low x (by simpa using hx), fun hx => by simpa using (h.seen x hx).1 (hW x hx)⟩, fun i u v hi he => ?_⟩
    rcases h.rule i u v hi he with h1 | ⟨h1, _⟩
    · exact h1
    · cases h1
end Go.Kz
