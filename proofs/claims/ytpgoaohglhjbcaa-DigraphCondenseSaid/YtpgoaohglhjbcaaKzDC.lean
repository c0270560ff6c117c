/-
  Layer 06, plain: components; law 5.
-/
import Derived.Test.YtpgoaohglhjbcaaKzDB
set_option linter.unusedVariables false
set_option linter.unusedSimpArgs false
namespace Go.Kz

def Mut (E : List (Nat × Nat)) (a b : Nat) : Prop := Re E a b ∧ Re E b a
theorem Mut.symm {E : List (Nat × Nat)} {a b : Nat} (h : Mut E a b) : Mut E b a := ⟨h.2, h.1⟩
theorem Mut.trans {E : List (Nat × Nat)} {a b c : Nat} (h : Mut E a b) (h' : Mut E b c) : Mut E a c := ⟨h.1.trans h'.1, h'.2.trans h.2⟩

theorem f57_eq {m : Nat} (hm : m ≤ 100) (D : Nat → Int) : f57 5000 (dl m D) = some (((), ()), (dl m (fun k => D (m - 1 - k)), ())) := by
  refine Yld.eq ?_
  unfold f57
  rw [len_eq, dl_len]
  by_cases h0 : m = 0
  · subst h0
    refine Yld.first (by omega) fun w => ?_
    simp only [f57_L1]
    exact Yld.ret rfl
  rw [show wi64 ((m : Int) - 1) = ((m - 1 : Nat) : Int) from wi64_pred (by omega) (by omega)]
  refine Yld.iter (fun s => ∃ (i : Nat) (P : Nat → Int), s = (((m - 1 - i : Nat) : Int), (i : Int), dl m P) ∧ i ≤ m - 1 - i + 1 ∧ i < m ∧ ∀ k, k < m → P k = if k < i ∨ m ≤ k + i then D (m - 1 - k) else D k) (fun s => m - s.2.1.toNat) ?_ 5000 _ ⟨0, D, rfl, by omega, by omega, fun k hk => by rw [if_neg (by omega)]⟩ (by simp only [Int.toNat_zero]; omega)
  rintro s w ⟨i, P, rfl, hi, him, hP⟩ hw
  simp only [f57_L1]
  refine Yld.cond (fun hc => ?_) fun hc => ?_
  · rw [decide_eq_true_eq] at hc
    have h1 : m - 1 - i < m := by omega
    rw [chk_true (inb_some (dl_get P h1)), idx_some' (dl_get P h1), Option.bind_some, chk_true (inb_some (dl_get P him)), idx_some' (dl_get P him), Option.bind_some, chk_true (inb_some (dl_get P him)), Option.bind_some, Option.bind_some, dl_set, chk_true (inb_some (dl_get _ h1)), idx_some' (dl_get _ h1), Option.bind_some, Option.bind_some, dl_set, wi64_pred (by omega) (by omega), wi64_nat (by omega)]
    refine hw (_, _, _) ⟨i + 1, _, by rw [show m - 1 - (i + 1) = m - 1 - i - 1 from by omega]; rfl, by omega, by omega, fun k hk => ?_⟩ (by simp only [Int.toNat_natCast]; omega)
    by_cases e1 : k = m - 1 - i
    · subst e1
      rw [upF_self, hP i him, if_neg (by omega), if_pos (by omega)]
      congr 1; omega
    · rw [upF_ne _ _ e1]
      by_cases e2 : k = i
      · subst e2
        rw [upF_self, hP _ h1, if_neg (by omega), if_pos (by omega)]
      · rw [upF_ne _ _ e2, hP k hk]
        by_cases e3 : k < i ∨ m ≤ k + i
        · rw [if_pos e3, if_pos (by omega)]
        · rw [if_neg e3, if_neg (by omega)]
  · rw [decide_eq_false_iff_not] at hc
    refine Yld.ret ?_
    have : dl m P = dl m fun k => D (m - 1 - k) := dl_eq fun k hk => by
      rw [hP k hk]
      by_cases e3 : k < i ∨ m ≤ k + i
      · rw [if_pos e3]
      · rw [if_neg e3]; congr 1; omega
    rw [this]
theorem il_dl (l : List Nat) : il l = dl l.length fun k => ((l.getD k 0 : Nat) : Int) := by
  apply List.ext_getElem?
  intro i
  by_cases hi : i < l.length
  · rw [il_get hi, dl_get _ hi, List.getD_eq_getElem?_getD, List.getElem?_eq_getElem hi]; rfl
  · rw [List.getElem?_eq_none (by rw [il_len]; omega), List.getElem?_eq_none (by rw [dl_len]; omega)]

structure Lab (n : Nat) (E : List (Nat × Nat)) (C : Nat → Int) : Prop where
  low : ∀ x, x < n → C x = -1 ∨ ∃ r : Nat, C x = (r : Int) ∧ Mut E x r
  cls : ∀ x y, x < n → 0 ≤ C x → Mut E x y → C y = C x
structure Col (n : Nat) (E : List (Nat × Nat)) (C : Nat → Int) (r : Nat) (C' : Nat → Int) (q : List Nat) : Prop where
  old : ∀ x, x < n → 0 ≤ C x → C' x = C x
  new : ∀ x, x < n → C x < 0 → C' x = -1 ∨ (C' x = (r : Int) ∧ Re E x r)
  root : C' r = (r : Int)
  qs : ∀ x ∈ q, x < n ∧ C x < 0 ∧ C' x = (r : Int)
  prd : ∀ x, x < n → C x < 0 → C' x = (r : Int) → x ∉ q → ∀ v, (v, x) ∈ E → 0 ≤ C' v
structure ColU (n : Nat) (E : List (Nat × Nat)) (C : Nat → Int) (r u : Nat) (M : List Nat) (C' : Nat → Int) (q : List Nat) : Prop where
  old : ∀ x, x < n → 0 ≤ C x → C' x = C x
  new : ∀ x, x < n → C x < 0 → C' x = -1 ∨ (C' x = (r : Int) ∧ Re E x r)
  root : C' r = (r : Int)
  qs : ∀ x ∈ q, x < n ∧ C x < 0 ∧ C' x = (r : Int)
  prd : ∀ x, x < n → C x < 0 → C' x = (r : Int) → x ∉ q → x ≠ u → ∀ v, (v, x) ∈ E → 0 ≤ C' v
  got : ∀ v ∈ M, 0 ≤ C' v
theorem kos {n : Nat} {E : List (Nat × Nat)} (hN : Nod n E) {fin : List Nat} (hf : Fnd n E fin) {C : Nat → Int} (hC : Lab n E C) {i0 r : Nat} (hr : fin[i0]? = some r) (hdone : ∀ k x, i0 < k → fin[k]? = some x → 0 ≤ C x) :
    ∀ (d i y : Nat), i0 - i = d → fin[i]? = some y → C y < 0 → Re E y r → Re E r y := by
  have inj : ∀ {i j x : Nat}, fin[i]? = some x → fin[j]? = some x → i = j := fun {i j x} h1 h2 => by
    have a := List.getElem?_eq_some_iff.1 h1
    have b := List.getElem?_eq_some_iff.1 h2
    exact (List.getElem_inj hf.nodup).1 (a.2.trans b.2.symm)
  intro d
  induction d using Nat.strongRecOn with
  | _ d ih =>
    intro i y hd hi hy hre
    have hii : i ≤ i0 := by
      refine Classical.byContradiction fun h => ?_
      have := hdone i y (by omega) hi; omega
    by_cases e : y = r
    · subst e; exact Re.refl E _
    · have hne : i ≠ i0 := fun e' => by subst e'; rw [hi] at hr; exact e (by simpa using hr)
      obtain ⟨u, v, h1, h2, h3, ⟨iu, h4, h5⟩, h6⟩ := hre.cross (p := fun u => ∃ iu, iu ≤ i ∧ fin[iu]? = some u) ⟨i, Nat.le_refl _, hi⟩ fun ⟨iu, h1, h2⟩ => by
        have := inj h2 hr; omega
      obtain ⟨jv, h7, h8⟩ := hf.rule iu u v h5 h2
      have hji : ¬ jv ≤ i := fun h => h6 ⟨jv, h, h7⟩
      have hvy : Re E v y := by
        rcases h8 with h8 | h8
        · omega
        · exact h8 i y h4 (by omega) hi
      have hyv : Re E y v := h1.step h2
      have hvn : v < n := (hf.mem v).1 (List.mem_of_getElem? h7)
      have hCv : C v < 0 := by
        refine Classical.byContradiction fun h => ?_
        have := hC.cls v y hvn (by omega) ⟨hvy, hyv⟩
        omega
      have hjv : jv ≤ i0 := by
        refine Classical.byContradiction fun h => ?_
        have := hdone jv v (by omega) h7; omega
      exact (ih (i0 - jv) (by omega) jv v rfl h7 hCv h3).trans hvy
theorem Col.lab {n : Nat} {E : List (Nat × Nat)} (hN : Nod n E) {C C' : Nat → Int} {r : Nat} (hrn : r < n) (hC : Lab n E C) (hr : C r < 0) (h : Col n E C r C' []) (hk : ∀ y, y < n → C y < 0 → Re E y r → Re E r y) : Lab n E C' := by
  have neg : ∀ {y}, y < n → Mut E y r → C y < 0 := fun {y} hy hm => by
    refine Classical.byContradiction fun h' => ?_
    have := hC.cls y r hy (by omega) hm; omega
  have back : ∀ k y, Lv (tr E) [r] k y → Re E r y → C' y = (r : Int) := by
    intro k
    induction k with
    | zero => intro y hy _; rw [List.mem_singleton.1 hy]; exact h.root
    | succ k ih =>
      rintro y (hy | ⟨u, hu, he⟩) hre
      · exact ih y hy hre
      · have he' := mem_tr.1 he
        have hur : Re E u r := Re.turn (E := tr E) (fun a b hab => mem_tr.1 hab) ⟨k, hu⟩
        have hru : Re E r u := hre.step he'
        have hCu := ih u hu hru
        have hun := (hN _ he').2
        have hyn := (hN _ he').1
        have h0 := h.prd u hun (neg hun ⟨hur, hru⟩) hCu (by simp) y he'
        rcases h.new y hyn (neg hyn ⟨Re.head he' hur, hre⟩) with h1 | h1
        · omega
        · exact h1.1
  refine ⟨fun x hx => ?_, fun x y hx h0 hm => ?_⟩
  · by_cases e : 0 ≤ C x
    · rw [h.old x hx e]; exact hC.low x hx
    · rcases h.new x hx (by omega) with h1 | ⟨h1, h2⟩
      · exact .inl h1
      · exact .inr ⟨r, h1, h2, hk x hx (by omega) h2⟩
  · have hy : y < n := hm.1.lt hN hx
    by_cases e : 0 ≤ C x
    · have := hC.cls x y hx e hm
      rw [h.old x hx e, h.old y hy (by omega), this]
    · rcases h.new x hx (by omega) with h1 | ⟨h1, h2⟩
      · omega
      · have hxr : Mut E x r := ⟨h2, hk x hx (by omega) h2⟩
        have hyr : Mut E y r := hm.symm.trans hxr
        obtain ⟨k, hk'⟩ := Re.turn (F := tr E) (fun a b hab => mem_tr.2 hab) hyr.1
        rw [h1]
        exact back k y hk' hyr.2
theorem f49_root {n : Nat} {E : List (Nat × Nat)} (hN : Nod n E) (hn : n ≤ 10) {C : Nat → Int} (hC : Lab n E C) {r : Nat} (hrn : r < n) (hr : C r < 0) {R : Type} {Q : R → Prop} (X Y : Int) (Z : List Int) (G : Gr) {kx : List Int → Option R}
    (hkx : ∀ C', Col n E C r C' [] → Yld (kx (dl n C')) Q) : Yld (iter (fun w => f49_L16 5000 (r : Int) (nx n (tr E)) X Y Z G w kx) 5000 (dl n (upF C r (r : Int)), ((r : Int) :: []))) Q := by
  have ec : ∀ D : Nat → Int, ((dl n D).countP fun x => decide (x < 0)) = unl n D := fun D => by unfold dl unl; rw [List.countP_map]; rfl
  refine Yld.iter (fun s => ∃ C' q, s = (dl n C', il q) ∧ Col n E C r C' q ∧ unl n C' + q.length ≤ 20) (fun s => (s.1.countP fun x => decide (x < 0)) + s.2.length) ?_ 5000 _ ⟨upF C r r, [r], rfl, ⟨fun x hx h0 => upF_ne C _ (fun e => by subst e; omega), fun x hx h0 => ?_, upF_self _ _ _, fun x hx => ?_, fun x hx h0 h1 hq v he => ?_⟩, ?_⟩ ?_
  · rintro s w ⟨C', q, rfl, h, hu⟩ hw
    simp only [f49_L16]
    rcases List.eq_nil_or_concat q with rfl | ⟨S, u, rfl⟩
    · rw [d_false (show ¬ 0 < len (il []) by simp [il, len_eq]), cond_false]
      exact hkx C' h
    · simp only [List.concat_eq_append] at *
      have hlen : (il (S ++ [u])).length = S.length + 1 := by rw [il_len]; simp
      simp only [List.length_append, List.length_singleton] at hu
      obtain ⟨hun, huC, huC'⟩ := h.qs u (by simp)
      have hwi : wi64 (len (il (S ++ [u])) - 1) = ((il S).length : Int) := by rw [len_eq, hlen, il_len, wi64_of (by omega) (by omega)]; omega
      have hg : (il (S ++ [u]))[(il S).length]? = some (u : Int) := by rw [← il_app]; exact snoc_get _ _
      rw [d_true (show 0 < len (il (S ++ [u])) by rw [len_eq, hlen]; omega), cond_true, hwi, chk_true (inb_some hg), idx_some' hg, Option.bind_some, chk_true (by rw [len_eq, hlen, il_len]; simp only [Bool.and_eq_true, decide_eq_true_eq]; omega), idx_some' (nx_get hun), Option.bind_some, ← il_app, snoc_sub]
      have hsl := suc_len n (tr E) u
      have hur : Re E u r := by
        rcases h.new u hun huC with h1 | h1
        · omega
        · exact h1.2
      refine Yld.up (fun k (s : List Int × List Int) => ∃ q' D, s = (il q', dl n D) ∧ ColU n E C r u ((suc n (tr E) u).take k) D q' ∧ unl n D + q'.length ≤ unl n C' + S.length) (suc n (tr E) u).length ?_ ?_ 5000 0 (Nat.zero_le _) (by omega) _ ⟨S, C', rfl, ⟨h.old, h.new, h.root, fun x hx => h.qs x (List.mem_append_left _ hx), fun x hx h0 h1 hq hxu v he => h.prd x hx h0 h1 (by simp [hq, hxu]) v he, fun v hv => by simp at hv⟩, Nat.le_refl _⟩
      · rintro k s w2 hk ⟨q', D, rfl, hc, hu'⟩ hw2
        simp only [f49_L20]
        rw [d_true (show (k : Int) < len (il (suc n (tr E) u)) by rw [len_eq, il_len]; omega), wi64_nat (by omega), cond_true, idx_some' (il_get hk), Option.bind_some]
        have hmem := mem_suc.1 (List.getElem_mem hk)
        have htk := take_succ hk
        generalize (suc n (tr E) u)[k] = v at hmem htk
        have hev := mem_tr.1 hmem.2
        rw [chk_true (inb_some (dl_get D hmem.1)), idx_some' (dl_get D hmem.1), Option.bind_some]
        refine Yld.cond (fun hcc => ?_) fun hcc => ?_
        · rw [decide_eq_true_eq] at hcc
          rw [chk_true (inb_some (dl_get D hmem.1)), Option.bind_some, Option.bind_some, ck0 (by rw [il_len]; omega), il_app, dl_set]
          have hCv : C v < 0 := by
            refine Classical.byContradiction fun h' => ?_
            have := hc.old v hmem.1 (by omega); omega
          have key : ∀ x, 0 ≤ D x → upF D v (r : Int) x = D x := fun x hx => upF_ne D _ (fun e => by subst e; omega)
          refine hw2 (_, _) ⟨q' ++ [v], _, rfl, ⟨fun x hx h0 => ?_, fun x hx h0 => ?_, ?_, fun x hx => ?_, fun x hx h0 h1 hq hxu y hy => ?_, fun x hx => ?_⟩, ?_⟩
          · rw [key x (by rw [hc.old x hx h0]; exact h0)]; exact hc.old x hx h0
          · by_cases e : x = v
            · subst e; rw [upF_self]; exact .inr ⟨rfl, Re.head hev hur⟩
            · rw [upF_ne D _ e]; exact hc.new x hx h0
          · rw [key r (by rw [hc.root]; omega)]; exact hc.root
          · rcases List.mem_append.1 hx with hx | hx
            · have := hc.qs x hx
              exact ⟨this.1, this.2.1, by rw [key x (by rw [this.2.2]; omega)]; exact this.2.2⟩
            · rw [List.mem_singleton] at hx; subst hx
              exact ⟨hmem.1, hCv, upF_self _ _ _⟩
          · have hxv : x ≠ v := fun e => hq (by simp [e])
            rw [upF_ne D _ hxv] at h1
            have := hc.prd x hx h0 h1 (fun h' => hq (by simp [h'])) hxu y hy
            rw [key y this]; exact this
          · rw [htk] at hx
            rcases List.mem_append.1 hx with hx | hx
            · have := hc.got x hx
              rw [key x this]; exact this
            · rw [List.mem_singleton] at hx; subst hx; rw [upF_self]; omega
          · have := unl_push (c := (r : Int)) hmem.1 hcc (by omega)
            rw [List.length_append, List.length_singleton]; omega
        · rw [decide_eq_false_iff_not] at hcc
          refine hw2 (_, _) ⟨q', D, rfl, ⟨hc.old, hc.new, hc.root, hc.qs, hc.prd, fun x hx => ?_⟩, hu'⟩
          rw [htk] at hx
          rcases List.mem_append.1 hx with hx | hx
          · exact hc.got x hx
          · rw [List.mem_singleton] at hx; subst hx; omega
      · rintro s w2 ⟨q', D, rfl, hc, hu'⟩
        simp only [f49_L20]
        rw [d_false (show ¬ ((suc n (tr E) u).length : Int) < len (il (suc n (tr E) u)) by rw [len_eq, il_len]; omega), cond_false]
        have hgot := hc.got
        rw [List.take_length] at hgot
        refine hw (_, _) ⟨D, q', rfl, ⟨hc.old, hc.new, hc.root, hc.qs, fun x hx h0 h1 hq v he => ?_⟩, by omega⟩ ?_
        · by_cases e : x = u
          · subst e; exact hgot v (mem_suc.2 ⟨(hN _ he).1, mem_tr.2 he⟩)
          · exact hc.prd x hx h0 h1 hq e v he
        · simp only [ec, il_len, List.length_append, List.length_singleton]
          omega
  · by_cases e : x = r
    · subst e; rw [upF_self]; exact .inr ⟨rfl, Re.refl E _⟩
    · rw [upF_ne C _ e]
      rcases hC.low x hx with h1 | ⟨y, h1, _⟩
      · exact .inl h1
      · omega
  · rw [List.mem_singleton] at hx; subst hx
    exact ⟨hrn, hr, upF_self _ _ _⟩
  · have hxr : x ≠ r := fun e => hq (by simp [e])
    rw [upF_ne C _ hxr] at h1
    omega
  · have := cnt_n n fun x => decide (upF C r (r : Int) x < 0)
    unfold unl
    simp only [List.length_singleton]
    omega
  · have := cnt_n n fun x => decide (upF C r (r : Int) x < 0)
    simp only [ec]
    unfold unl
    simp only [List.length_cons, List.length_nil]
    omega

def nmb (M : Nat → Nat → Bool) : Nat → List Nat × Nat
  | 0 => ([], 0)
  | t + 1 => match (List.range t).find? (M t) with
    | some u => ((nmb M t).1 ++ [(nmb M t).1.getD u 0], (nmb M t).2)
    | none => ((nmb M t).1 ++ [(nmb M t).2], (nmb M t).2 + 1)
theorem nmb_len (M : Nat → Nat → Bool) : ∀ t, (nmb M t).1.length = t
  | 0 => rfl
  | t + 1 => by
    simp only [nmb]
    cases (List.range t).find? (M t) with
    | some u => simp [nmb_len M t]
    | none => simp [nmb_len M t]
theorem nmb_le (M : Nat → Nat → Bool) : ∀ t, (nmb M t).2 ≤ t
  | 0 => Nat.le_refl _
  | t + 1 => by
    simp only [nmb]
    have := nmb_le M t
    cases (List.range t).find? (M t) with
    | some u => simp only; omega
    | none => simp only; omega
theorem nmb_old (M : Nat → Nat → Bool) (t : Nat) {x : Nat} (hx : x < t) : (nmb M (t + 1)).1.getD x 0 = (nmb M t).1.getD x 0 := by
  have hl := nmb_len M t
  simp only [nmb]
  cases (List.range t).find? (M t) with
  | some u => simp only [List.getD_eq_getElem?_getD]; rw [List.getElem?_append_left (by omega)]
  | none => simp only [List.getD_eq_getElem?_getD]; rw [List.getElem?_append_left (by omega)]
theorem getD_snoc (l : List Nat) (a : Nat) : (l ++ [a]).getD l.length 0 = a := by simp [List.getD_eq_getElem?_getD]
noncomputable def mB (E : List (Nat × Nat)) (t u : Nat) : Bool := rB E [t] u && rB E [u] t
theorem mB_iff {E : List (Nat × Nat)} {t u : Nat} : mB E t u = true ↔ Mut E t u := by
  unfold mB Mut
  rw [Bool.and_eq_true, rB_re, rB_re]
theorem mget_mput {β : Type} (m : List (Int × β)) (x : Int) (y : β) (z : Int) : mget (keyEq (.int .i64)) (mput (keyEq (.int .i64)) m x y) z = if z = x then some y else mget (keyEq (.int .i64)) m z := by
  induction m with
  | nil =>
    simp only [mput, mget, keyEq]
    by_cases h : z = x
    · simp [h]
    · simp [h]
  | cons p m ih =>
    obtain ⟨k, v⟩ := p
    simp only [mput, keyEq]
    by_cases hxk : x = k
    · subst hxk
      simp only [decide_true, cond_true, mget, keyEq]
      by_cases h : z = x
      · simp [h]
      · simp [h]
    · rw [d_false hxk, cond_false]
      simp only [mget, keyEq]
      by_cases hzk : z = k
      · subst hzk
        rw [if_neg (Ne.symm hxk)]; simp
      · rw [d_false hzk, cond_false, cond_false]
        exact ih
theorem mput_len {β : Type} (m : List (Int × β)) (x : Int) (y : β) (h : mget (keyEq (.int .i64)) m x = none) : (mput (keyEq (.int .i64)) m x y).length = m.length + 1 := by
  induction m with
  | nil => rfl
  | cons p m ih =>
    obtain ⟨k, v⟩ := p
    simp only [mget, keyEq] at h
    by_cases hxk : x = k
    · subst hxk; simp at h
    · rw [d_false hxk, cond_false] at h
      simp only [mput, keyEq]
      rw [d_false hxk, cond_false, List.length_cons, ih h, List.length_cons]
theorem f49_num {n : Nat} {E : List (Nat × Nat)} (hn : n ≤ 10) {C : Nat → Int} (hC : ∀ x y, x < n → y < n → (C x = C y ↔ Mut E x y)) {R : Type} {Q : R → Prop} {kx : List Int → Option R} (hkx : Yld (kx (il (nmb (mB E) n).1)) Q) :
    Yld (iter (fun w => f49_L30 5000 (len (dl n C)) (dl n C) w kx) 5000 (0, dl n fun _ => 0, ([] : List (Int × Int)))) Q := by
  refine Yld.up (fun k (s : List Int × List (Int × Int)) => ∃ O m, s = (dl n O, m) ∧ (∀ x, x < k → O x = ((nmb (mB E) k).1.getD x 0 : Nat)) ∧ m.length = (nmb (mB E) k).2 ∧ (∀ u, u < k → mget (keyEq (.int .i64)) m (C u) = some (O u)) ∧ ∀ l, (∀ u, u < k → C u ≠ l) → mget (keyEq (.int .i64)) m l = none) n ?_ ?_ 5000 0 (Nat.zero_le _) (by omega) _ ⟨_, _, rfl, fun x hx => by omega, rfl, fun u hu => by omega, fun l _ => rfl⟩
  · rintro k s w hk ⟨O, m, rfl, h1, h2, h3, h4⟩ hw
    simp only [f49_L30]
    rw [d_true (show (k : Int) < len (dl n C) by rw [len_eq, dl_len]; omega), wi64_nat (by omega), cond_true, chk_true (inb_some (dl_get C hk)), idx_some' (dl_get C hk), Option.bind_some]
    have hle := nmb_le (mB E) k
    have hll := nmb_len (mB E) k
    cases hfi : (List.range k).find? (mB E k) with
    | some u =>
      have hu := List.mem_range.1 (List.mem_of_find?_eq_some hfi)
      have hmu := mB_iff.1 (List.find?_some hfi)
      have hCu : C k = C u := (hC k u hk (by omega)).2 hmu
      have hnk : (nmb (mB E) (k + 1)) = ((nmb (mB E) k).1 ++ [(nmb (mB E) k).1.getD u 0], (nmb (mB E) k).2) := by simp only [nmb, hfi]
      rw [hCu, h3 u hu]
      simp only [Option.isSome_some, Bool.not_true, cond_false, Option.getD_some]
      rw [chk_true (inb_some (dl_get O hk)), idx_some' (dl_get O hk), Option.bind_some, Option.bind_some, dl_set]
      have hO : ∀ x, x < k → upF O k (O u) x = O x := fun x hx => upF_ne O _ (by omega)
      refine hw (_, _) ⟨_, m, rfl, fun x hx => ?_, by rw [hnk]; exact h2, fun v hv => ?_, fun l hl => h4 l fun v hv => hl v (by omega)⟩
      · by_cases e : x = k
        · subst e
          rw [upF_self, hnk, h1 u hu]
          simp only
          have := getD_snoc (nmb (mB E) x).1 ((nmb (mB E) x).1.getD u 0)
          rw [hll] at this
          rw [this]
        · rw [hO x (by omega), nmb_old _ _ (by omega)]; exact h1 x (by omega)
      · by_cases e : v = k
        · subst e; rw [upF_self, hCu]; exact h3 u hu
        · rw [hO v (by omega)]; exact h3 v (by omega)
    | none =>
      have hnone : ∀ u, u < k → C u ≠ C k := fun u hu e => by
        have := List.find?_eq_none.1 hfi u (List.mem_range.2 hu)
        exact this (mB_iff.2 ((hC k u hk (by omega)).1 e.symm))
      have hnk : (nmb (mB E) (k + 1)) = ((nmb (mB E) k).1 ++ [(nmb (mB E) k).2], (nmb (mB E) k).2 + 1) := by simp only [nmb, hfi]
      rw [h4 _ hnone]
      simp only [Option.isSome_none, Bool.not_false, cond_true]
      rw [ck0 (by omega), chk_true (inb_some (dl_get O hk)), idx_some' (dl_get O hk), Option.bind_some, Option.bind_some, dl_set, len_eq, h2]
      have hO : ∀ x, x < k → upF O k (((nmb (mB E) k).2 : Nat) : Int) x = O x := fun x hx => upF_ne O _ (by omega)
      refine hw (_, _) ⟨_, _, rfl, fun x hx => ?_, ?_, fun v hv => ?_, fun l hl => ?_⟩
      · by_cases e : x = k
        · subst e
          rw [upF_self, hnk]
          simp only
          have := getD_snoc (nmb (mB E) x).1 (nmb (mB E) x).2
          rw [hll] at this
          rw [this]
        · rw [hO x (by omega), nmb_old _ _ (by omega)]; exact h1 x (by omega)
      · rw [mput_len _ _ _ (h4 _ hnone), hnk, h2]
      · rw [mget_mput]
        by_cases e : v = k
        · subst e; rw [upF_self, if_pos rfl]
        · rw [if_neg (hnone v (by omega)), hO v (by omega)]; exact h3 v (by omega)
      · rw [mget_mput, if_neg (fun e => hl k (by omega) e.symm)]
        exact h4 l fun v hv => hl v (by omega)
  · rintro s w ⟨O, m, rfl, h1, h2, h3, h4⟩
    simp only [f49_L30]
    rw [d_false (show ¬ (n : Int) < len (dl n C) by rw [len_eq, dl_len]; omega), cond_false]
    have : dl n O = il (nmb (mB E) n).1 := by
      rw [il_dl, nmb_len]
      exact dl_eq fun x hx => h1 x hx
    rw [this]
    exact hkx
theorem f49_eq {n : Nat} {E : List (Nat × Nat)} (hN : Nod n E) (hn : n ≤ 10) (hl : E.length ≤ 100) : f49 5000 (grOf n E) = some (il (nmb (mB E) n).1) := by
  refine Yld.eq ?_
  unfold f49
  have hT := tr_nod hN
  rw [f42_eq hl, Option.bind_some, show (grOf n E).2.1 = toL E from rfl, show (grOf n E).1 = (n : Int) from rfl, f41_eq hT hn (by rw [tr_len]; exact hl), Option.bind_some, ckn (by omega), Int.toNat_natCast, show len (List.replicate n (0 : Int)) = (n : Int) from by rw [len_eq, List.length_replicate]]
  rw [rep_dl]
  refine Yld.up (fun k (o : List Int) => ∃ D, o = dl n D ∧ ∀ x, x < k → D x = -1) n ?_ ?_ 5000 0 (Nat.zero_le _) (by omega) _ ⟨_, rfl, fun x hx => by omega⟩
  · rintro k o w hk ⟨D, rfl, hD⟩ hw
    simp only [f49_L4]
    rw [d_true (show (k : Int) < (n : Int) by omega), wi64_nat (by omega), cond_true, chk_true (inb_some (dl_get D hk)), idx_some' (dl_get D hk), Option.bind_some, Option.bind_some, dl_set]
    refine hw _ ⟨_, rfl, fun x hx => ?_⟩
    by_cases e : x = k
    · subst e; exact upF_self _ _ _
    · rw [upF_ne D _ e]; exact hD x (by omega)
  rintro o w ⟨D, rfl, hD⟩
  simp only [f49_L4]
  rw [d_false (show ¬ (n : Int) < (n : Int) by omega), cond_false, f41_eq hN hn hl, Option.bind_some]
  refine Yld.then (f56_ok hN hn) ?_
  rintro r ⟨fin, rfl, hf⟩
  have hfl : fin.length ≤ n := pigeonB hf.nodup fun x hx => (hf.mem x).1 hx
  rw [il_dl, f57_eq (by omega), Option.bind_some]
  generalize hm : fin.length = m at hfl
  have hget : ∀ j, j < m → ∃ r, fin[m - 1 - j]? = some r ∧ ((fin.getD (m - 1 - j) 0 : Nat) : Int) = (r : Int) ∧ r < n := fun j hj => by
    have h1 : m - 1 - j < fin.length := by omega
    refine ⟨fin[m - 1 - j], List.getElem?_eq_getElem h1, ?_, (hf.mem _).1 (List.getElem_mem h1)⟩
    rw [List.getD_eq_getElem?_getD, List.getElem?_eq_getElem h1]; rfl
  refine Yld.up (fun j (o : List Int) => ∃ C, o = dl n C ∧ Lab n E C ∧ ∀ k x, m - j ≤ k → fin[k]? = some x → 0 ≤ C x) m ?_ ?_ 5000 0 (Nat.zero_le _) (by omega) _ ⟨D, rfl, ⟨fun x hx => .inl (hD x hx), fun x y hx h0 _ => by rw [hD x hx] at h0; omega⟩, fun k x hk h => by have := (List.getElem?_eq_some_iff.1 h).1; omega⟩
  · rintro j o w hj ⟨C, rfl, hC, hdone⟩ hw
    simp only [f49_L11]
    obtain ⟨r, hr, hr2, hrn⟩ := hget j hj
    rw [d_true (show (j : Int) < len (dl m fun k => ((fin.getD (m - 1 - k) 0 : Nat) : Int)) by rw [len_eq, dl_len]; omega), wi64_nat (by omega), cond_true, chk_true (inb_some (dl_get _ hj)), idx_some' (dl_get _ hj), Option.bind_some]
    simp only [hr2]
    rw [chk_true (inb_some (dl_get C hrn)), idx_some' (dl_get C hrn), Option.bind_some]
    have hdone' : ∀ k x, m - 1 - j < k → fin[k]? = some x → 0 ≤ C x := fun k x hk h => hdone k x (by omega) h
    refine Yld.cond (fun hc => ?_) fun hc => ?_
    · rw [decide_eq_true_eq] at hc
      refine hw _ ⟨C, rfl, hC, fun k x hk h => ?_⟩
      by_cases e : k = m - 1 - j
      · subst e
        rw [hr] at h
        have : r = x := by simpa using h
        rw [← this]; exact hc
      · exact hdone' k x (by omega) h
    · rw [decide_eq_false_iff_not] at hc
      rw [chk_true (inb_some (dl_get C hrn)), Option.bind_some, Option.bind_some, dl_set]
      refine f49_root hN hn hC hrn (by omega) _ _ _ _ fun C' hcol => ?_
      have hlab := hcol.lab hN hrn hC (by omega) fun y hy hCy hre => by
        obtain ⟨i, hi, rfl⟩ := List.mem_iff_getElem.1 ((hf.mem y).2 hy)
        exact kos hN hf hC hr hdone' _ i _ rfl (List.getElem?_eq_getElem hi) hCy hre
      refine hw _ ⟨C', rfl, hlab, fun k x hk h => ?_⟩
      by_cases e : k = m - 1 - j
      · subst e
        rw [hr] at h
        have : r = x := by simpa using h
        rw [← this, hcol.root]; omega
      · have h0 := hdone' k x (by omega) h
        rw [hcol.old x ((hf.mem x).1 (List.mem_of_getElem? h)) h0]; exact h0
  · rintro o w ⟨C, rfl, hC, hdone⟩
    simp only [f49_L11]
    rw [d_false (show ¬ (m : Int) < len (dl m fun k => ((fin.getD (m - 1 - k) 0 : Nat) : Int)) by rw [len_eq, dl_len]; omega), cond_false, ckn (by omega)]
    refine f49_num (E := E) (Q := fun y => y = il (nmb (mB E) n).1) hn (fun x y hx hy => ?_) (Yld.ret rfl)
    have all : ∀ x, x < n → 0 ≤ C x := fun x hx => by
      obtain ⟨i, hi, rfl⟩ := List.mem_iff_getElem.1 ((hf.mem x).2 hx)
      exact hdone i _ (by omega) (List.getElem?_eq_getElem hi)
    constructor
    · intro e
      have a := all x hx
      rcases hC.low x hx with h | ⟨r, h1, h2⟩
      · omega
      · rcases hC.low y hy with h | ⟨r', h3, h4⟩
        · omega
        · have : r = r' := by omega
          subst this
          exact h2.trans h4.symm
    · intro hm
      exact (hC.cls x y hx (all x hx) hm).symm
theorem f21_eq {n : Nat} {E : List (Nat × Nat)} (hN : Nod n E) (hn : n ≤ 10) (hl : E.length ≤ 100) : f21 5000 (grOf n E) = some (il (nmb (mB E) n).1, 0) := by
  refine Yld.eq ?_
  unfold f21
  rw [f32_eq hN hn hl, Option.bind_some, d_true rfl, Bool.not_true, cond_false]
  refine Yld.up (fun k (s : Int × List Int) => s = (((nmb (mB E) k).2 : Int), il (nmb (mB E) k).1)) n ?_ ?_ 5000 0 (Nat.zero_le _) (by omega) _ rfl
  · rintro k s w hk rfl hw
    simp only [f21_L7]
    have hle := nmb_le (mB E) k
    have hll := nmb_len (mB E) k
    rw [d_true (show (k : Int) < (grOf n E).1 from by show (k : Int) < (n : Int); omega), wi64_nat (show k < 9223372036854775807 by omega), cond_true]
    refine Yld.up (fun j (o : Int) => o = (((List.range j).find? (mB E k)).map fun u => (((nmb (mB E) k).1.getD u 0 : Nat) : Int)).getD (-1)) k ?_ ?_ 5000 0 (Nat.zero_le _) (by omega) _ rfl
    · rintro j o w2 hj rfl hw2
      simp only [f21_L11]
      rw [d_true (show (j : Int) < (k : Int) by omega), wi64_nat (by omega), cond_true]
      rw [List.range_succ, List.find?_append] at hw2
      cases hfi : (List.range j).find? (mB E k) with
      | some u =>
        rw [hfi] at hw2
        simp only [Option.map_some, Option.getD_some]
        rw [d_false (show ¬ (((nmb (mB E) k).1.getD u 0 : Nat) : Int) < 0 by omega), cond_false, Option.bind_some, cond_false, Option.bind_some, cond_false]
        exact hw2 _ rfl
      | none =>
        rw [hfi] at hw2
        simp only [Option.map_none, Option.getD_none]
        rw [d_true (show (-1 : Int) < 0 by omega), cond_true, idx_some' (clo_get hk), Option.bind_some, show idx (rch n E [k]) (j : Int) = some (rB E [k] j) from map_range_get _ (by omega), Option.bind_some, Option.bind_some, idx_some' (clo_get (show j < n by omega)), Option.bind_some, show idx (rch n E [j]) (k : Int) = some (rB E [j] k) from map_range_get _ hk, Option.bind_some, bindc']
        rw [show (rB E [k] j && rB E [j] k) = mB E k j from rfl]
        have hjl : j < (nmb (mB E) k).1.length := by omega
        rw [chk_true (inb_some (il_get hjl)), idx_some' (il_get hjl), Option.bind_some]
        refine Yld.cond (fun hc => hw2 _ ?_) fun hc => hw2 _ ?_
        · rw [Option.none_or, List.find?_singleton, if_pos hc]
          simp only [Option.map_some, Option.getD_some, List.getD_eq_getElem?_getD, List.getElem?_eq_getElem hjl]
        · rw [Option.none_or, List.find?_singleton, if_neg (by rw [hc]; simp)]
          rfl
    · rintro o w2 rfl
      simp only [f21_L11]
      rw [d_false (show ¬ (k : Int) < (k : Int) by omega), cond_false]
      cases hfi : (List.range k).find? (mB E k) with
      | some u =>
        simp only [Option.map_some, Option.getD_some]
        rw [d_false (show ¬ (((nmb (mB E) k).1.getD u 0 : Nat) : Int) < 0 by omega), cond_false, ck0 (by rw [il_len]; omega), il_app]
        refine hw (_, _) ?_
        simp only [nmb, hfi]
      | none =>
        simp only [Option.map_none, Option.getD_none]
        rw [d_true (show (-1 : Int) < 0 by omega), cond_true, ck0 (by rw [il_len]; omega), il_app, wi64_nat (by omega)]
        refine hw (_, _) ?_
        simp only [nmb, hfi]
        rfl
  · rintro s w rfl
    simp only [f21_L7]
    rw [d_false (show ¬ (n : Int) < (grOf n E).1 from by show ¬ (n : Int) < (n : Int); omega), cond_false]
    exact Yld.ret rfl
theorem bad20 {g : Gr} {c : Int} (h1 : f34 5000 g = some c) (h2 : f22 5000 g = some c) (hc : c ≠ 0) : f20 5000 g = some ([], c) ∧ f21 5000 g = some ([], c) := by
  unfold f20 f21
  rw [h1, Option.bind_some, (bad31 h1 h2 hc).2, Option.bind_some, d_false hc]
  exact ⟨rfl, rfl⟩
end Go.Kz
