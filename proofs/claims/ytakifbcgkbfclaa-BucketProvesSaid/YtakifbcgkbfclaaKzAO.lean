/-
  Plain lemmas on the words of the generated texts.
-/
import Derived.Test.YtakifbcgkbfclaaKzAK
import Derived.Test.YtakifbcgkbfclaaKzAJ
import Derived.Laws.Cover3
set_option linter.unusedVariables false
set_option linter.unusedSimpArgs false
namespace Go.Kz

/-- A loop by an invariant and a measure: if every round leads to the result, the loop does. -/
theorem iter_rule {α R : Type} {Body : (α → Option R) → α → Option R} {r : Option R} (Inv : α → Prop) (m : α → Nat)
    (h : ∀ x w, Inv x → (∀ y, Inv y → m y < m x → w y = r) → Body w x = r) : ∀ (n : Nat) (x : α), Inv x → m x < n → iter Body n x = r
  | 0, _, _, hn => by omega
  | n + 1, x, hx, hn => h x _ hx fun y hy hm => iter_rule Inv m h n y hy (by omega)

theorem idx_nat {α : Type} (l : List α) (k : Nat) : idx l (k : Int) = l[k]? := rfl
theorem idx_of {α : Type} {l : List α} {i : Int} (h0 : 0 ≤ i) (h1 : i < l.length) : idx l i = some (l[i.toNat]'(by omega)) := by
  obtain ⟨k, rfl⟩ := Int.eq_ofNat_of_zero_le h0
  simp only [idx_nat, Int.toNat_natCast]
  exact List.getElem?_eq_getElem (by omega)
theorem idx_lt {α : Type} {l : List α} {k : Nat} (h : k < l.length) : idx l (k : Int) = some l[k] := by simp [idx_nat, h]
theorem inb_lt {α : Type} {l : List α} {k : Nat} (h : k < l.length) : inb l (k : Int) = true := by simp [inb, h]
theorem setI_nat {α : Type} (l : List α) (k : Nat) (x : α) : setI l (k : Int) x = l.set k x := rfl
theorem len_eq {α : Type} (l : List α) : len l = (l.length : Int) := rfl
theorem chk_true {R : Type} {b : Bool} {x : Option R} (h : b = true) : chk b x = x := by rw [h]; rfl

theorem wi64_of {n : Int} (h1 : -9223372036854775808 ≤ n) (h2 : n ≤ 9223372036854775807) : wi64 n = n := by
  simp only [wi64, IntKind.wrap, IntKind.min, IntKind.max, IntKind.bits, IntKind.signed]
  simp
  omega
theorem wu64_of {n : Int} (h1 : 0 ≤ n) (h2 : n ≤ 18446744073709551615) : wu64 n = n := by
  simp only [wu64, IntKind.wrap, IntKind.min, IntKind.max, IntKind.bits, IntKind.signed]
  simp
  omega

end Go.Kz

/-
  Loops that count up.
-/
namespace Go.Kz
variable {σ R : Type} {r : Option R}

theorem iter_for {F : (Int × σ → Option R) → Int × σ → Option R} (Inv : Nat → σ → Prop) (n : Nat)
    (step : ∀ (k : Nat) (s : σ) (w : Int × σ → Option R), k < n → Inv k s → (∀ s', Inv (k + 1) s' → w ((k : Int) + 1, s') = r) → F w ((k : Int), s) = r)
    (last : ∀ (s : σ) (w : Int × σ → Option R), Inv n s → F w ((n : Int), s) = r) (N : Nat) (hN : n < N) (s0 : σ) (h0 : Inv 0 s0) : iter F N (0, s0) = r := by
  refine iter_rule (fun x => ∃ k : Nat, x.1 = (k : Int) ∧ k ≤ n ∧ Inv k x.2) (fun x => n - x.1.toNat) ?_ N (0, s0) ⟨0, rfl, by omega, h0⟩ (by simpa using hN)
  rintro ⟨x, s⟩ w ⟨k, hx, hk, hi⟩ hw
  simp only at hx hi
  subst hx
  by_cases hlt : k < n
  · exact step k s w hlt hi fun s' hs' => hw _ ⟨k + 1, by simp, by omega, hs'⟩ (by simp; omega)
  · have : k = n := by omega
    subst this
    exact last s w hi
theorem iter_forR {F : (σ × Int → Option R) → σ × Int → Option R} (Inv : Nat → σ → Prop) (n : Nat)
    (step : ∀ (k : Nat) (s : σ) (w : σ × Int → Option R), k < n → Inv k s → (∀ s', Inv (k + 1) s' → w (s', (k : Int) + 1) = r) → F w (s, (k : Int)) = r)
    (last : ∀ (s : σ) (w : σ × Int → Option R), Inv n s → F w (s, (n : Int)) = r) (N : Nat) (hN : n < N) (s0 : σ) (h0 : Inv 0 s0) : iter F N (s0, 0) = r := by
  refine iter_rule (fun x => ∃ k : Nat, x.2 = (k : Int) ∧ k ≤ n ∧ Inv k x.1) (fun x => n - x.2.toNat) ?_ N (s0, 0) ⟨0, rfl, by omega, h0⟩ (by simpa using hN)
  rintro ⟨s, x⟩ w ⟨k, hx, hk, hi⟩ hw
  simp only at hx hi
  subst hx
  by_cases hlt : k < n
  · exact step k s w hlt hi fun s' hs' => hw _ ⟨k + 1, by simp, by omega, hs'⟩ (by simp; omega)
  · have : k = n := by omega
    subst this
    exact last s w hi
theorem iter_forI {F : (Int → Option R) → Int → Option R} (Inv : Nat → Prop) (n : Nat)
    (step : ∀ (k : Nat) (w : Int → Option R), k < n → Inv k → (Inv (k + 1) → w ((k : Int) + 1) = r) → F w (k : Int) = r)
    (last : ∀ (w : Int → Option R), Inv n → F w (n : Int) = r) (N : Nat) (hN : n < N) (h0 : Inv 0) : iter F N 0 = r := by
  refine iter_rule (fun x => ∃ k : Nat, x = (k : Int) ∧ k ≤ n ∧ Inv k) (fun x => n - x.toNat) ?_ N 0 ⟨0, rfl, by omega, h0⟩ (by simpa using hN)
  rintro x w ⟨k, hx, hk, hi⟩ hw
  subst hx
  by_cases hlt : k < n
  · exact step k w hlt hi fun hs' => hw _ ⟨k + 1, by simp, by omega, hs'⟩ (by simp; omega)
  · have : k = n := by omega
    subst this
    exact last w hi

theorem dlt {k n : Nat} (h : k < n) : decide ((k : Int) < (n : Int)) = true := by simp [h]
theorem dnlt (n : Nat) : decide ((n : Int) < (n : Int)) = false := by simp
theorem dlt_len {α : Type} {l : List α} {k : Nat} (h : k < l.length) : decide ((k : Int) < len l) = true := by simp [len, h]
theorem dnlt_len {α : Type} (l : List α) : decide (((l.length : Nat) : Int) < len l) = false := by simp [len]
theorem chk_room {n : Nat} {x : Option R} (h : n ≤ 4294967296) : chk (decide (n ≤ room)) x = x := chk_true (decide_eq_true h)
theorem take_succ {α : Type} {l : List α} {k : Nat} (h : k < l.length) : l.take (k + 1) = l.take k ++ [l[k]] := by rw [List.take_succ_eq_append_getElem h]
theorem rev_ind {α : Type} {p : List α → Prop} (h0 : p []) (h1 : ∀ l x, p l → p (l ++ [x])) (l : List α) : p l := by
  have : ∀ n (l : List α), l.length = n → p l := by
    intro n
    induction n with
    | zero => intro l hl; have := List.eq_nil_of_length_eq_zero hl; subst this; exact h0
    | succ n ih =>
      intro l hl
      have hne : l ≠ [] := by intro h; subst h; simp at hl
      rw [← List.dropLast_concat_getLast hne]
      exact h1 _ _ (ih _ (by simp [hl]))
  exact this _ l rfl
end Go.Kz

/-
  Functions that ask first whether a slice of the caller's is nil: both answers lead to the same result.
-/
namespace Go.Kz
variable {R : Type}

/-- The end of a function. -/
def kFin (c : Ctx) (ts : List Ty) (rs : List ResultVar) : AExit → St → Option (resDen ts) := fun e σ => match e with
  | .exit _ => none
  | _ => norm c.res σ fun σ => resK c.tt σ ts rs fun r _ => some r

theorem fn_ok_nil {P : Program} {f : Nat} {fn : Func} {c : Ctx} {p : APat} {ts : List Ty} {F : p.den → Option (resDen ts)} {A B C : Code} {id : Nat} {o1 o2 : Oper} {s d1 d2 : Nat} {T T' : TypeId} {t tT : Ty} {oT : Bool} {σ0 : p.den → St}
    (hf : P.funcs[f]? = some fn) (hnm : (fn.name == "runtime.NumGoroutine") = false) (hb : fn.body = some (.seq A (.seq (.seq (.region id #[o1, o2] false) C) B)))
    (hc : CtxOK P c) (hm : P.follows .mixedOrders = true) (hn : c.ntmps = fn.ntmps) (hp : p.len ≤ fn.ntmps) (ht : exOKs ts = true)
    (hlA : ∀ b ∈ loopsOf A, LoopOK c b) (hlB : ∀ b ∈ loopsOf B, LoopOK c b) (hlC : ∀ b ∈ loopsOf C, LoopOK c b)
    (hA : ∀ d, codeK c A (entry p d) (fun e σ => match e with | .normal => some σ | _ => none) = some (σ0 d))
    (h1 : o1.op = .move (.tmp s)) (h1d : o1.dst = some d1) (h1g : o1.guard = none)
    (h2 : o2.op = .binOp .eql T (.tmp d1) (.const (.slice none 0 0)) T') (h2d : o2.dst = some d2) (h2g : o2.guard = none)
    (hd1 : d1 < c.ntmps) (hd2 : d2 < c.ntmps) (hT : c.tt T = some (.sl oT tT))
    (l : p.den → List t.den) (hs : ∀ d, (σ0 d).slots s = some (.data (.sl false t) (l d)))
    (heq : ∀ d b, (b = true → l d = []) → codeK c C (((σ0 d).set d1 (.data (.sl false t) (l d))).set d2 (.data .bool b)) (kSeq (kCut (cutAt c B) (codeK c B)) (kFin c ts fn.results.toList)) = F d) : CalleeOK P f (.pure p ts F) := by
  intro w g d vals r htag hargs hF
  left
  refine ⟨?_, ?_⟩
  · have hnm' : ¬ fn.name = "runtime.NumGoroutine" := by simpa using hnm
    simp [callFunc, hf, hb, hnm']
  obtain ⟨hst, hfr⟩ := entry_ok htag hargs hp
  rw [← hn] at hst
  refine calls_of_wp hf hb ?_
  rw [← hn]
  have hQ' : ∀ ch a w', ¬ bodyPost P fn (fun e w' => ∃ v, e = .returned v ∧ ∃ g', Ext w g w' g' ∧ ResOK w' g' (exposeRes ts r 0) v) (.panic ch) a w' := by
    intro ch a w h
    obtain ⟨_, v, h, _⟩ := h
    cases h
  generalize hQd : bodyPost P fn (fun e w' => ∃ v, e = .returned v ∧ ∃ g', Ext w g w' g' ∧ ResOK w' g' (exposeRes ts r 0) v) = Q at hQ' ⊢
  have fin : Kont c.ntmps g w (kFin c ts fn.results.toList) r Q := by
    subst hQd
    intro e σ' g' a' w' hk hst' hext' hf'
    have fin : ∀ {σ' : St}, norm c.res σ' (fun σ => resK c.tt σ ts fn.results.toList fun r _ => some r) = some r → StOK c.ntmps g' w' a' σ' → FreshUp g' σ' →
        ∃ v, (results fn a'.tmps).run P w' = .ok v w' ∧ ∃ g', Ext w g w' g' ∧ ResOK w' g' (exposeRes ts r 0) v := by
      intro σ' hk hst' hf'
      obtain ⟨σ1, g1, h1, hst1, hext1, _⟩ := norm_ok hst' hf' hk
      obtain ⟨v, g2, hr, hext2, hres⟩ := res_ok (P := P) hc.tt hst1 ht h1
      exact ⟨v, hr, g2, (hext'.trans hext1).trans hext2, hres⟩
    cases e with
    | exit id => simp [kFin] at hk
    | normal =>
      obtain ⟨v, h1, h2⟩ := fin hk hst' hf'
      exact ⟨hst'.defers, v, h1, v, rfl, h2⟩
    | ret =>
      obtain ⟨v, h1, h2⟩ := fin hk hst' hf'
      exact ⟨hst'.defers, v, h1, v, rfl, h2⟩
  refine wp_seq (code_ok hc hm A hlA (fun ch a w h => hQ' ch a w h) (hA d) hst hfr ?_)
  intro e σ1 g1 a1 w1 hk1 hst1 hext1 hf1
  cases e with
  | exit i => simp at hk1
  | ret => simp at hk1
  | normal =>
    simp only [Option.some.injEq] at hk1
    subst hk1
    show Code.wp P _ _ a1 w1
    refine wp_seq (wp_seq (wp_region ?_))
    obtain ⟨v, hv, hok⟩ := hst1.slots s _ (hs d)
    have hev : a1.eval (.tmp s) = v := by simp [Act.eval, Array.getD_eq_getD_getElem?, hv]
    have hr : List.range (#[o1, o2] : Array Oper).size = [0, 1] := rfl
    rw [hr]
    simp only [wpOps, List.getElem?_toArray, List.getElem?_cons_zero, List.getElem?_cons_succ, wanted_none h1g, wanted_none h2g, if_true]
    left
    have hst2 : StOK c.ntmps g1 w1 (a1.put o1.dst v) ((σ0 d).set d1 (.data (.sl false t) (l d))) := by
      rw [h1d]; exact hst1.put hd1 hok
    refine Yield_wp (v := v) (by simp [execOp, h1, hev]) ?_
    left
    obtain ⟨v2, hv2, hok2⟩ := hst2.slots d1 (.data (.sl false t) (l d)) (by simp [St.set, upd, Nat.beq_refl])
    have hev2 : (a1.put o1.dst v).eval (.tmp d1) = v2 := by simp [Act.eval, Array.getD_eq_getD_getElem?, hv2]
    have hvd : ∃ ad n cap, v2 = .slice ad n cap ∧ (ad.isNone = true → l d = []) := by
      simp only [VOK] at hok2
      obtain ⟨cs, ⟨_, ad, cap, rfl, _, _, hne⟩, hmk⟩ := hok2
      refine ⟨ad, _, cap, by rw [hmk]; rfl, fun hnone => ?_⟩
      by_cases hl : l d = []
      · exact hl
      · obtain ⟨b, off, c', e, fz, he, _⟩ := hne hl
        rw [he] at hnone; simp at hnone
    obtain ⟨ad, n, cap, rfl, hnil⟩ := hvd
    have hTu := hc.tt _ _ hT
    simp only [TyOK] at hTu
    obtain ⟨⟨E, hTE, _⟩, _⟩ := hTu
    have hrun : (execOp (a1.put o1.dst v).eval o2).run P w1 = .ok (.value (.bool ad.isNone)) w1 := by
      have := run_equal_slice_nil (P := P) w1 T E ad n cap hTE
      have h3 : (binOp .eql T (.slice ad n cap) (.slice none 0 0)).run P w1 = .ok (.bool ad.isNone) w1 := by
        simp only [binOp]
        simp [this]
      have hc0 : (a1.put o1.dst v).eval (.const (.slice none 0 0)) = .slice none 0 0 := rfl
      simp [execOp, h2, hev2, hc0, eqGuard, h3]
    refine Yield_wp hrun ?_
    have hst3 : StOK c.ntmps g1 w1 ((a1.put o1.dst v).put o2.dst (.bool ad.isNone)) (((σ0 d).set d1 (.data (.sl false t) (l d))).set d2 (.data .bool ad.isNone)) := by
      rw [h2d]; exact hst2.put hd2 (VOK_bool_mk _)
    have hf3 : FreshUp g1 (((σ0 d).set d1 (.data (.sl false t) (l d))).set d2 (.data .bool ad.isNone)) := by
      intro m hm'
      exact ((hf1 m hm').set d1 (by simp [AVal.ids])).set d2 (by simp [AVal.ids])
    show Code.wp P _ _ _ _
    have he := heq d ad.isNone hnil
    rw [hF] at he
    refine code_ok hc hm C hlC (Q := Exit.then (B.wp P Q) Q) (fun ch a w h => hQ' ch a w h) he hst3 hf3 ?_
    intro e σ4 g4 a4 w4 h4 hst4 hext4 hf4
    cases e with
    | normal =>
      simp only [kSeq, kCut] at h4
      show B.wp P Q a4 w4
      split at h4
      · obtain ⟨σ5, g5, h5, hst5, hext5, hf5⟩ := norm_ok hst4 hf4 h4
        exact code_ok hc hm B hlB hQ' h5 hst5 hf5 (fin.later ((hext1.trans hext4).trans hext5))
      · exact code_ok hc hm B hlB hQ' h4 hst4 hf4 (fin.later (hext1.trans hext4))
    | exit i => exact fin.later (hext1.trans hext4) (.exit i) σ4 g4 a4 w4 h4 hst4 (Ext.refl _ _) hf4
    | ret => exact fin.later (hext1.trans hext4) .ret σ4 g4 a4 w4 h4 hst4 (Ext.refl _ _) hf4

end Go.Kz

/-
  What a computation yields: rules for the words of the generated texts.
-/
namespace Go.Kz
variable {R α β σ : Type}

/-- It yields a value, of which Q holds. -/
def Yld (x : Option R) (Q : R → Prop) : Prop := ∃ r, x = some r ∧ Q r
theorem Yld.ret {r : R} {Q : R → Prop} (h : Q r) : Yld (some r) Q := ⟨r, rfl, h⟩
theorem Yld.mono {x : Option R} {P Q : R → Prop} (h : Yld x P) (hq : ∀ r, P r → Q r) : Yld x Q := let ⟨r, h1, h2⟩ := h; ⟨r, h1, hq r h2⟩
theorem Yld.bind {m : Option α} {f : α → Option R} {Q : R → Prop} (h : Yld m fun a => Yld (f a) Q) : Yld (m.bind f) Q := by
  obtain ⟨a, rfl, r, h1, h2⟩ := h
  exact ⟨r, h1, h2⟩
theorem Yld.then {m : Option α} {f : α → Option R} {P : α → Prop} {Q : R → Prop} (h : Yld m P) (hf : ∀ a, P a → Yld (f a) Q) : Yld (m.bind f) Q := Yld.bind (h.mono hf)
theorem Yld.cond {b : Bool} {x y : Option R} {Q : R → Prop} (h1 : b = true → Yld x Q) (h2 : b = false → Yld y Q) : Yld (cond b x y) Q := by
  cases b with
  | true => exact h1 rfl
  | false => exact h2 rfl
theorem Yld.chk {b : Bool} {x : Option R} {Q : R → Prop} (hb : b = true) (h : Yld x Q) : Yld (chk b x) Q := by rw [hb]; exact h
theorem Yld.idx {l : List α} {i : Int} {Q : α → Prop} (h0 : 0 ≤ i) (h1 : i < l.length) (h : ∀ hk : i.toNat < l.length, Q l[i.toNat]) : Yld (idx l i) Q :=
  ⟨_, idx_of h0 h1, h _⟩
theorem Yld.idxN {l : List α} {k : Nat} {Q : α → Prop} (hk : k < l.length) (h : Q l[k]) : Yld (Go.Kz.idx l (k : Int)) Q := ⟨_, idx_lt hk, h⟩
theorem Yld.eq {x : Option R} {r : R} (h : Yld x fun y => y = r) : x = some r := by obtain ⟨y, rfl, rfl⟩ := h; rfl
theorem Yld.of {x : Option R} {r : R} {Q : R → Prop} (h : x = some r) (hq : Q r) : Yld x Q := ⟨r, h, hq⟩

theorem Yld.iter {Q : R → Prop} {Body : (α → Option R) → α → Option R} (Inv : α → Prop) (m : α → Nat)
    (h : ∀ x w, Inv x → (∀ y, Inv y → m y < m x → Yld (w y) Q) → Yld (Body w x) Q) : ∀ (n : Nat) (x : α), Inv x → m x < n → Yld (iter Body n x) Q
  | 0, _, _, hn => by omega
  | n + 1, x, hx, hn => h x _ hx fun y hy hm => Yld.iter Inv m h n y hy (by omega)
/-- A loop that counts up from a number; the count stands first. -/
theorem Yld.up {Q : R → Prop} {F : (Int × σ → Option R) → Int × σ → Option R} (Inv : Nat → σ → Prop) (n : Nat)
    (step : ∀ (k : Nat) (s : σ) (w : Int × σ → Option R), k < n → Inv k s → (∀ s', Inv (k + 1) s' → Yld (w ((k : Int) + 1, s')) Q) → Yld (F w ((k : Int), s)) Q)
    (last : ∀ (s : σ) (w : Int × σ → Option R), Inv n s → Yld (F w ((n : Int), s)) Q) (N k0 : Nat) (hk : k0 ≤ n) (hN : n - k0 < N) (s0 : σ) (h0 : Inv k0 s0) : Yld (Go.Kz.iter F N ((k0 : Int), s0)) Q := by
  refine Yld.iter (fun x => ∃ k : Nat, x.1 = (k : Int) ∧ k ≤ n ∧ Inv k x.2) (fun x => n - x.1.toNat) ?_ N _ ⟨k0, rfl, hk, h0⟩ (by simpa using hN)
  rintro ⟨x, s⟩ w ⟨k, hx, hk, hi⟩ hw
  simp only at hx hi
  subst hx
  by_cases hlt : k < n
  · exact step k s w hlt hi fun s' hs' => hw _ ⟨k + 1, by simp, by omega, hs'⟩ (by simp; omega)
  · have : k = n := by omega
    subst this
    exact last s w hi
theorem Yld.upI {Q : R → Prop} {F : (Int → Option R) → Int → Option R} (Inv : Nat → Prop) (n : Nat)
    (step : ∀ (k : Nat) (w : Int → Option R), k < n → Inv k → (Inv (k + 1) → Yld (w ((k : Int) + 1)) Q) → Yld (F w (k : Int)) Q)
    (last : ∀ (w : Int → Option R), Inv n → Yld (F w (n : Int)) Q) (N k0 : Nat) (hk : k0 ≤ n) (hN : n - k0 < N) (h0 : Inv k0) : Yld (Go.Kz.iter F N (k0 : Int)) Q := by
  refine Yld.iter (fun x => ∃ k : Nat, x = (k : Int) ∧ k ≤ n ∧ Inv k) (fun x => n - x.toNat) ?_ N _ ⟨k0, rfl, hk, h0⟩ (by simpa using hN)
  rintro x w ⟨k, hx, hk, hi⟩ hw
  subst hx
  by_cases hlt : k < n
  · exact step k w hlt hi fun hs' => hw _ ⟨k + 1, by simp, by omega, hs'⟩ (by simp; omega)
  · have : k = n := by omega
    subst this
    exact last w hi
/-- The same where the count stands last. -/
theorem Yld.upR {Q : R → Prop} {F : (σ × Int → Option R) → σ × Int → Option R} (Inv : Nat → σ → Prop) (n : Nat)
    (step : ∀ (k : Nat) (s : σ) (w : σ × Int → Option R), k < n → Inv k s → (∀ s', Inv (k + 1) s' → Yld (w (s', (k : Int) + 1)) Q) → Yld (F w (s, (k : Int))) Q)
    (last : ∀ (s : σ) (w : σ × Int → Option R), Inv n s → Yld (F w (s, (n : Int))) Q) (N k0 : Nat) (hk : k0 ≤ n) (hN : n - k0 < N) (s0 : σ) (h0 : Inv k0 s0) : Yld (Go.Kz.iter F N (s0, (k0 : Int))) Q := by
  refine Yld.iter (fun x => ∃ k : Nat, x.2 = (k : Int) ∧ k ≤ n ∧ Inv k x.1) (fun x => n - x.2.toNat) ?_ N _ ⟨k0, rfl, hk, h0⟩ (by simpa using hN)
  rintro ⟨s, x⟩ w ⟨k, hx, hk, hi⟩ hw
  simp only at hx hi
  subst hx
  by_cases hlt : k < n
  · exact step k s w hlt hi fun s' hs' => hw _ ⟨k + 1, by simp, by omega, hs'⟩ (by simp; omega)
  · have : k = n := by omega
    subst this
    exact last s w hi

theorem Yld.first {Q : R → Prop} {F : (α → Option R) → α → Option R} {N : Nat} {x : α} (hN : 0 < N) (h : ∀ w, Yld (F w x) Q) : Yld (Go.Kz.iter F N x) Q := by
  cases N with
  | zero => omega
  | succ n => exact h _

/-- A loop that goes on as long as p holds. -/
theorem iter_allN {F : (Int → Option R) → Int → Option R} (k0 n : Nat) (hk0 : k0 ≤ n) (p : Nat → Bool) (A B : Option R)
    (step : ∀ (k : Nat) (w : Int → Option R), k0 ≤ k → k < n → F w (k : Int) = if p k then w ((k : Int) + 1) else B)
    (last : ∀ (w : Int → Option R), F w (n : Int) = A) (N : Nat) (hN : n - k0 < N) : iter F N (k0 : Int) = if (List.range (n - k0)).all (fun j => p (k0 + j)) then A else B := by
  have key : ∀ (M k : Nat), k ≤ n - k0 → n - k0 - k < M → ((List.range k).all (fun j => p (k0 + j)) = true) → iter F M ((k0 + k : Nat) : Int) = if (List.range (n - k0)).all (fun j => p (k0 + j)) then A else B := by
    intro M
    induction M with
    | zero => intro k _ h; omega
    | succ M ih =>
      intro k hk hM hall
      simp only [iter]
      by_cases hlt : k < n - k0
      · rw [step (k0 + k) _ (by omega) (by omega)]
        cases hp : p (k0 + k) with
        | true =>
          simp only [if_true]
          have := ih (k + 1) hlt (by omega) (by rw [List.range_succ, List.all_append, hall]; simp [hp])
          rw [show (((k0 + (k + 1) : Nat)) : Int) = ((k0 + k : Nat) : Int) + 1 from by omega] at this
          exact this
        | false =>
          have : (List.range (n - k0)).all (fun j => p (k0 + j)) = false := by
            rw [List.all_eq_false]
            exact ⟨k, by simp [hlt], by simp [hp]⟩
          rw [this]; simp
      · have : k = n - k0 := by omega
        subst this
        rw [show k0 + (n - k0) = n from by omega, last, hall]; simp
  have := key N 0 (Nat.zero_le _) (by omega) rfl
  simpa using this
theorem iter_allL {F : (Int → Option R) → Int → Option R} (l : List α) (p : α → Bool) (A B : Option R)
    (step : ∀ (k : Nat) (w : Int → Option R) (hk : k < l.length), F w (k : Int) = if p l[k] then w ((k : Int) + 1) else B)
    (last : ∀ (w : Int → Option R), F w (l.length : Int) = A) (N : Nat) (hN : l.length < N) : iter F N 0 = if l.all p then A else B := by
  have := iter_allN (F := F) 0 l.length (Nat.zero_le _) (fun k => match l[k]? with
    | some x => p x
    | none => true) A B (fun k w _ hk => by rw [step k w hk]; simp [hk]) last N (by omega)
  rw [show ((0 : Nat) : Int) = 0 from rfl] at this
  rw [this]
  congr 1
  have e : ((List.range (l.length - 0)).all fun j => match l[0 + j]? with
    | some x => p x
    | none => true) = l.all p := by
    rw [Bool.eq_iff_iff, List.all_eq_true, List.all_eq_true]
    constructor
    · intro h x hx
      obtain ⟨i, hi, rfl⟩ := List.mem_iff_getElem.1 hx
      have := h i (by simp [hi])
      simpa [hi] using this
    · intro h i hi
      have hi' : i < l.length := by simpa using hi
      simp only [Nat.zero_add, List.getElem?_eq_getElem hi']
      exact h _ (List.getElem_mem hi')
  rw [e]

theorem wi64_nat {k : Nat} (h : k < 9223372036854775807) : wi64 ((k : Int) + 1) = (k : Int) + 1 := wi64_of (by omega) (by omega)
theorem wi64_pred {k : Nat} (h : 0 < k) (h2 : k < 9223372036854775807) : wi64 ((k : Int) - 1) = ((k - 1 : Nat) : Int) := by
  rw [wi64_of (by omega) (by omega)]; omega
theorem d_false {p : Prop} [Decidable p] (h : ¬ p) : decide p = false := decide_eq_false h
theorem d_true {p : Prop} [Decidable p] (h : p) : decide p = true := decide_eq_true h

end Go.Kz
