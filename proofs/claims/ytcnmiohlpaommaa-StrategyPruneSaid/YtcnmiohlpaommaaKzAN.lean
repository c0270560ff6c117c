/-
  Functions that ask first whether a slice of the caller's is nil: both answers lead to the same result.
-/
import Derived.Test.YtcnmiohlpaommaaKzAJ
import Derived.Laws.Cover3
set_option linter.unusedVariables false
set_option linter.unusedSimpArgs false
namespace Go.Kz
variable {R : Type}

/-- The end of a function. -/
def kFin (c : Ctx) (ts : List Ty) (rs : List ResultVar) : AExit → St → Option (resDen ts) := fun e σ => match e with
  | .exit _ => none
  | _ => norm c.res σ fun σ => resK c.tt σ ts rs fun r _ => some r

theorem fn_ok_nil {P : Program} {f : Nat} {fn : Func} {c : Ctx} {p : APat} {ts : List Ty} {F : p.den → Option (resDen ts)} {A B C : Code} {id : Nat} {o1 o2 : Oper} {s d1 d2 : Nat} {T T' : TypeId} {t tT : Ty} {oT : Bool} {σ0 : p.den → St}
    (hf : P.funcs[f]? = some fn) (hnm : (fn.name == "runtime.NumGoroutine") = false) (hb : fn.body = some (.seq A (.seq (.seq (.region id #[o1, o2] false) C) B)))
    (hc : CtxOK P c) (hm : P.follows .mixedOrders = true) (hn : c.ntmps = fn.ntmps) (hp : p.len ≤ fn.ntmps) (ht : exOKs ts = true)
    (hlA : ∀ b ∈ loopsOf A, LoopOK c b) (hlB : ∀ b ∈ loopsOf B, LoopOK c b) (hlC : ∀ b ∈ loopsOf C, LoopOK c b)
    (hA : ∀ d, codeK c A (entry p d) (fun e σ => match e with | .normal => some σ | _ => none) = some (σ0 d))
    (h1 : o1.op = .move (.tmp s)) (h1d : o1.dst = some d1) (h1g : o1.guard = none)
    (h2 : o2.op = .binOp .eql T (.tmp d1) (.const (.slice none 0 0)) T') (h2d : o2.dst = some d2) (h2g : o2.guard = none)
    (hd1 : d1 < c.ntmps) (hd2 : d2 < c.ntmps) (hT : c.tt T = some (.sl oT tT))
    (l : p.den → List t.den) (hs : ∀ d, (σ0 d).slots s = some (.data (.sl false t) (l d)))
    (heq : ∀ d b, (b = true → l d = []) → codeK c C (((σ0 d).set d1 (.data (.sl false t) (l d))).set d2 (.data .bool b)) (kSeq (kCut (cutAt c B) (codeK c B)) (kFin c ts fn.results.toList)) = F d) : CalleeOK P f (.pure p ts F) := by
  intro w g d vals r htag hargs hF
  left
  refine ⟨?_, ?_⟩
  · have hnm' : ¬ fn.name = "runtime.NumGoroutine" := by simpa using hnm
    simp [callFunc, hf, hb, hnm']
  obtain ⟨hst, hfr⟩ := entry_ok htag hargs hp
  rw [← hn] at hst
  refine calls_of_wp hf hb ?_
  rw [← hn]
  have hQ' : ∀ ch a w', ¬ bodyPost P fn (fun e w' => ∃ v, e = .returned v ∧ ∃ g', Ext w g w' g' ∧ ResOK w' g' (exposeRes ts r 0) v) (.panic ch) a w' := by
    intro ch a w h
    obtain ⟨_, v, h, _⟩ := h
    cases h
  generalize hQd : bodyPost P fn (fun e w' => ∃ v, e = .returned v ∧ ∃ g', Ext w g w' g' ∧ ResOK w' g' (exposeRes ts r 0) v) = Q at hQ' ⊢
  have fin : Kont c.ntmps g w (kFin c ts fn.results.toList) r Q := by
    subst hQd
    intro e σ' g' a' w' hk hst' hext' hf'
    have fin : ∀ {σ' : St}, norm c.res σ' (fun σ => resK c.tt σ ts fn.results.toList fun r _ => some r) = some r → StOK c.ntmps g' w' a' σ' → FreshUp g' σ' →
        ∃ v, (results fn a'.tmps).run P w' = .ok v w' ∧ ∃ g', Ext w g w' g' ∧ ResOK w' g' (exposeRes ts r 0) v := by
      intro σ' hk hst' hf'
      obtain ⟨σ1, g1, h1, hst1, hext1, _⟩ := norm_ok hst' hf' hk
      obtain ⟨v, g2, hr, hext2, hres⟩ := res_ok (P := P) hc.tt hst1 ht h1
      exact ⟨v, hr, g2, (hext'.trans hext1).trans hext2, hres⟩
    cases e with
    | exit id => simp [kFin] at hk
    | normal =>
      obtain ⟨v, h1, h2⟩ := fin hk hst' hf'
      exact ⟨hst'.defers, v, h1, v, rfl, h2⟩
    | ret =>
      obtain ⟨v, h1, h2⟩ := fin hk hst' hf'
      exact ⟨hst'.defers, v, h1, v, rfl, h2⟩
  refine wp_seq (code_ok hc hm A hlA (fun ch a w h => hQ' ch a w h) (hA d) hst hfr ?_)
  intro e σ1 g1 a1 w1 hk1 hst1 hext1 hf1
  cases e with
  | exit i => simp at hk1
  | ret => simp at hk1
  | normal =>
    simp only [Option.some.injEq] at hk1
    subst hk1
    show Code.wp P _ _ a1 w1
    refine wp_seq (wp_seq (wp_region ?_))
    obtain ⟨v, hv, hok⟩ := hst1.slots s _ (hs d)
    have hev : a1.eval (.tmp s) = v := by simp [Act.eval, Array.getD_eq_getD_getElem?, hv]
    have hr : List.range (#[o1, o2] : Array Oper).size = [0, 1] := rfl
    rw [hr]
    simp only [wpOps, List.getElem?_toArray, List.getElem?_cons_zero, List.getElem?_cons_succ, wanted_none h1g, wanted_none h2g, if_true]
    left
    have hst2 : StOK c.ntmps g1 w1 (a1.put o1.dst v) ((σ0 d).set d1 (.data (.sl false t) (l d))) := by
      rw [h1d]; exact hst1.put hd1 hok
    refine Yield_wp (v := v) (by simp [execOp, h1, hev]) ?_
    left
    obtain ⟨v2, hv2, hok2⟩ := hst2.slots d1 (.data (.sl false t) (l d)) (by simp [St.set, upd, Nat.beq_refl])
    have hev2 : (a1.put o1.dst v).eval (.tmp d1) = v2 := by simp [Act.eval, Array.getD_eq_getD_getElem?, hv2]
    have hvd : ∃ ad n cap, v2 = .slice ad n cap ∧ (ad.isNone = true → l d = []) := by
      simp only [VOK] at hok2
      obtain ⟨cs, ⟨_, ad, cap, rfl, _, _, hne⟩, hmk⟩ := hok2
      refine ⟨ad, _, cap, by rw [hmk]; rfl, fun hnone => ?_⟩
      by_cases hl : l d = []
      · exact hl
      · obtain ⟨b, off, c', e, fz, he, _⟩ := hne hl
        rw [he] at hnone; simp at hnone
    obtain ⟨ad, n, cap, rfl, hnil⟩ := hvd
    have hTu := hc.tt _ _ hT
    simp only [TyOK] at hTu
    obtain ⟨⟨E, hTE, _⟩, _⟩ := hTu
    have hrun : (execOp (a1.put o1.dst v).eval o2).run P w1 = .ok (.value (.bool ad.isNone)) w1 := by
      have := run_equal_slice_nil (P := P) w1 T E ad n cap hTE
      have h3 : (binOp .eql T (.slice ad n cap) (.slice none 0 0)).run P w1 = .ok (.bool ad.isNone) w1 := by
        simp only [binOp]
        simp [this]
      have hc0 : (a1.put o1.dst v).eval (.const (.slice none 0 0)) = .slice none 0 0 := rfl
      simp [execOp, h2, hev2, hc0, eqGuard, h3]
    refine Yield_wp hrun ?_
    have hst3 : StOK c.ntmps g1 w1 ((a1.put o1.dst v).put o2.dst (.bool ad.isNone)) (((σ0 d).set d1 (.data (.sl false t) (l d))).set d2 (.data .bool ad.isNone)) := by
      rw [h2d]; exact hst2.put hd2 (VOK_bool_mk _)
    have hf3 : FreshUp g1 (((σ0 d).set d1 (.data (.sl false t) (l d))).set d2 (.data .bool ad.isNone)) := by
      intro m hm'
      exact ((hf1 m hm').set d1 (by simp [AVal.ids])).set d2 (by simp [AVal.ids])
    show Code.wp P _ _ _ _
    have he := heq d ad.isNone hnil
    rw [hF] at he
    refine code_ok hc hm C hlC (Q := Exit.then (B.wp P Q) Q) (fun ch a w h => hQ' ch a w h) he hst3 hf3 ?_
    intro e σ4 g4 a4 w4 h4 hst4 hext4 hf4
    cases e with
    | normal =>
      simp only [kSeq, kCut] at h4
      show B.wp P Q a4 w4
      split at h4
      · obtain ⟨σ5, g5, h5, hst5, hext5, hf5⟩ := norm_ok hst4 hf4 h4
        exact code_ok hc hm B hlB hQ' h5 hst5 hf5 (fin.later ((hext1.trans hext4).trans hext5))
      · exact code_ok hc hm B hlB hQ' h4 hst4 hf4 (fin.later (hext1.trans hext4))
    | exit i => exact fin.later (hext1.trans hext4) (.exit i) σ4 g4 a4 w4 h4 hst4 (Ext.refl _ _) hf4
    | ret => exact fin.later (hext1.trans hext4) .ret σ4 g4 a4 w4 h4 hst4 (Ext.refl _ _) hf4

end Go.Kz
