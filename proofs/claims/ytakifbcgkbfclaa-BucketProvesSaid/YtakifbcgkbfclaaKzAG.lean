/-
  Code: what the interpreter says of it is what the model does.
-/
import Derived.Test.YtakifbcgkbfclaaKzAF
import Derived.LoopN
set_option linter.unusedVariables false
set_option linter.unusedSimpArgs false
namespace Go.Kz
variable {R : Type}

def AExit.to : AExit → Exit
  | .normal => .normal
  | .exit i => .exit i
  | .ret => .ret

/-- What must hold wherever the code is left. -/
def Kont (n : Nat) (g : Ghost) (w : World) (k : AExit → St → Option R) (r : R) (Q : Exit → Act → World → Prop) : Prop :=
  ∀ e σ' g' a' w', k e σ' = some r → StOK n g' w' a' σ' → Ext w g w' g' → FreshUp g' σ' → Q e.to a' w'

theorem Kont.later {n : Nat} {g g' : Ghost} {w w' : World} {k : AExit → St → Option R} {r : R} {Q : Exit → Act → World → Prop} (h : Kont n g w k r Q) (he : Ext w g w' g') : Kont n g' w' k r Q :=
  fun e σ' g2 a' w2 hk hst hext hf => h e σ' g2 a' w2 hk hst (he.trans hext) hf

section
variable {P : Program} {c : Ctx}

theorem code_ok (hc : CtxOK P c) (hm : P.follows .mixedOrders = true) : (code : Code) → (∀ b ∈ loopsOf code, LoopOK c b) → {σ : St} → {g : Ghost} → {a : Act} → {w : World} → {k : AExit → St → Option R} → {r : R} → {Q : Exit → Act → World → Prop} →
    (∀ ch a w, ¬ Q (.panic ch) a w) → codeK c code σ k = some r → StOK c.ntmps g w a σ → FreshUp g σ → Kont c.ntmps g w k r Q → code.wp P Q a w
  | .skip, _, σ, g, a, w, k, r, Q, _, h, hst, hf, hk => Go.wp_skip (hk .normal σ g a w h hst (Ext.refl _ _) hf)
  | .region id ops draw, _, σ, g, a, w, k, r, Q, hQ, h, hst, hf, hk => region_ok hc hm hQ h hst hf (fun σ' g' a' w' h' hst' hext' hf' => hk .normal σ' g' a' w' h' hst' hext' hf')
  | .seq x y, hlo, σ, g, a, w, k, r, Q, hQ, h, hst, hf, hk => by
    simp only [codeK] at h
    refine wp_seq (code_ok hc hm x (fun b hb => hlo b (by simp [loopsOf, hb])) (Q := Exit.then (y.wp P Q) Q) hQ h hst hf ?_)
    intro e σ1 g1 a1 w1 h1 hst1 hext1 hf1
    cases e with
    | normal =>
      simp only [kSeq, kCut] at h1
      show y.wp P Q a1 w1
      split at h1
      · obtain ⟨σ2, g2, h2, hst2, hext2, hf2⟩ := norm_ok hst1 hf1 h1
        exact code_ok hc hm y (fun b hb => hlo b (by simp [loopsOf, hb])) hQ h2 hst2 hf2 (hk.later (hext1.trans hext2))
      · exact code_ok hc hm y (fun b hb => hlo b (by simp [loopsOf, hb])) hQ h1 hst1 hf1 (hk.later hext1)
    | exit i => exact hk (.exit i) σ1 g1 a1 w1 h1 hst1 hext1 hf1
    | ret => exact hk .ret σ1 g1 a1 w1 h1 hst1 hext1 hf1
  | .cond x p q, hlo, σ, g, a, w, k, r, Q, hQ, h, hst, hf, hk => by
    simp only [codeK] at h
    split at h
    · rename_i t ht
      have hv := VOK_bool (ev_ok hst ht).1
      refine wp_cond hv ?_
      cases t with
      | true => exact code_ok hc hm p (fun b hb => hlo b (by simp [loopsOf, hb])) hQ h hst hf hk
      | false => exact code_ok hc hm q (fun b hb => hlo b (by simp [loopsOf, hb])) hQ h hst hf hk
    · simp at h
  | .block id b, hlo, σ, g, a, w, k, r, Q, hQ, h, hst, hf, hk => by
    simp only [codeK] at h
    refine wp_block (code_ok hc hm b (fun b' hb => hlo b' (by simp [loopsOf, hb])) (Q := Exit.inBlock id Q) hQ h hst hf ?_)
    intro e σ1 g1 a1 w1 h1 hst1 hext1 hf1
    cases e with
    | normal => exact hk .normal σ1 g1 a1 w1 h1 hst1 hext1 hf1
    | exit i =>
      simp only [kBlock] at h1
      simp only [AExit.to, Exit.inBlock]
      cases hb : Nat.beq i id with
      | true =>
        rw [hb] at h1
        rw [if_pos (Nat.eq_of_beq_eq_true hb)]
        exact hk .normal σ1 g1 a1 w1 h1 hst1 hext1 hf1
      | false =>
        rw [hb] at h1
        rw [if_neg (fun he => by subst he; rw [Nat.beq_refl] at hb; simp at hb)]
        exact hk (.exit i) σ1 g1 a1 w1 h1 hst1 hext1 hf1
    | ret => exact hk .ret σ1 g1 a1 w1 h1 hst1 hext1 hf1
  | .loop b, hlo, σ, g, a, w, k, r, Q, hQ, h, hst, hf, hk => by
    simp only [codeK] at h
    split at h
    · rename_i rg hrg
      split at h
      · rename_i lv hlv
        split at h
        · rename_i L hL
          obtain ⟨sl0, os0, g0, h, hst0, hext0, hf0⟩ := normL_ok hst hf h
          have h := hlo b (by simp [loopsOf]) rg lv L hrg hlv hL R sl0 os0 k r h
          refine wp_loop_rounds c.fuel ?_
          have rounds : ∀ (n : Nat) {sl : List (Nat × AVal)} {os : List Obj} {g1 : Ghost} {a : Act} {w1 : World}, loopN (codeK c b) lv n sl os (kExit c rg k) = some r → StOK c.ntmps g1 w1 a (St.of sl os) → FreshUp g1 (St.of sl os) → Ext w g w1 g1 → Code.rounds P b Q n a w1 := by
            intro n
            induction n with
            | zero => intro sl os g1 a w1 h; simp [loopN] at h
            | succ n ih =>
            intro sl os g1 a w1 h hst hf hext
            simp only [loopN] at h
            rw [rounds_succ]
            refine code_ok hc hm b (fun b' hb => hlo b' (by simp [loopsOf, hb])) (Q := Exit.then (Code.rounds P b Q n) Q) hQ h hst hf ?_
            intro e σ2 g2 a2 w2 h2 hst2 hext2 hf2
            cases e with
            | normal =>
              obtain ⟨sl3, os3, g3, h3, hst3, hext3, hf3⟩ := normL_ok hst2 hf2 h2
              exact ih h3 hst3 hf3 ((hext.trans hext2).trans hext3)
            | exit i =>
              simp only [kExit] at h2
              split at h2
              · obtain ⟨σ3, g3, h3, hst3, hext3, hf3⟩ := norm_ok hst2 hf2 h2
                exact hk (.exit i) σ3 g3 a2 w2 h3 hst3 ((hext.trans hext2).trans hext3) hf3
              · simp at h2
            | ret =>
              simp only [kExit] at h2
              obtain ⟨σ3, g3, h3, hst3, hext3, hf3⟩ := norm_ok hst2 hf2 h2
              exact hk .ret σ3 g3 a2 w2 h3 hst3 ((hext.trans hext2).trans hext3) hf3
          exact rounds c.fuel h hst0 hf0 hext0
        · simp at h
      · simp at h
    · simp at h
  | .exit id, _, σ, g, a, w, k, r, Q, _, h, hst, hf, hk => wp_exit (hk (.exit id) σ g a w h hst (Ext.refl _ _) hf)
  | .ret, _, σ, g, a, w, k, r, Q, _, h, hst, hf, hk => wp_ret (hk .ret σ g a w h hst (Ext.refl _ _) hf)
  | .goto _, _, _, _, _, _, _, _, _, _, h, _, _, _ => by simp [codeK] at h
  | .label _, _, _, _, _, _, _, _, _, _, h, _, _, _ => by simp [codeK] at h
  | .scope _, _, _, _, _, _, _, _, _, _, h, _, _, _ => by simp [codeK] at h
  | .rangeFunc _ _ _ _, _, _, _, _, _, _, _, _, _, h, _, _, _ => by simp [codeK] at h
  | .refuse _, _, _, _, _, _, _, _, _, _, h, _, _, _ => by simp [codeK] at h
end

end Go.Kz
