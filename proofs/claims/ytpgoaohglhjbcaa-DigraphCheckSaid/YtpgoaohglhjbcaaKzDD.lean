/-
  Layer 06, plain: law 10.
-/
import Derived.Test.YtpgoaohglhjbcaaKzD7
import Derived.Test.YtpgoaohglhjbcaaKzDC
set_option linter.unusedVariables false
set_option linter.unusedSimpArgs false
namespace Go.Kz

/-- The codes of a question about nodes are the same. -/
theorem codes_eq {g : Gr} (hF : Fits g) (A : List Int) (hA : A.length ≤ 10) (h14 : f14 5000 g = some true) : ∃ l m c, f35 5000 g A = some (l, c) ∧ f36 5000 g A = some (m, c) := by
  rcases q_cases hF A hA h14 with ⟨c, hc, e1, e2, e3, _⟩ | ⟨n, E, S, rfl, hN, hn, hl, rfl, hS, hSl, h39, h53⟩
  · exact ⟨_, _, _, e2, e3⟩
  · exact ⟨_, _, _, f35_eq hN hn hl hS hSl h39, f36_eq hN hn hl hS hSl h53⟩
theorem law10 (g : Gr) (A : List Int) (x : Int) (hf : Ty.fits (.pair (.int .i64) (.pair (.sl false (.arr 2 (.int .i64))) .unit)) g) : f10 5000 g A x = some true := by
  have hF : Fits g := fun e he => (hf.2.1 e he).1
  unfold f10
  rw [known06, Option.bind_some, Bool.not_true, cond_false]
  rcases few_cases g hF with h0 | ⟨h0, h1, h2, h3⟩
  · rw [h0]; rfl
  rw [h0, Option.bind_some, bindc]
  by_cases hA : A.length ≤ 10
  · rw [d_false (show ¬ (10 : Int) < len A by rw [len_eq]; omega), Bool.not_true, Bool.or_self, cond_false]
    obtain ⟨l, m, c, e35, e36⟩ := codes_eq hF A hA h0
    obtain ⟨p, d, e15, e16, _⟩ := path_eq hF h0 x x
    rw [h2, h1, Option.bind_some, Option.bind_some, d_true rfl, Bool.not_true, cond_false]
    rcases h3 with hc | ⟨hc, n, E, hs⟩
    · rw [(bad24 h1 h2 hc).1, e35, e15, (bad20 h1 h2 hc).1, e36, e16]
      simp only [Option.bind_some]
      rw [d_false hc]
      rw [Bool.not_false, cond_true, d_true (show len (grOf 0 []).2.1 = 0 from rfl), d_true (show (grOf 0 []).1 = 0 from rfl), d_true (show len ([] : List Int) = 0 from rfl)]
      simp only [Bool.not_true, cond_false, Option.bind_some, cond_true, decide_true]
    · obtain ⟨rfl, hN, h10, h40⟩ := hs
      rw [f24_eq hN h10 (by omega), e35, e15, f20_eq hN h10 (by omega), e36, e16, hc]
      simp only [Option.bind_some, Bool.not_true, cond_false, cond_true, decide_true]
  · rw [d_true (show (10 : Int) < len A by rw [len_eq]; omega)]
    rfl
end Go.Kz
