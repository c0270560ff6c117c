/-
  The layer adaptive: the model's code of depths; the laws Depths and Hard.
-/
import Derived.Test.YtnjfafnflbackaaKzFQ
set_option linter.unusedVariables false
set_option linter.unusedSimpArgs false
namespace Go.Kz
theorem law9 (m:z1n) (x:List Hrd×(Int×(List z1j×Unit))) (hr:∀ e∈x.1,e.2.1 < 9223372036854775808):f9 100000 m x=some true:=by
 unfold f9;rw [known];simp only [Option.bind_some,Bool.not_true,cond_false];rw [f12_eq 100000 (by omega) m _ _ _ (by omega)];simp only [Option.bind_some]
 cases fewB m [] 10 5 with
 | false=>rfl
 | true=>
 simp only [Bool.not_true,cond_false,Option.bind_some]
 cases decide (200 < len x.1) with
 | true=>rfl
 | false=>
 simp only [cond_false,Option.bind_some]
 cases decide (60 < len x.2.2.1) with
 | true=>rfl
 | false=>
 simp only [cond_false,Option.bind_some];rw [f28_eq 100000 (by omega)];simp only [Option.bind_some]
 cases hmk:z3g m with
 | false=>rfl
 | true=>
 have hm:=zeu hmk;have hsec:=hm.secrets;have hn:=hm.few;simp only [Bool.not_true,cond_false];rw [f16_eq 100000 (by omega) hm];simp only [Option.bind_some]
 cases hst:zmp m x.2.2.1 with
 | false=>rfl
 | true=>
 obtain ⟨hl,hP⟩:=zw4 hst;simp only [Bool.not_true,cond_false];rw [f17_eq 100000 (by omega) hm hP hl,f21_eq 100000 (by omega) hmk];simp only [Option.bind_some];have hcl:=(zyq (trS m x.2.2.1) m.1.toNat).len;rw [f27_eq 100000 _ _ (by omega) (by omega)];simp only [Option.bind_some];by_cases he:clsT (trS m x.2.2.1) m.1.toNat=z5r m
 ·rw [decide_eq_true he];simp only [Bool.not_true,cond_false];rw [f29_eq 100000 (by omega)];simp only [Option.bind_some];by_cases h0:zsz m x.1 x.2.1=0
  ·rw [decide_eq_true h0];simp only [Bool.not_true,cond_false,zI,decide_eq_true_eq];unfold zsz at h0;rw [if_pos hmk] at h0;split at h0
   ·split at h0
    ·split at h0
     ·rename_i hall;split at h0
      ·rename_i hor;rcases hor with h | ⟨e,hemem,e1,e2⟩
       ·have:0≤depT (trS m x.2.2.1) m.1.toNat:=zck _ _ 0;omega
       ·obtain ⟨s,hs,_,hlen⟩:=run_deep hm (fun y hy=>List.all_eq_true.1 hall y hy) hr hP x.2.2.1.length (ze4 x.2.2.1) (z7e m.1.toNat) e (by
         unfold ze4;split
         ·left;rfl
         ·right;omega) hemem e1 (fun r s hr2 hs2 _ _ heq=>by
         rw [←he,zyr _ hr2 hs2];exact heq)
        have:=depT_le (trS m x.2.2.1) hs;simp only [len,trS] at this ⊢;omega
      ·exact absurd h0 (by decide)
     ·exact absurd h0 (by decide)
    ·exact absurd h0 (by decide)
   ·exact absurd h0 (by decide)
  ·rw [decide_eq_false h0];rfl
 ·rw [decide_eq_false he];rfl
theorem law9F (m:z1n) (x:List Hrd×(Int×(List z1j×Unit))) (hf:Ty.fits (.pair (.sl false (.pair (.int .i64) (.pair (.int .i64) .unit))) (.pair (.int .i64) (.pair (.sl false (.pair (.int .i64) (.pair (.sl false (.int .i64)) .unit))) .unit))) x):f9 100000 m x=some true:=
 law9 m x fun e he=>by
  have h1:e.2.1≤9223372036854775807:=((hf.1 e he).2.1).2;omega
end Go.Kz
