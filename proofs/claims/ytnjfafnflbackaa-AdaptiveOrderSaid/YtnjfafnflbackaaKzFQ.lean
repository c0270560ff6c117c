/-
  The layer adaptive: ProveLeast and the model's; the laws Depths and Hard.
-/
import Derived.Test.YtnjfafnflbackaaKzFP
set_option linter.unusedVariables false
set_option linter.unusedSimpArgs false
namespace Go.Kz
def zov (m:z1o):List Int:=z8v m.2.1.length
theorem zy6 (m:z1o):(zov m).all (z7z m)=true:=by
 rw [List.all_eq_true];intro q hq;have:=z8u.1 hq;simp only [z7z,zA,decide_eq_true_eq];exact this
theorem zou (m:z1o):(zov m).map (fun q=>z3d m q)=m.2.1:=by
 apply List.ext_getElem
 ·simp [zov,z8v]
 ·intro i h1 h2;simp [zov,z8v,z3d,h2]
def zn4 (m:z1o):List Int:=z1i m (zov m)
theorem f21_eq (N:Nat) (hN:5000 < N) {m:z1o} (hmk:z3r m=true):f21 N m=some (zn4 m):=by
 have hm:=zi1 hmk;have hv8:=hm.views;unfold f21;refine z1w (fun k o=>o=z8v k) m.2.1.length ?_ ?_ N (by omega) _ rfl
 ·intro k o w hk ho hw;subst ho;simp only [zo3];rw [z1g hk,cond_true,zab (by simp [z8v];omega),z09 (by omega) (by omega)];exact hw _ (zcy k).symm
 ·intro o w ho;subst ho;simp only [zo3];rw [z11,cond_false,f57_eq N hN hm (by simp [z8v];omega) (show (z8v m.2.1.length).all (z7z m)=true from zy6 m)];rfl
theorem zqb {m:z1o} {n:Nat} (hm:MenuP m n):View n (zn4 m):=z58 hm _
end Go.Kz
