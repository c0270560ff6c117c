/-
  Layer 07, plain: the laws Least, Reversed and Grows.
-/
import Derived.Test.YtafhchecfmiieaaKzEG
set_option linter.unusedVariables false
set_option linter.unusedSimpArgs false
namespace Go.Kz
def Valid (n:Nat) (E:List (Nat×Nat)) (A B:List Nat) (w:List Int) (C:List Nat):Prop:=CutC n w (il C) C∧Sep E (mks A) (mks B) (mks C)
section
variable {n:Nat} {E:List (Nat×Nat)} {A B:List Nat} {w:List Int}
theorem Valid.cutt {C:List Nat} (hEn:Nod n E) (hA:Sub n A) (h:Valid n E A B w C):Sep E (mks A) (mks B) (cutt w):=
 h.2.mono hEn (fun v hv=>hA v (mk_iff.1 hv)) (fun e he=>he) fun v hv hk=>by
  cases hm:mks C v
  ·rfl
  ·have:=(h.1.ok v (mk_iff.1 hm)).2
   unfold Go.Kz.cutt at hk
   rw [decide_eq_true this] at hk;cases hk
end
end Go.Kz
